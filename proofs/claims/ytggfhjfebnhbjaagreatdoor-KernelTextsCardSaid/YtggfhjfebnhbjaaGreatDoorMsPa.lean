/- The proof of a statement, some of its texts joined in build order: part Pa. -/
import Derived.Test.YtggfhjfebnhbjaaGreatDoorMsA
import Derived.Lib.AtoiAll
import Derived.Lib.Atoi
import Derived.Lib.IndexMore
import Derived.Lib.ItoaNum
import Derived.Test.YtggfhjfebnhbjaaGreatDoorBld
import Derived.BigQuiet
import Derived.Lib.ItoaLen
import Derived.Lib.SplitLaws
import Derived.Deep.Cut
import Derived.Test.YtggfhjfebnhbjaaGreatDoorRegion
import Derived.Test.YtggfhjfebnhbjaaGreatDoorShCut
import Derived.Test.YtggfhjfebnhbjaaGreatDoorShAtoi
/- Proofs as texts, in plain words: what Format writes and what Parse reads, of both. No program is named. -/
namespace Go.Proofs.YtggfhjfebnhbjaaGreatDoor

/-- the parts of a text between single marks -/
def wordsB (m : UInt8) : List UInt8 → List (List UInt8)
  | [] => [[]]
  | c :: r => if c = m then [] :: wordsB m r else match wordsB m r with | [] => [[c]] | w :: ws => (c :: w) :: ws
theorem wordsB_ne (m : UInt8) : ∀ l, wordsB m l ≠ []
  | [] => by simp [wordsB]
  | c :: r => by
    rw [wordsB]
    split
    · simp
    · split <;> simp
theorem wordsB_no {m : UInt8} : ∀ {l : List UInt8}, m ∉ l → wordsB m l = [l]
  | [], _ => rfl
  | c :: r, h => by
    rw [List.mem_cons, not_or] at h
    rw [wordsB, if_neg (fun e => h.1 e.symm), wordsB_no h.2]
theorem wordsB_at {m : UInt8} : ∀ {l r : List UInt8}, m ∉ l → wordsB m (l ++ m :: r) = l :: wordsB m r
  | [], r, _ => by rw [List.nil_append, wordsB, if_pos rfl]
  | c :: l, r, h => by
    rw [List.mem_cons, not_or] at h
    rw [List.cons_append, wordsB, if_neg (fun e => h.1 e.symm), wordsB_at h.2]
/-- put together again -/
def joinM (m : UInt8) : List (List UInt8) → List UInt8
  | [] => []
  | [w] => w
  | w :: v :: ws => w ++ m :: joinM m (v :: ws)
theorem joinM_words (m : UInt8) : ∀ l, joinM m (wordsB m l) = l
  | [] => rfl
  | c :: r => by
    have ih := joinM_words m r
    have hn := wordsB_ne m r
    rw [wordsB]
    by_cases h : c = m
    · rw [if_pos h]
      cases hw : wordsB m r with
      | nil => exact (hn hw).elim
      | cons v ws => rw [hw] at ih; rw [joinM, ih, List.nil_append, h]
    · rw [if_neg h]
      cases hw : wordsB m r with
      | nil => exact (hn hw).elim
      | cons v ws =>
        rw [hw] at ih
        simp only
        cases ws with
        | nil => rw [joinM] at ih ⊢; rw [ih]
        | cons u ws => rw [joinM] at ih ⊢; rw [List.cons_append, ih]
theorem words_no {m : UInt8} : ∀ {l : List UInt8} {w : List UInt8}, w ∈ wordsB m l → m ∉ w
  | [], w, h => by simp [wordsB] at h; subst h; simp
  | c :: r, w, h => by
    rw [wordsB] at h
    by_cases e : c = m
    · rw [if_pos e, List.mem_cons] at h
      rcases h with h | h
      · subst h; simp
      · exact words_no h
    · rw [if_neg e] at h
      cases hw : wordsB m r with
      | nil => exact (wordsB_ne m r hw).elim
      | cons v ws =>
        rw [hw] at h
        simp only [List.mem_cons] at h
        rcases h with h | h
        · subst h
          have := words_no (m := m) (l := r) (w := v) (by rw [hw]; simp)
          rw [List.mem_cons, not_or]; exact ⟨fun e' => e e'.symm, this⟩
        · exact words_no (l := r) (by rw [hw]; simp [h])

/-- a text as a number, as the reference reads it -/
def bodyL (l : List UInt8) : List UInt8 := if l.head? = some 45 then l.tail else l
def sgnL (l : List UInt8) (m : Nat) : Int := if l.head? = some 45 then -(m : Int) else m
def numR (l : List UInt8) : Option Int :=
  if (bodyL l).length < 1 ∨ 18 < (bodyL l).length then none
  else match Lib.decFrom 0 (bodyL l) with
    | none => none
    | some m => if Lib.itoa (sgnL l m) = l then some (sgnL l m) else none
theorem numR_itoa {l : List UInt8} {n : Int} (h : numR l = some n) : Lib.itoa n = l := by
  unfold numR at h
  by_cases h1 : (bodyL l).length < 1 ∨ 18 < (bodyL l).length
  · rw [if_pos h1] at h; cases h
  · rw [if_neg h1] at h
    cases hd : Lib.decFrom 0 (bodyL l) with
    | none => rw [hd] at h; cases h
    | some m =>
      rw [hd] at h
      simp only at h
      by_cases h2 : Lib.itoa (sgnL l m) = l
      · rw [if_pos h2] at h; injection h with h; rw [← h]; exact h2
      · rw [if_neg h2] at h; cases h
def smD (n : Nat) : List UInt8 := if n < 10 then [UInt8.ofNat (48 + n)] else [UInt8.ofNat (48 + n / 10), UInt8.ofNat (48 + n % 10)]
theorem itoa_sm {n : Nat} (h : n < 100) : Lib.itoa (n : Int) = smD n := by
  have : Lib.itoa (n : Int) = Lib.decDigits n := by unfold Lib.itoa; rw [if_neg (by omega)]; simp
  rw [this]
  unfold smD
  by_cases h1 : n < 10
  · rw [if_pos h1, Lib.decDigits_one h1]
  · rw [if_neg h1, Lib.decDigits_two h1 h]
theorem smD_facts : ∀ n : Fin 60, (smD n.1).head? ≠ some 45 ∧ 1 ≤ (smD n.1).length ∧ (smD n.1).length ≤ 2 ∧ Lib.decFrom 0 (smD n.1) = some n.1 ∧ Lib.atoiAll (smD n.1) = .ok (n.1 : Int) ∧ (32 : UInt8) ∉ smD n.1 ∧ (10 : UInt8) ∉ smD n.1 := by decide +kernel
theorem numR_sm {n : Nat} (h : n < 60) : numR (smD n) = some (n : Int) := by
  obtain ⟨h1, h2, h3, h4, -⟩ := smD_facts ⟨n, h⟩
  simp only at h1 h2 h3 h4
  have hb : bodyL (smD n) = smD n := by unfold bodyL; rw [if_neg h1]
  have hs : sgnL (smD n) n = (n : Int) := by unfold sgnL; rw [if_neg h1]
  unfold numR
  rw [hb, if_neg (by omega), h4]
  simp only
  rw [hs, itoa_sm (by omega), if_pos rfl]
/-- what Atoi makes of a text -/
def atoiV (l : List UInt8) : Int := match Lib.atoiAll l with | .ok v => v | .range => Lib.atoiSat l | _ => 0
theorem atoiV_sm {n : Nat} (h : n < 60) : atoiV (smD n) = (n : Int) := by
  unfold atoiV; rw [(smD_facts ⟨n, h⟩).2.2.2.2.1]

def citeW : List UInt8 := [99, 105, 116, 101]
def detW : List UInt8 := [100, 101, 116, 97, 99, 104]
/-- a step's line, without its end -/
def lineB (x : Stp) : List UInt8 := if x.1 = 1 then citeW ++ 32 :: Lib.itoa x.2.1 else detW ++ 32 :: (Lib.itoa x.2.1 ++ 32 :: Lib.itoa x.2.2)
def lineT (x : Stp) : List UInt8 := lineB x ++ [10]
/-- what the reference makes of a line -/
def refX (l : List UInt8) : Stp :=
  match (wordsB 32 l).tail.mapM numR with
  | some [a] => if (wordsB 32 l).headD [] = citeW then (1, a, 0) else (0, 0, 0)
  | some [a, b] => if (wordsB 32 l).headD [] = detW then (2, a, b) else (0, 0, 0)
  | _ => (0, 0, 0)
/-- what the program makes of a line -/
def cut32 (l : List UInt8) : List UInt8 × List UInt8 × Bool := Lib.cut l [32]
def progX (l : List UInt8) : Stp :=
  if (cut32 l).1 = detW ∧ (cut32 (cut32 l).2.1).2.2 = true then (2, atoiV (cut32 (cut32 l).2.1).1, atoiV (cut32 (cut32 l).2.1).2.1) else (1, atoiV (cut32 (cut32 l).2.1).1, 0)
theorem index_no {m : UInt8} : ∀ {l : List UInt8}, m ∉ l → Lib.index l [m] = -1
  | [], _ => rfl
  | c :: r, h => by
    rw [List.mem_cons, not_or] at h
    have hc : (m == c) = false := by rw [beq_eq_false_iff_ne]; exact h.1
    unfold Lib.index
    rw [index_no h.2]
    simp [List.isPrefixOf, hc]
theorem index_at {m : UInt8} : ∀ {l r : List UInt8}, m ∉ l → Lib.index (l ++ m :: r) [m] = l.length
  | [], r, _ => by unfold Lib.index; simp [List.isPrefixOf]
  | c :: l, r, h => by
    rw [List.mem_cons, not_or] at h
    have hc : (m == c) = false := by rw [beq_eq_false_iff_ne]; exact h.1
    rw [List.cons_append]
    unfold Lib.index
    rw [index_at h.2]
    simp [List.isPrefixOf, hc]
    try omega
theorem cut_no {m : UInt8} {l : List UInt8} (h : m ∉ l) : Lib.cut l [m] = (l, [], false) := by
  unfold Lib.cut; rw [index_no h]; rfl
theorem cut_at {m : UInt8} {l r : List UInt8} (h : m ∉ l) : Lib.cut (l ++ m :: r) [m] = (l, r, true) := by
  unfold Lib.cut
  rw [index_at h, if_pos (by omega)]
  simp
theorem right_form {i : Nat} {x : Stp} (h : rightB 60 i x = true) (hi : i ≤ 60) : (∃ a : Nat, a < 60 ∧ x = (1, (a : Int), 0)) ∨ (∃ a b : Nat, a < 60 ∧ b < 60 ∧ x = (2, (a : Int), (b : Int))) := by
  by_cases h1 : x.1 = 1
  · obtain ⟨c1, c2, c3⟩ := rightB_cite h h1
    exact .inl ⟨x.2.1.toNat, by omega, Prod.ext h1 (Prod.ext (by simp only; omega) c3)⟩
  · obtain ⟨d0, d1, d2, d3, d4⟩ := rightB_detach h h1
    exact .inr ⟨x.2.1.toNat, x.2.2.toNat, by omega, by omega, Prod.ext d0 (Prod.ext (by simp only; omega) (by simp only; omega))⟩
theorem lineB_cite {a : Nat} (h : a < 60) : lineB (1, (a : Int), 0) = citeW ++ 32 :: smD a := by
  unfold lineB; rw [if_pos rfl, itoa_sm (by omega)]
theorem lineB_det {a b : Nat} (h : a < 60) (k : b < 60) : lineB (2, (a : Int), (b : Int)) = detW ++ 32 :: (smD a ++ 32 :: smD b) := by
  unfold lineB; rw [if_neg (by simp), itoa_sm (by omega), itoa_sm (by omega)]
theorem refX_line {i : Nat} {x : Stp} (h : rightB 60 i x = true) (hi : i ≤ 60) : refX (lineB x) = x := by
  rcases right_form h hi with ⟨a, ha, rfl⟩ | ⟨a, b, ha, hb, rfl⟩
  · have f := smD_facts ⟨a, ha⟩
    unfold refX
    rw [lineB_cite ha, wordsB_at (by decide), wordsB_no f.2.2.2.2.2.1]
    simp only [List.tail_cons, List.headD_cons, List.mapM_cons, List.mapM_nil, numR_sm ha]
    rfl
  · have f := smD_facts ⟨a, ha⟩
    have g := smD_facts ⟨b, hb⟩
    unfold refX
    rw [lineB_det ha hb, wordsB_at (by decide), wordsB_at f.2.2.2.2.2.1, wordsB_no g.2.2.2.2.2.1]
    simp only [List.tail_cons, List.headD_cons, List.mapM_cons, List.mapM_nil, numR_sm ha, numR_sm hb]
    rfl
theorem progX_line {i : Nat} {x : Stp} (h : rightB 60 i x = true) (hi : i ≤ 60) : progX (lineB x) = x := by
  rcases right_form h hi with ⟨a, ha, rfl⟩ | ⟨a, b, ha, hb, rfl⟩
  · have f := smD_facts ⟨a, ha⟩
    unfold progX cut32
    rw [lineB_cite ha, cut_at (by decide)]
    simp only
    rw [cut_no f.2.2.2.2.2.1, if_neg (by simp), atoiV_sm ha]
  · have f := smD_facts ⟨a, ha⟩
    unfold progX cut32
    rw [lineB_det ha hb, cut_at (by decide)]
    simp only
    rw [cut_at f.2.2.2.2.2.1, if_pos (by simp), atoiV_sm ha, atoiV_sm hb]
theorem mapM_one {a : Int} : ∀ {l : List (List UInt8)}, l.mapM numR = some [a] → ∃ w, l = [w] ∧ numR w = some a
  | [], h => by simp at h
  | w :: l, h => by
    rw [List.mapM_cons] at h
    cases hw : numR w with
    | none => rw [hw] at h; simp at h
    | some v =>
      cases hl : l.mapM numR with
      | none => rw [hw, hl] at h; simp at h
      | some vs =>
        rw [hw, hl] at h
        simp at h
        obtain ⟨rfl, rfl⟩ := h
        cases l with
        | nil => exact ⟨w, rfl, hw⟩
        | cons u l =>
          rw [List.mapM_cons] at hl
          cases hu : numR u with
          | none => rw [hu] at hl; simp at hl
          | some v' =>
            cases hl2 : l.mapM numR with
            | none => rw [hu, hl2] at hl; simp at hl
            | some vs' => rw [hu, hl2] at hl; simp at hl
theorem mapM_two {a b : Int} {l : List (List UInt8)} (h : l.mapM numR = some [a, b]) : ∃ w u, l = [w, u] ∧ numR w = some a ∧ numR u = some b := by
  cases l with
  | nil => simp at h
  | cons w l =>
    rw [List.mapM_cons] at h
    cases hw : numR w with
    | none => rw [hw] at h; simp at h
    | some v =>
      cases hl : l.mapM numR with
      | none => rw [hw, hl] at h; simp at h
      | some vs =>
        rw [hw, hl] at h
        simp at h
        obtain ⟨rfl, rfl⟩ := h
        obtain ⟨u, rfl, hu⟩ := mapM_one hl
        exact ⟨w, u, rfl, hw, hu⟩
theorem refX_back {i : Nat} {l : List UInt8} (h : rightB 60 i (refX l) = true) : lineB (refX l) = l := by
  have hz : rightB 60 i (0, 0, 0) = true → False := fun h => by simp [rightB] at h
  have hj := joinM_words 32 l
  unfold refX at h ⊢
  split
  · rename_i a hm
    rw [hm] at h
    simp only at h
    obtain ⟨w, hw, hn⟩ := mapM_one hm
    split
    · rename_i hc
      cases hwl : wordsB 32 l with
      | nil => exact (wordsB_ne _ _ hwl).elim
      | cons v ws =>
        rw [hwl] at hj hw hc
        simp only [List.tail_cons, List.headD_cons] at hw hc
        subst hw hc
        rw [joinM, joinM] at hj
        unfold lineB
        rw [if_pos rfl, numR_itoa hn]
        exact hj
    · rename_i hc; rw [if_neg hc] at h; exact (hz h).elim
  · rename_i a b hm
    rw [hm] at h
    simp only at h
    obtain ⟨w, u, hw, hn, hu⟩ := mapM_two hm
    split
    · rename_i hc
      cases hwl : wordsB 32 l with
      | nil => exact (wordsB_ne _ _ hwl).elim
      | cons v ws =>
        rw [hwl] at hj hw hc
        simp only [List.tail_cons, List.headD_cons] at hw hc
        subst hw hc
        rw [joinM, joinM, joinM] at hj
        unfold lineB
        rw [if_neg (by simp), numR_itoa hn, numR_itoa hu]
        exact hj
    · rename_i hc; rw [if_neg hc] at h; exact (hz h).elim
  · rename_i h1 h2
    split at h
    · rename_i a hm; exact (h1 a hm).elim
    · rename_i a b hm; exact (h2 a b hm).elim
    · exact (hz h).elim
/-- both take a line alike -/
theorem line_both {i : Nat} {l : List UInt8} (hi : i ≤ 60) : (rightB 60 i (progX l) = true ∧ lineB (progX l) = l) ↔ rightB 60 i (refX l) = true := by
  constructor
  · rintro ⟨h1, h2⟩
    have := refX_line h1 hi
    rw [h2] at this
    rw [this]; exact h1
  · intro h
    have h2 := refX_back h
    have h3 := progX_line h hi
    rw [h2] at h3
    rw [h3]; exact ⟨h, h2⟩
theorem line_same {i : Nat} {l : List UInt8} (hi : i ≤ 60) (h : rightB 60 i (refX l) = true) : progX l = refX l := by
  have h2 := refX_back h
  have h3 := progX_line h hi
  rwa [h2] at h3
/-- the lines, one behind the other -/
def parseL : List (List UInt8) → Nat → List Stp → List Stp × Nat × Int
  | [], i, _ => ([], i, 2)
  | [l], i, acc => if l = [] ∧ acc ≠ [] then (acc, 0, 0) else ([], i, 2)
  | l :: v :: r, i, acc => if i < 60 ∧ rightB 60 i (refX l) = true then parseL (v :: r) (i + 1) (acc ++ [refX l]) else ([], i, 2)
def parseE (t : List UInt8) : List Stp × Nat × Int := if t.length ≤ 65536 then parseL (wordsB 10 t) 0 [] else ([], 0, 3)
def formatE (p : List Stp) : List UInt8 := if validP 60 p = true then p.flatMap lineT else []
end Go.Proofs.YtggfhjfebnhbjaaGreatDoor

/- A tree's text read back: what the read proof has and says. No program is named. -/
namespace Go.Proofs.YtggfhjfebnhbjaaGreatDoor

def insT : List Stp → Tr → List Stp × Nat
  | p, .g n => addP p (1, (n : Int), 0)
  | p, .d a b => addP (insT (insT p a).1 b).1 (2, ((insT p a).2 : Int), ((insT (insT p a).1 b).2 : Int))
theorem untR_cite {G : Int} {n : Nat} (hn : (n : Int) < G) (h100 : n < 100) (r : List UInt8) (st : List (Option Nat)) (p : List Stp) :
    untR G ((Tr.g n).text ++ r) st p none = untR G r (closeP st (addP p (1, (n : Int), 0)).1 (addP p (1, (n : Int), 0)).2).1 (closeP st (addP p (1, (n : Int), 0)).1 (addP p (1, (n : Int), 0)).2).2.1 (closeP st (addP p (1, (n : Int), 0)).1 (addP p (1, (n : Int), 0)).2).2.2 := by
  obtain ⟨h1, h2, h3⟩ := num_digs h100
  rw [Tr.text, digs, List.cons_append, List.cons_append, List.cons_append, List.nil_append, untR_g, if_pos ⟨h1, h2, by rw [h3]; exact hn⟩, h3]
theorem untR_text {G : Int} : ∀ (t : Tr), (∀ n ∈ t.leaves, (n : Int) < G ∧ n < 100) → ∀ (r : List UInt8) (st : List (Option Nat)) (p : List Stp),
    untR G (t.text ++ r) st p none = untR G r (closeP st (insT p t).1 (insT p t).2).1 (closeP st (insT p t).1 (insT p t).2).2.1 (closeP st (insT p t).1 (insT p t).2).2.2
  | .g n, h, r, st, p => untR_cite (h n (by simp [Tr.leaves])).1 (h n (by simp [Tr.leaves])).2 r st p
  | .d a b, h, r, st, p => by
    rw [Tr.text, List.cons_append, untR_D, List.append_assoc, untR_text a (fun n hn => h n (by simp [Tr.leaves, hn])), closeP]
    simp only
    rw [untR_text b (fun n hn => h n (by simp [Tr.leaves, hn])), closeP]
    rfl
structure InsT (G : Int) (p : List Stp) (t : Tr) (p' : List Stp) (k : Nat) : Prop where
  nd : p'.Nodup
  ok : okSteps G 0 p' = true
  pre : p <+: p'
  lt : k < p'.length
  tr : (trees p').getD k (.g 0) = t
  all : ∀ u ∈ trees p', u ∈ trees p ∨ u ∈ t.subs
  new : t ∉ trees p → k + 1 = p'.length
theorem Tr.subs_le {u : Tr} : ∀ {t : Tr}, u ∈ t.subs → u.text.length ≤ t.text.length
  | .g n, h => by rw [Tr.subs, List.mem_singleton] at h; rw [h]; exact Nat.le_refl _
  | .d a b, h => by
    rw [Tr.subs, List.mem_cons, List.mem_append] at h
    rcases h with h | h | h
    · rw [h]; exact Nat.le_refl _
    · have := Tr.subs_le h; simp only [Tr.text, List.length_cons, List.length_append]; omega
    · have := Tr.subs_le h; simp only [Tr.text, List.length_cons, List.length_append]; omega
theorem pre_trees {p p' : List Stp} (h : p <+: p') : ∃ us, trees p' = trees p ++ us := by
  obtain ⟨q, rfl⟩ := h
  exact trees_more q p
theorem insT_spec {G : Int} : ∀ (t : Tr) (p : List Stp), (∀ n ∈ t.leaves, (n : Int) < G) → p.Nodup → okSteps G 0 p = true → InsT G p t (insT p t).1 (insT p t).2
  | .g n, p, h, nd, ok => by
    have hS := addP_spec nd ok (right_cite (i := p.length) (h n (by simp [Tr.leaves])))
    have htr := hS.tr
    rw [trS_cite] at htr
    exact ⟨hS.nd, hS.ok, hS.pre, hS.lt, htr, fun u hu => by
      rcases hS.all u hu with k | k
      · exact .inl k
      · rw [trS_cite] at k; exact .inr (by rw [k]; simp [Tr.subs]), fun hn => hS.new fun hm => hn (by have := mem_trees ok hm; rwa [trS_cite] at this)⟩
  | .d a b, p, h, nd, ok => by
    have ha := insT_spec a p (fun n hn => h n (by simp [Tr.leaves, hn])) nd ok
    have hb := insT_spec b (insT p a).1 (fun n hn => h n (by simp [Tr.leaves, hn])) ha.nd ha.ok
    rw [insT]
    have hka : (insT p a).2 < (insT (insT p a).1 b).1.length := Nat.lt_of_lt_of_le ha.lt hb.pre.length_le
    have hS := addP_spec hb.nd hb.ok (right_det (G := G) hka hb.lt)
    obtain ⟨us, hus⟩ := pre_trees hb.pre
    have hta : (trees (insT (insT p a).1 b).1).getD (insT p a).2 (.g 0) = a := by
      rw [hus, getD_more _ (by rw [trees_len]; exact ha.lt)]; exact ha.tr
    have hx : trS (trees (insT (insT p a).1 b).1) (2, ((insT p a).2 : Int), ((insT (insT p a).1 b).2 : Int)) = .d a b := by rw [trS_det, hta, hb.tr]
    have htr := hS.tr
    rw [hx] at htr
    refine ⟨hS.nd, hS.ok, ha.pre.trans (hb.pre.trans hS.pre), hS.lt, htr, fun u hu => ?_, fun hn => hS.new fun hm => ?_⟩
    rotate_left
    · have hm := mem_trees hb.ok hm
      rw [hx] at hm
      rcases hb.all _ hm with k | k
      · rcases ha.all _ k with k | k
        · exact hn k
        · have := Tr.subs_le k; simp only [Tr.text, List.length_cons, List.length_append] at this; omega
      · have := Tr.subs_le k; simp only [Tr.text, List.length_cons, List.length_append] at this; omega
    rcases hS.all u hu with k | k
    · rcases hb.all u k with k | k
      · rcases ha.all u k with k | k
        · exact .inl k
        · right; simp [Tr.subs, k]
      · right; simp [Tr.subs, k]
    · rw [hx] at k; right; rw [k]; exact Tr.sub_self _

/-- the tree's leaves are givens -/
theorem leaves_ok {G : Int} {p : List Stp} (h : okSteps G 0 p = true) : ∀ (k : Nat) (_ : k < p.length), ∀ n ∈ ((trees p).getD k (.g 0)).leaves, (n : Int) < G := by
  intro k
  induction k using Nat.strongRecOn with
  | _ k ih =>
    intro hk n hn
    rw [trees_at h k hk] at hn
    have hr := okS_get p 0 k hk h
    rw [Nat.zero_add] at hr
    unfold trS at hn
    by_cases h2 : p[k].1 = 2
    · obtain ⟨-, d1, d2, d3, d4⟩ := rightB_detach hr (by omega)
      rw [if_pos h2, Tr.leaves, List.mem_append] at hn
      rcases hn with hn | hn
      · exact ih _ (by omega) (by omega) n hn
      · exact ih _ (by omega) (by omega) n hn
    · have h1 : p[k].1 = 1 := by
        rcases Classical.em (p[k].1 = 1) with e | e
        · exact e
        · exact (h2 (rightB_detach hr e).1).elim
      obtain ⟨c1, c2, -⟩ := rightB_cite hr h1
      rw [if_neg h2, Tr.leaves, List.mem_singleton] at hn
      subst hn; omega
/-- which steps are needed by the step k -/
inductive Nd (p : List Stp) : Nat → Nat → Prop where
  | self (k : Nat) : Nd p k k
  | a {k j : Nat} (hk : k < p.length) (h2 : p[k].1 = 2) (h : Nd p p[k].2.1.toNat j) : Nd p k j
  | b {k j : Nat} (hk : k < p.length) (h2 : p[k].1 = 2) (h : Nd p p[k].2.2.toNat j) : Nd p k j
/-- each part of a step's tree is the tree of a step that it needs -/
theorem subs_nd {G : Int} {p : List Stp} (h : okSteps G 0 p = true) : ∀ (k : Nat) (_ : k < p.length), ∀ u ∈ ((trees p).getD k (.g 0)).subs, ∃ j, ∃ _ : j < p.length, Nd p k j ∧ (trees p).getD j (.g 0) = u := by
  intro k
  induction k using Nat.strongRecOn with
  | _ k ih =>
    intro hk u hu
    have ht := trees_at h k hk
    have hr := okS_get p 0 k hk h
    rw [Nat.zero_add] at hr
    unfold trS at ht
    by_cases h2 : p[k].1 = 2
    · obtain ⟨-, d1, d2, d3, d4⟩ := rightB_detach hr (by omega)
      rw [if_pos h2] at ht
      rw [ht, Tr.subs, List.mem_cons, List.mem_append] at hu
      rcases hu with hu | hu | hu
      · exact ⟨k, hk, .self k, by rw [hu, ht]⟩
      · obtain ⟨j, hj, n1, n2⟩ := ih _ (by omega) (by omega) u hu
        exact ⟨j, hj, .a hk h2 n1, n2⟩
      · obtain ⟨j, hj, n1, n2⟩ := ih _ (by omega) (by omega) u hu
        exact ⟨j, hj, .b hk h2 n1, n2⟩
    · rw [if_neg h2] at ht
      rw [ht, Tr.subs, List.mem_singleton] at hu
      exact ⟨k, hk, .self k, by rw [hu, ht]⟩

/-! ### what trees say -/
noncomputable def sayT (s : Sg) (g : List (List Int)) : Tr → List Int × Int
  | .g n => (canon (g.getD n []), 0)
  | .d a b => detE s (sayT s g a).1 (sayT s g b).1
theorem stepE_tree {s : Sg} {g l : List (List Int)} {ts : List Tr} {x : Stp} {G : Int} (hx : rightB G ts.length x = true) (hl : l = ts.map (fun t => (sayT s g t).1)) : stepE s g l x = sayT s g (trS ts x) := by
  unfold stepE trS
  by_cases h1 : x.1 = 1
  · rw [if_pos h1, if_neg (by omega)]; rfl
  · obtain ⟨h2, d1, d2, d3, d4⟩ := rightB_detach hx h1
    rw [if_neg h1, if_pos h2, sayT, hl]
    have e : ∀ n, n < ts.length → (ts.map (fun t => (sayT s g t).1)).getD n [] = (sayT s g (ts.getD n (.g 0))).1 := fun n hn => by
      rw [List.getD_eq_getElem?_getD, List.getD_eq_getElem?_getD, List.getElem?_map, List.getElem?_eq_getElem hn]; rfl
    rw [e _ (by omega), e _ (by omega)]
theorem trL_pre : ∀ (p : List Stp) (ts : List Tr), ts <+: trL p ts
  | [], _ => List.prefix_refl _
  | _ :: p, _ => (List.prefix_append _ _).trans (trL_pre p _)
theorem runL_of {s : Sg} {g : List (List Int)} {G : Int} : ∀ (p : List Stp) (ts : List Tr), okSteps G ts.length p = true → (∀ t ∈ trL p ts, (sayT s g t).2 = 0) → runL s g p (ts.map (fun t => (sayT s g t).1)) = ((trL p ts).map (fun t => (sayT s g t).1), 0)
  | [], ts, _, _ => rfl
  | x :: p, ts, h, ha => by
    simp only [okSteps, Bool.and_eq_true] at h
    have hx : (sayT s g (trS ts x)).2 = 0 := ha _ ((trL_pre p (ts ++ [trS ts x])).subset (by simp))
    rw [runL, trL, stepE_tree h.1 rfl, if_pos hx]
    have ih := runL_of p (ts ++ [trS ts x]) (by rw [List.length_append, List.length_singleton]; exact h.2) ha
    rw [List.map_append, List.map_singleton] at ih
    exact ih
theorem runL_all {s : Sg} {g : List (List Int)} {G : Int} : ∀ (p : List Stp) (ts : List Tr), okSteps G ts.length p = true → (∀ t ∈ ts, (sayT s g t).2 = 0) → (runL s g p (ts.map (fun t => (sayT s g t).1))).2 = 0 → ∀ t ∈ trL p ts, (sayT s g t).2 = 0
  | [], ts, _, ha, _ => ha
  | x :: p, ts, h, ha, hz => by
    simp only [okSteps, Bool.and_eq_true] at h
    rw [runL, stepE_tree h.1 rfl] at hz
    by_cases hx : (sayT s g (trS ts x)).2 = 0
    · rw [if_pos hx] at hz
      rw [trL]
      refine runL_all p (ts ++ [trS ts x]) (by rw [List.length_append, List.length_singleton]; exact h.2) (fun t ht => ?_) (by rw [List.map_append, List.map_singleton]; exact hz)
      rw [List.mem_append, List.mem_singleton] at ht
      rcases ht with ht | ht
      · exact ha t ht
      · rw [ht]; exact hx
    · rw [if_neg hx] at hz; exact (hx hz).elim
/-- different steps have different trees -/
theorem trees_inj {G : Int} {p : List Stp} (h : okSteps G 0 p = true) (nd : p.Nodup) : ∀ (i j : Nat) (_ : i < p.length) (_ : j < p.length), (trees p).getD i (.g 0) = (trees p).getD j (.g 0) → i = j := by
  intro i
  induction i using Nat.strongRecOn with
  | _ i ih =>
    intro j hi hj e
    rw [trees_at h i hi, trees_at h j hj] at e
    have hri := okS_get p 0 i hi h
    have hrj := okS_get p 0 j hj h
    rw [Nat.zero_add] at hri hrj
    have he : p[i] = p[j] := by
      unfold trS at e
      by_cases h2 : p[i].1 = 2
      · obtain ⟨-, d1, d2, d3, d4⟩ := rightB_detach hri (by omega)
        rw [if_pos h2] at e
        by_cases k2 : p[j].1 = 2
        · obtain ⟨-, e1, e2, e3, e4⟩ := rightB_detach hrj (by omega)
          rw [if_pos k2] at e
          simp only [Tr.d.injEq] at e
          have q1 := ih _ (by omega) _ (by omega) (by omega) e.1
          have q2 := ih _ (by omega) _ (by omega) (by omega) e.2
          exact Prod.ext (by omega) (Prod.ext (by omega) (by omega))
        · rw [if_neg k2] at e; cases e
      · rw [if_neg h2] at e
        by_cases k2 : p[j].1 = 2
        · rw [if_pos k2] at e; cases e
        · rw [if_neg k2] at e
          simp only [Tr.g.injEq] at e
          have h1 : p[i].1 = 1 := Classical.byContradiction fun k => h2 (rightB_detach hri k).1
          have k1 : p[j].1 = 1 := Classical.byContradiction fun k => k2 (rightB_detach hrj k).1
          obtain ⟨c1, -, c2⟩ := rightB_cite hri h1
          obtain ⟨c3, -, c4⟩ := rightB_cite hrj k1
          exact Prod.ext (by omega) (Prod.ext (by omega) (by omega))
    exact (List.getElem_inj nd).1 he
theorem trees_nodup {G : Int} {p : List Stp} (h : okSteps G 0 p = true) (nd : p.Nodup) : (trees p).Nodup := by
  unfold List.Nodup
  rw [List.pairwise_iff_getElem]
  intro i j hi hj hij e
  have hi' := hi
  have hj' := hj
  rw [trees_len] at hi' hj'
  have := trees_inj h nd i j hi' hj' (by rw [List.getD_eq_getElem?_getD, List.getD_eq_getElem?_getD, List.getElem?_eq_getElem hi, List.getElem?_eq_getElem hj, e])
  omega
theorem nodup_le {α : Type} [DecidableEq α] : ∀ {l m : List α}, l.Nodup → (∀ x ∈ l, x ∈ m) → l.length ≤ m.length
  | [], m, _, _ => Nat.zero_le _
  | x :: l, m, hn, hs => by
    rw [List.nodup_cons] at hn
    have hx := hs x (by simp)
    have ih := nodup_le (m := m.erase x) hn.2 (fun y hy => (List.mem_erase_of_ne (fun e => hn.1 (by rw [← e]; exact hy))).2 (hs y (by simp [hy])))
    rw [List.length_erase_of_mem hx] at ih
    have := List.length_pos_of_mem hx
    rw [List.length_cons]; omega
theorem last_tree {p : List Stp} (_ : 1 ≤ p.length) : (trees p).getLastD (.g 0) = (trees p).getD (p.length - 1) (.g 0) := by
  rw [List.getLastD_eq_getLast?, List.getLast?_eq_getElem?, trees_len, List.getD_eq_getElem?_getD]
/-- the text of a proof's tree, read back -/
theorem unt_tree {G : Int} {p : List Stp} (hG : G ≤ 100) (h : okSteps G 0 p = true) (h1 : 1 ≤ p.length) (h60 : p.length ≤ 60) :
    ∃ q, untR G ((trees p).getLastD (.g 0)).text [] [] none = (q, 0) ∧ q.Nodup ∧ okSteps G 0 q = true ∧ 1 ≤ q.length ∧ q.length ≤ 60 ∧ (trees q).getLastD (.g 0) = (trees p).getLastD (.g 0) ∧ ∀ u ∈ trees q, u ∈ ((trees p).getLastD (.g 0)).subs := by
  have hl := leaves_ok h (p.length - 1) (by omega)
  have hs := subs_nd h (p.length - 1) (by omega)
  rw [← last_tree h1] at hl hs
  generalize (trees p).getLastD (.g 0) = t at hl hs
  have hI := insT_spec (G := G) t [] hl .nil rfl
  have ht := untR_text (G := G) t (fun n hn => ⟨hl n hn, by have := hl n hn; omega⟩) [] [] []
  rw [List.append_nil, closeP, untR_end] at ht
  have hall : ∀ u ∈ trees (insT [] t).1, u ∈ t.subs := fun u hu => by
    rcases hI.all u hu with k | k
    · cases k
    · exact k
  have hlen : (insT [] t).1.length ≤ 60 := by
    open Classical in
    have := nodup_le (m := trees p) (trees_nodup hI.ok hI.nd) (fun u hu => by
      obtain ⟨j, hj, -, e⟩ := hs u (hall u hu)
      rw [← e, List.getD_eq_getElem?_getD, List.getElem?_eq_getElem (by rw [trees_len]; exact hj)]
      exact List.getElem_mem _)
    rw [trees_len, trees_len] at this; omega
  rw [if_pos hlen] at ht
  have hk := hI.new (by intro h; cases h)
  have h1' : 1 ≤ (insT [] t).1.length := by omega
  refine ⟨_, ht, hI.nd, hI.ok, h1', hlen, ?_, hall⟩
  rw [last_tree h1', ← hk, Nat.add_sub_cancel]; exact hI.tr
/-- a tree read back says what the proof says -/
theorem says_tree {s : Sg} {g : List (List Int)} {p q : List Stp} (hp : (saysE s g p).2 = 0) (hq : okSteps g.length 0 q = true) (h1 : 1 ≤ q.length) (h60 : q.length ≤ 60)
    (hl : (trees q).getLastD (.g 0) = (trees p).getLastD (.g 0)) (ha : ∀ u ∈ trees q, u ∈ ((trees p).getLastD (.g 0)).subs) : saysE s g q = saysE s g p := by
  unfold saysE at hp ⊢
  by_cases hx : askedB s g p = true
  · rw [if_pos hx] at hp ⊢
    by_cases hz : (runL s g p []).2 = 0
    · rw [if_pos hz]
      simp only [askedB, Bool.and_eq_true] at hx
      obtain ⟨ok, p1, p2⟩ := validP_parts hx.2
      have hq' : askedB s g q = true := by
        simp only [askedB, Bool.and_eq_true]
        refine ⟨hx.1, ?_⟩
        unfold validP
        rw [hq, decide_eq_true h1, decide_eq_true h60]; rfl
      have hall := runL_all (s := s) (g := g) p [] ok (fun t h => by cases h) hz
      have hp2 := runL_of (s := s) (g := g) p [] ok hall
      have hsub := subs_nd ok (p.length - 1) (by omega)
      rw [← last_tree p1] at hsub
      have hq2 := runL_of (s := s) (g := g) q [] hq (fun t ht => by
        obtain ⟨j, hj, -, e⟩ := hsub t (ha t ht)
        refine hall t ?_
        rw [← e, List.getD_eq_getElem?_getD]
        change (trees p)[j]?.getD (.g 0) ∈ trees p
        rw [List.getElem?_eq_getElem (by rw [trees_len]; exact hj)]
        exact List.getElem_mem _)
      rw [List.map_nil] at hp2 hq2
      rw [if_pos hq', hq2, hp2]
      simp only [if_true]
      have e : ∀ r : List Stp, 1 ≤ r.length → ((trL r []).map (fun t => (sayT s g t).1)).getLastD [] = (sayT s g ((trees r).getLastD (.g 0))).1 := fun r hr => by
        have hr' : 1 ≤ (trees r).length := by rw [trees_len]; exact hr
        change ((trees r).map (fun t => (sayT s g t).1)).getLastD [] = _
        rw [List.getLastD_eq_getLast?, List.getLastD_eq_getLast?, List.getLast?_map, List.getLast?_eq_getElem?, List.getElem?_eq_getElem (by omega)]
        rfl
      rw [e q h1, e p p1, hl]
    · rw [if_neg hz] at hp; exact (hz hp).elim
  · rw [if_neg hx] at hp; cases hp
/-- what Tree answers -/
def treeE (G : Int) (p : List Stp) : List UInt8 × Int :=
  if proofB G p = true then (if ((trees p).getLastD (.g 0)).text.length ≤ 65536 then (((trees p).getLastD (.g 0)).text, 0) else ([], 3)) else ([], 1)
/-- a text that is read is the tree of what is read -/
theorem tree_unt {G : Int} {t : ByteArray} {q : List Stp} (h : untE G t = (q, 0)) : treeE G q = (t.data.toList, 0) := by
  unfold untE at h
  by_cases hG : 0 ≤ G ∧ G ≤ 60
  · rw [if_pos hG] at h
    by_cases hs : t.size ≤ 65536
    · rw [if_pos hs] at h
      obtain ⟨k, hJ, h60⟩ := untR_ok _ _ _ _ _ _ (Nat.le_refl _) (.start G) h
      obtain ⟨-, k1, k2⟩ := hJ.whole k rfl
      have hp : proofB G q = true := by
        unfold proofB validP
        rw [decide_eq_true hG.1, decide_eq_true hG.2, hJ.ok, decide_eq_true h60, decide_eq_true (show 1 ≤ q.length by omega)]; rfl
      rw [List.nil_append] at k2
      have hl : (trees q).getLastD (.g 0) = (trees q).getD k (.g 0) := by rw [last_tree (by omega), show q.length - 1 = k by omega]
      unfold treeE
      rw [if_pos hp, hl, ← k2, if_pos (by rw [Array.length_toList]; exact hs)]
    · rw [if_neg hs] at h; cases h
  · rw [if_neg hG] at h; cases h
end Go.Proofs.YtggfhjfebnhbjaaGreatDoor

/- Walks: the closure of kernel.Tree, which writes a step's tree to a builder. -/
namespace Go.Proofs.YtggfhjfebnhbjaaGreatDoor
open Go Go.RowKit

theorem tabAt : ∃ g, Tryz.prog.globalNamed tabName = some g := Option.isSome_iff_exists.1 (by kernel_rfl)
theorem TabW.below {w w' : World} (h : TabW w) (hb : Below w.heap.size w w') : TabW w' := by
  obtain ⟨g, hgn⟩ := tabAt
  unfold TabW Lib.TabIs World.var? at h ⊢
  rw [hgn] at h ⊢
  simp only [Option.bind_some] at h ⊢
  have hlt : g < w.heap.size := by
    rcases Nat.lt_or_ge g w.heap.size with h' | h'
    · exact h'
    · rw [Array.getElem?_eq_none h'] at h; cases h
  rw [hb.block g hlt]
  exact h
theorem itoa3_digs : ∀ n : Nat, n < 60 → Lib.itoa ((100 + n : Nat) : Int) = 49 :: digs n := by
  intro n hn
  rw [Lib.itoa_nonneg]
  have h1 : ∀ u : Nat, u < 10 → Lib.decDigits u = [UInt8.ofNat (48 + u)] := fun u hu => by rw [Lib.decDigits, dif_pos hu]
  have h2 : ∀ u : Nat, ¬ u < 10 → Lib.decDigits u = Lib.decDigits (u / 10) ++ [UInt8.ofNat (48 + u % 10)] := fun u hu => by rw [Lib.decDigits, dif_neg hu]
  rw [h2 _ (by omega), h2 _ (by omega), h1 _ (by omega)]
  unfold digs
  have e1 : (100 + n) / 10 / 10 = 1 := by omega
  have e2 : (100 + n) / 10 % 10 = n / 10 := by omega
  have e3 : (100 + n) % 10 = n % 10 := by omega
  rw [e1, e2, e3]
  rfl
theorem cite_text (n : Nat) : (⟨(49 :: digs n).toArray⟩ : ByteArray).size = 3 := rfl
theorem cite_bytes (n : Nat) : ((⟨#[103]⟩ : ByteArray) ++ (⟨(49 :: digs n).toArray⟩ : ByteArray).extract 1 3).data.toList = 103 :: digs n := by
  rw [ByteArray.data_append, ByteArray.data_extract]
  simp [digs]

section
variable {wI W W' : World} {bs b bf : Nat} {l l' : List UInt8}
end
theorem stp_cells' {W : World} {b : Nat} {x1 x2 x3 : Int} (h : W.heap[b]? = some (.cells #[.int .i64 x1, .int .i64 x2, .int .i64 x3] 74 (0, 0))) : W.cell? ⟨b, 0, none⟩ = some (.int .i64 x1) ∧ W.cell? ⟨b, 1, none⟩ = some (.int .i64 x2) ∧ W.cell? ⟨b, 2, none⟩ = some (.int .i64 x3) := by simp [World.cell?, h]
end Go.Proofs.YtggfhjfebnhbjaaGreatDoor

/- Walks: kernel.Tree. -/
namespace Go.Proofs.YtggfhjfebnhbjaaGreatDoor
open Go Go.RowKit

def retTx (r : List UInt8 × Int) (w : World) (e : Ending) (w' : World) : Prop := e = .returned (.tuple #[.string ⟨r.1.toArray⟩, .int .i64 r.2]) ∧ Below w.heap.size w w'
def minT (t : Tr) : Nat := min t.text.length 65537
def lensT (ts : List Tr) : List Int := ts.map fun t => (minT t : Int)
theorem minT_d (a b : Tr) : minT (.d a b) = min (1 + minT a + minT b) 65537 := by unfold minT; simp only [Tr.text, List.length_cons, List.length_append]; omega
theorem minT_g (n : Nat) : minT (.g n) = 3 := rfl
theorem minT_le (t : Tr) : minT t ≤ 65537 := Nat.min_le_right _ _
theorem lensT_len (ts : List Tr) (i : Nat) (h : i ≤ ts.length) : (lensT (ts.take i)).length = i := by unfold lensT; rw [List.length_map, List.length_take]; omega
theorem lensT_succ {ts : List Tr} {i : Nat} (h : i < ts.length) : lensT (ts.take (i + 1)) = lensT (ts.take i) ++ [(minT (ts.getD i (.g 0)) : Int)] := by
  unfold lensT
  rw [List.take_succ_eq_append_getElem h, List.map_append, List.getD_eq_getElem?_getD, List.getElem?_eq_getElem h]
  rfl
theorem lensT_get {ts : List Tr} {i m : Nat} (h : i ≤ ts.length) (hm : m < i) (hl : m < (lensT (ts.take i)).length) : (lensT (ts.take i))[m] = (minT (ts.getD m (.g 0)) : Int) := by
  have e : (lensT (ts.take i))[m]? = some (minT (ts.getD m (.g 0)) : Int) := by
    unfold lensT
    rw [List.getElem?_map, List.getElem?_take_of_lt hm, List.getD_eq_getElem?_getD, List.getElem?_eq_getElem (by omega)]
    rfl
  rw [List.getElem?_eq_getElem hl] at e
  exact Option.some.inj e
def treI (p : List Stp) (w1 : World) (vT vL iV : Value) (wr : World) : Prop :=
  ∃ i : Nat, iV = .int .i64 i ∧ i ≤ p.length ∧ OwnI wr w1.heap.size vL (lensT ((trees p).take i)) ∧ Below w1.heap.size w1 wr ∧ (∀ j, i = j + 1 → vT = .int .i64 (minT ((trees p).getD j (.g 0)) : Nat))
theorem proofB_parts {G : Int} {p : List Stp} (h : proofB G p = true) : 0 ≤ G ∧ G ≤ 60 ∧ 1 ≤ p.length ∧ p.length ≤ 60 ∧ okSteps G 0 p = true := by
  simp only [proofB, validP, Bool.and_eq_true, decide_eq_true_eq] at h
  exact ⟨h.1.1, h.1.2, h.2.2.1, h.2.2.2, h.2.1⟩
end Go.Proofs.YtggfhjfebnhbjaaGreatDoor

/- Walks: lemmaryref04.sums with the lengths of texts. -/
namespace Go.Proofs.YtggfhjfebnhbjaaGreatDoor
open Go Go.RowKit

def sumI (p : List Stp) (w : World) (vL iV : Value) (wr : World) : Prop :=
  ∃ i : Nat, iV = .int .i64 i ∧ i ≤ p.length ∧ OwnI wr w.heap.size vL (lensT ((trees p).take i)) ∧ Below w.heap.size w wr
end Go.Proofs.YtggfhjfebnhbjaaGreatDoor

/- Walks: lemmaryref04.two. -/
namespace Go.Proofs.YtggfhjfebnhbjaaGreatDoor
open Go Go.RowKit

def tens : ByteArray := ⟨#[48, 49, 50, 51, 52, 53, 54, 55, 56, 57]⟩
theorem tens_at : ∀ a : Nat, a < 10 → (tens.extract a (a + 1)).data.toList = [UInt8.ofNat (48 + a)] := by decide
theorem two_bytes (n : Nat) (hn : n < 100) : (tens.extract (n / 10) (n / 10 + 1) ++ tens.extract (n % 10) (n % 10 + 1)).data.toList = digs n := by
  rw [ByteArray.data_append, Array.toList_append, tens_at _ (by omega), tens_at _ (by omega)]
  rfl
end Go.Proofs.YtggfhjfebnhbjaaGreatDoor

/- Lists of strings of a call's own, and the texts of trees in them. -/
namespace Go.Proofs.YtggfhjfebnhbjaaGreatDoor
open Go Go.RowKit

abbrev OwnS (w : World) (base : Nat) (v : Value) (l : List ByteArray) : Prop := OwnL strE (fun _ => False) w base 9 v l
theorem infoStr : (Tryz.prog.info? 9).map (fun i => (i.zero, i.size, i.bytes)) = some (some (.string ByteArray.empty), 1, 16) := by kernel_rfl
theorem OwnS.strs {w : World} {base : Nat} {v : Value} {l : List ByteArray} (h : OwnS w base v l) : ∃ a c, v = .slice a l.length c ∧ Sl strE (fun b => base ≤ b) w a c l := by
  obtain ⟨a, c, rfl, hI⟩ := OwnL.sl h
  exact ⟨a, c, rfl, hI.weak (fun b hb => hb.elim id False.elim)⟩
theorem Sl.str {S : Nat → Prop} {w : World} {a : Option Addr} {c : Nat} {l : List ByteArray} (h : Sl strE S w a c l) (i : Nat) (hi : i < l.length) :
    ∃ b off, a = some ⟨b, off, none⟩ ∧ S b ∧ w.cell? ⟨b, off + i, none⟩ = some (.string l[i]) ∧ l[i].size ≤ big := by
  obtain ⟨b, off, ha, hb, _, vs, _, hv, hr⟩ := h.at1 i hi
  obtain ⟨rfl, hx⟩ := hr
  have := hv 0 (by simp)
  simp [strE] at this
  exact ⟨b, off, ha, hb, this, hx⟩
/-- a tree's text, or nothing where it is too long -/
def outB (t : Tr) : ByteArray := if t.text.length ≤ 65536 then ⟨t.text.toArray⟩ else ByteArray.empty
def outsT (ts : List Tr) : List ByteArray := ts.map outB
theorem outB_le (t : Tr) : (outB t).size ≤ 65536 := by
  unfold outB
  split
  · exact ‹_›
  · exact Nat.zero_le _
theorem outB_big {t : Tr} (h : 65536 < minT t) : outB t = ByteArray.empty := by
  unfold outB
  have : 65536 < t.text.length := by unfold minT at h; omega
  rw [if_neg (by omega)]
theorem outB_bytes {t : Tr} (h : minT t ≤ 65536) : (outB t).data.toList = t.text := by
  unfold outB
  have : t.text.length ≤ 65536 := by unfold minT at h; omega
  rw [if_pos this]
theorem outB_eq {t : Tr} {b : ByteArray} (h : minT t ≤ 65536) (hb : b.data.toList = t.text) : b = outB t := by
  rw [← outB_bytes h] at hb
  exact ByteArray.ext (Array.toList_inj.1 hb)
theorem outB_g {n : Nat} (hn : n < 100) : (⟨#[103]⟩ : ByteArray) ++ (tens.extract (n / 10) (n / 10 + 1) ++ tens.extract (n % 10) (n % 10 + 1)) = outB (.g n) := by
  refine outB_eq (by rw [minT_g]; omega) ?_
  rw [ByteArray.data_append, Array.toList_append, two_bytes n hn]
  rfl
theorem outB_d {a b : Tr} (h : minT (.d a b) ≤ 65536) : (⟨#[68]⟩ : ByteArray) ++ outB a ++ outB b = outB (.d a b) := by
  have h2 := minT_d a b
  refine outB_eq h ?_
  rw [ByteArray.data_append, ByteArray.data_append, Array.toList_append, Array.toList_append, outB_bytes (by omega), outB_bytes (by omega)]
  simp [Tr.text]
theorem outsT_len (ts : List Tr) (i : Nat) (h : i ≤ ts.length) : (outsT (ts.take i)).length = i := by unfold outsT; rw [List.length_map, List.length_take]; omega
theorem outsT_succ {ts : List Tr} {i : Nat} (h : i < ts.length) : outsT (ts.take (i + 1)) = outsT (ts.take i) ++ [outB (ts.getD i (.g 0))] := by
  unfold outsT
  rw [List.take_succ_eq_append_getElem h, List.map_append, List.getD_eq_getElem?_getD, List.getElem?_eq_getElem h]
  rfl
theorem outsT_get {ts : List Tr} {i m : Nat} (h : i ≤ ts.length) (hm : m < i) (hl : m < (outsT (ts.take i)).length) : (outsT (ts.take i))[m] = outB (ts.getD m (.g 0)) := by
  have e : (outsT (ts.take i))[m]? = some (outB (ts.getD m (.g 0))) := by
    unfold outsT
    rw [List.getElem?_map, List.getElem?_take_of_lt hm, List.getD_eq_getElem?_getD, List.getElem?_eq_getElem (by omega)]
    rfl
  rw [List.getElem?_eq_getElem hl] at e
  exact Option.some.inj e
theorem lensT_last {ts : List Tr} {i : Nat} (hi : i < ts.length) (hl : i < (lensT ts).length) : (lensT ts)[i] = (minT (ts.getD i (.g 0)) : Int) := by
  have e : (lensT ts)[i]? = some (minT (ts.getD i (.g 0)) : Int) := by
    unfold lensT
    rw [List.getElem?_map, List.getD_eq_getElem?_getD, List.getElem?_eq_getElem hi]
    rfl
  rw [List.getElem?_eq_getElem hl] at e
  exact Option.some.inj e
end Go.Proofs.YtggfhjfebnhbjaaGreatDoor

/- Walks: lemmaryref01.Digits, Number. -/
namespace Go.Proofs.YtggfhjfebnhbjaaGreatDoor
open Go Go.RowKit

theorem dec_big {n : Nat} (h : ¬ n < 10) : Lib.decDigits n = Lib.decDigits (n / 10) ++ [UInt8.ofNat (48 + n % 10)] := by rw [Lib.decDigits, dif_neg h]
theorem dec_len {n : Nat} (h : n < 9223372036854775808) : (Lib.decDigits n).length ≤ 20 := by rw [Lib.decDigits_length]; exact Lib.nDigits_le20 n (by omega)
def dgR (N : Nat) (w : World) (nV sV : Value) (wr : World) : Prop :=
  ∃ (n : Nat) (s : ByteArray), nV = .int .i64 n ∧ sV = .string s ∧ Lib.decDigits N = Lib.decDigits n ++ s.data.toList ∧ n ≤ N ∧ wr = w
set_option maxRecDepth 100000 in
set_option maxHeartbeats 2000000 in
theorem digN_any (N : Nat) (hN : N < 9223372036854775808) (w : World) :
    Calls Tryz.prog 101 #[.int .i64 N] w fun e w' => e = .returned (.string ⟨(Lib.decDigits N).toArray⟩) ∧ w = w' := by
  have hlen := dec_len hN
  have h0 : ((N : Int) < 0) = False := eq_false (by omega)
  go_enter Tryz.func101, Tryz.ntmps101
  go_wp2_with fail
  go_loopw [0, 3] (fun nV sV wr => dgR N w nV sV wr) (fun nV _ _ => (intOf nV).toNat)
  case atStart => exact ⟨N, ByteArray.empty, rfl, rfl, by simp, Nat.le_refl _, rfl⟩
  case round =>
    obtain ⟨n, s, rfl, rfl, hd, hn, hw⟩ := hrel
    subst hw
    have hsl : s.size ≤ 20 := by
      have := congrArg List.length hd
      rw [List.length_append] at this
      have h3 : s.data.toList.length = s.data.size := Array.length_toList
      have h2 : s.size = s.data.size := rfl
      omega
    have e1 : Int.tdiv (n : Int) 10 = ((n / 10 : Nat) : Int) := rfl
    have e2 : Int.tmod (n : Int) 10 = ((n % 10 : Nat) : Int) := rfl
    by_cases h9 : 9 < n
    · have h9' : ((9 : Int) < (n : Int)) = True := eq_true (by omega)
      obtain ⟨r, hr⟩ : ∃ r, n % 10 = r := ⟨_, rfl⟩
      obtain ⟨q, hq⟩ : ∃ q, n / 10 = q := ⟨_, rfl⟩
      have hr9 : r < 10 := by omega
      have hq9 : q < n := by omega
      have hdn := dec_big (n := n) (by omega)
      rw [hr, hq] at hdn
      rw [hq] at e1
      rw [hr] at e2
      obtain ⟨D, hD⟩ : ∃ D, tens.extract r (r + 1) = D := ⟨_, rfl⟩
      have hDb : D.data.toList = [UInt8.ofNat (48 + r)] := by rw [← hD]; exact tens_at r hr9
      have hDs : D.size = 1 := by have : D.size = D.data.toList.length := by rw [Array.length_toList]; rfl
                                  rw [this, hDb]; rfl
      have hsz : (9223372036854775807 < (tens.extract r (r + 1)).size + s.size) = False := by rw [hD]; exact eq_false (by omega)
      have hrel : dgR N wr (.int .i64 q) (.string (tens.extract r (r + 1) ++ s)) wr := ⟨q, _, rfl, rfl, by rw [hd, hdn, hD, ByteArray.data_append, Array.toList_append, hDb]; simp, by omega, rfl⟩
      have hrelH := Lib.hid hrel
      have hqm := Lib.hid hq9
      unfold tens at hrelH hsz
      clear hrel hd hdn hr hq hD hDb hDs
      go_wp2_with fail
      all_goals go_roundw
      all_goals first | exact hrelH.out | (have := hqm.out; simp [intOf]; omega)
    · have h9' : ((9 : Int) < (n : Int)) = False := eq_false (by omega)
      have hn9 : n < 10 := by omega
      obtain ⟨D, hD⟩ : ∃ D, tens.extract n (n + 1) = D := ⟨_, rfl⟩
      have hDb : D.data.toList = [UInt8.ofNat (48 + n)] := by rw [← hD]; exact tens_at n hn9
      have hDs : D.size = 1 := by have : D.size = D.data.toList.length := by rw [Array.length_toList]; rfl
                                  rw [this, hDb]; rfl
      have hsz : (9223372036854775807 < (tens.extract n (n + 1)).size + s.size) = False := by rw [hD]; exact eq_false (by omega)
      have hfin : tens.extract n (n + 1) ++ s = ⟨(Lib.decDigits N).toArray⟩ := by
        refine ByteArray.ext (Array.toList_inj.1 ?_)
        rw [hd, Lib.decDigits_one hn9, hD, ByteArray.data_append, Array.toList_append, hDb]
      have hfinH := Lib.hid hfin
      unfold tens at hfinH hsz
      clear hfin hd hD hDb hDs
      go_wp2_with fail
      all_goals go_ret
      all_goals exact ⟨by rw [hfinH.out]; rfl, rfl⟩
set_option maxRecDepth 100000 in
set_option maxHeartbeats 1000000 in
theorem Digits_any (n : Int) (h0 : -9223372036854775808 < n) (h1 : n ≤ 9223372036854775807) (w : World) :
    Calls Tryz.prog 101 #[.int .i64 n] w fun e w' => e = .returned (.string ⟨(Lib.itoa n).toArray⟩) ∧ w = w' := by
  by_cases hn : n < 0
  · have hit : Lib.itoa n = 45 :: Lib.decDigits n.natAbs := by unfold Lib.itoa; rw [if_pos hn]
    obtain ⟨m, hm⟩ : ∃ m : Nat, n.natAbs = m := ⟨_, rfl⟩
    rw [hm] at hit
    have e1 : IntKind.i64.wrap (-n) = (m : Int) := by rw [IntWalk.i64_in _ (by omega)]; omega
    have hn' : (n < 0) = True := eq_true hn
    have hne : (n == (m : Int)) = false := by rw [beq_eq_false_iff_ne]; omega
    have hlen := dec_len (n := m) (by omega)
    have ct := digN_any m (by omega) w
    obtain ⟨s, hs⟩ : ∃ s : ByteArray, (⟨(Lib.decDigits m).toArray⟩ : ByteArray) = s := ⟨_, rfl⟩
    have hss : s.size ≤ 20 := by rw [← hs]; simpa [ByteArray.size] using hlen
    rw [hs] at ct
    have hsz : (9223372036854775807 < 1 + s.size) = False := eq_false (by omega)
    have hfin : (⟨#[45]⟩ : ByteArray) ++ s = ⟨(Lib.itoa n).toArray⟩ := by
      refine ByteArray.ext (Array.toList_inj.1 ?_)
      rw [hit, ← hs, ByteArray.data_append, Array.toList_append]; rfl
    have ctH := Lib.hid ct
    have hfinH := Lib.hid hfin
    clear ct hfin hs hit hm hlen hn
    go_enter Tryz.func101, Tryz.ntmps101
    go_wp2_with fail
    refine ctH.out.mono ?_
    rintro e w1 ⟨rfl, rfl⟩
    go_wp2_with fail
    go_ret
    exact ⟨by rw [hfinH.out]; rfl, rfl⟩
  · obtain ⟨m, rfl⟩ : ∃ m : Nat, n = m := ⟨n.toNat, by omega⟩
    have hit : Lib.itoa (m : Int) = Lib.decDigits m := by unfold Lib.itoa; rw [if_neg hn]; simp
    rw [hit]
    exact digN_any m (by omega) w
/-! ### Number -/
def nbR (b : ByteArray) (w : World) (nV iV : Value) (wr : World) : Prop :=
  ∃ (k m : Nat), iV = .int .i64 k ∧ nV = .int .i64 m ∧ k ≤ b.size ∧ Lib.decFrom 0 (b.data.toList.take k) = some m ∧ m < 10 ^ k ∧ wr = w
theorem decFrom_bad : ∀ (l : List UInt8) (acc k : Nat) (b : UInt8), l[k]? = some b → Lib.digitVal b = none → Lib.decFrom acc l = none
  | [], _, _, _, h, _ => by simp at h
  | c :: l, acc, 0, b, h, hb => by
    simp at h; subst h
    rw [Lib.decFrom, hb]
  | c :: l, acc, k + 1, b, h, hb => by
    rw [Lib.decFrom]
    cases hc : Lib.digitVal c with
    | none => rfl
    | some d => exact decFrom_bad l _ k b (by simpa using h) hb
theorem digitVal_yes {b : UInt8} (h0 : 48 ≤ b.toNat) (h1 : b.toNat ≤ 57) : Lib.digitVal b = some (b.toNat - 48) := by unfold Lib.digitVal; rw [if_pos ⟨h0, h1⟩]
theorem digitVal_no {b : UInt8} (h : b.toNat < 48 ∨ 57 < b.toNat) : Lib.digitVal b = none := by unfold Lib.digitVal; rw [if_neg (by omega)]
theorem data_get {b : ByteArray} {k : Nat} (h : k < b.size) : b.data.toList[k]? = some (b[k]'h) := by
  have : b.size = b.data.size := rfl
  rw [Array.getElem?_toList, Array.getElem?_eq_getElem (by omega)]; rfl
/-- the number of what stands behind the sign -/
def numOfB (neg : Bool) (m : Nat) : Int := if neg = true then -(m : Int) else m
def retN (l : List UInt8) (w : World) (e : Ending) (w' : World) : Prop := ∃ n : Int, e = .returned (.tuple #[.int .i64 n, .bool (numR l).isSome]) ∧ (∀ m, numR l = some m → n = m) ∧ inRange n ∧ w = w'
end Go.Proofs.YtggfhjfebnhbjaaGreatDoor

/- Walks: lemmaryref01.Number. -/
namespace Go.Proofs.YtggfhjfebnhbjaaGreatDoor
open Go Go.RowKit

theorem numR_parts (l : List UInt8) : (((bodyL l).length < 1 ∨ 18 < (bodyL l).length) → numR l = none) ∧
    (¬ ((bodyL l).length < 1 ∨ 18 < (bodyL l).length) → (∀ m, Lib.decFrom 0 (bodyL l) = some m → numR l = if Lib.itoa (sgnL l m) = l then some (sgnL l m) else none) ∧ (Lib.decFrom 0 (bodyL l) = none → numR l = none)) := by
  refine ⟨fun h => by unfold numR; rw [if_pos h], fun h => ⟨fun m hm => ?_, fun hm => ?_⟩⟩
  · unfold numR; rw [if_neg h, hm]
  · unfold numR; rw [if_neg h, hm]
set_option maxRecDepth 100000 in
set_option maxHeartbeats 4000000 in
theorem Number_any (s : ByteArray) (hs : s.size ≤ 65536) (w : World) : Calls Tryz.prog 99 #[.string s] w (retN s.data.toList w) := by
  obtain ⟨np1, np2⟩ := numR_parts s.data.toList
  by_cases hs0 : s.size = 0
  · have hse : s = ByteArray.empty := by
      refine ByteArray.ext (Array.eq_empty_of_size_eq_zero ?_)
      exact hs0
    subst hse
    have hnoneH := Lib.hid (show numR (ByteArray.empty).data.toList = none from rfl)
    clear np1 np2
    go_enter Tryz.func99, Tryz.ntmps99
    go_wp2_with fail
    all_goals go_ret2
    all_goals exact ⟨0, by rw [hnoneH.out]; rfl, fun m hm => by (rw [hnoneH.out] at hm; cases hm), by unfold inRange; omega, rfl⟩
  have h0 : 0 < s.size := by omega
  have gs : ((0 : Int) < (s.size : Int)) = True := eq_true (by omega)
  have hh : s.data.toList.head? = some (s[0]'h0) := by
    have := data_get h0
    rw [List.head?_eq_getElem?]; exact this
  by_cases h45 : s[0]'h0 = 45
  · have hq45 : (((s[0]'h0).toNat : Int) == 45) = true := by rw [h45]; rfl
    rw [h45] at hh
    have hbo0 : bodyL s.data.toList = (s.extract 1 s.size).data.toList := by
      unfold bodyL; rw [if_pos hh]
      rw [ByteArray.data_extract, Array.toList_extract]
      rw [show (s.data.toList.extract 1 s.size) = s.data.toList.tail from ?_]
      rw [List.extract_eq_take_drop, List.drop_one, List.take_of_length_le]
      rw [List.length_tail, Array.length_toList]; exact Nat.le_refl _
    have hsg : ∀ m, sgnL s.data.toList m = -(m : Int) := fun m => by unfold sgnL; rw [if_pos hh]
    obtain ⟨b, hbe⟩ : ∃ b, s.extract 1 s.size = b := ⟨_, rfl⟩
    have hbs : b.size = s.size - 1 := by rw [← hbe, ByteArray.size_extract]; omega
    rw [hbe] at hbo0
    have hnone : ((bodyL s.data.toList).length < 1 ∨ 18 < (bodyL s.data.toList).length) → numR s.data.toList = none := np1
    have hbo := hbo0
    have hval : ¬ ((bodyL s.data.toList).length < 1 ∨ 18 < (bodyL s.data.toList).length) → (∀ m : Nat, Lib.decFrom 0 b.data.toList = some m → numR s.data.toList = if Lib.itoa (-(m : Int)) = s.data.toList then some (-(m : Int)) else none) ∧ (Lib.decFrom 0 b.data.toList = none → numR s.data.toList = none) := fun h => by
      have := np2 h
      rw [hbo] at this
      exact ⟨fun m hm => by have := this.1 m hm; rwa [hsg] at this, this.2⟩
    have glt : ((b.size : Int) < (s.size : Int)) = True := eq_true (by omega)
    clear np1 np2 hsg hh hbo0 h45
    go_enter Tryz.func99, Tryz.ntmps99
    go_upto_region 4 with fail
    try rw [hbe]
    clear hbe hbs
    have hbl : b.data.toList.length = b.size := by have : b.size = b.data.size := rfl; rw [Array.length_toList, this]
    by_cases hb1 : b.size < 1
    · have g1 : ((b.size : Int) < 1) = True := eq_true (by omega)
      have hnoneH := Lib.hid (hnone (by rw [hbo, hbl]; exact .inl hb1))
      clear hnone hval
      go_wp2_with fail
      all_goals go_ret2
      all_goals exact ⟨0, by rw [hnoneH.out]; rfl, fun m hm => by (rw [hnoneH.out] at hm; cases hm), by unfold inRange; omega, rfl⟩
    have g1 : ((b.size : Int) < 1) = False := eq_false (by omega)
    by_cases hb2 : 18 < b.size
    · have g2 : (18 < (b.size : Int)) = True := eq_true (by omega)
      have hnoneH := Lib.hid (hnone (by rw [hbo, hbl]; exact .inr hb2))
      clear hnone hval
      go_wp2_with fail
      all_goals go_ret2
      all_goals exact ⟨0, by rw [hnoneH.out]; rfl, fun m hm => by (rw [hnoneH.out] at hm; cases hm), by unfold inRange; omega, rfl⟩
    have g2 : (18 < (b.size : Int)) = False := eq_false (by omega)
    have hvalH := Lib.hid (hval (by rw [hbo, hbl]; omega))
    clear hnone hval
    go_wp2_with fail
    go_loopw [5, 6] (fun nV iV wr => nbR b w nV iV wr) (fun _ iV _ => b.size - (intOf iV).toNat)
    case atStart => exact ⟨0, 0, rfl, rfl, Nat.zero_le _, rfl, by decide, rfl⟩
    case round =>
      obtain ⟨k, m, rfl, rfl, hk, hdf, hmk, hww⟩ := hrel
      subst hww
      by_cases hlt : k < b.size
      · have hget := data_get hlt
        have hcn := (b[k]'hlt).toNat_lt
        have hm18 : m < 1000000000000000000 := Nat.lt_of_lt_of_le hmk (Nat.le_trans (Nat.pow_le_pow_right (n := 10) (by decide) (show _ ≤ 18 by omega)) (by decide))
        have hkl : ((k : Int) < (b.size : Int)) = True := eq_true (by omega)
        by_cases hc1 : (b[k]'hlt).toNat < 48
        · have hnoneH := Lib.hid ((hvalH.out).2 (decFrom_bad _ 0 k _ hget (digitVal_no (.inl hc1))))
          have c1 : (((b[k]'hlt).toNat : Int) < 48) = True := eq_true (by omega)
          clear hdf hget
          go_wp2_with fail
          all_goals go_ret2
          all_goals exact ⟨0, by rw [hnoneH.out]; rfl, fun m hm => by (rw [hnoneH.out] at hm; cases hm), by unfold inRange; omega, rfl⟩
        have c1 : (((b[k]'hlt).toNat : Int) < 48) = False := eq_false (by omega)
        by_cases hc2 : 57 < (b[k]'hlt).toNat
        · have hnoneH := Lib.hid ((hvalH.out).2 (decFrom_bad _ 0 k _ hget (digitVal_no (.inr hc2))))
          have c2 : (57 < ((b[k]'hlt).toNat : Int)) = True := eq_true (by omega)
          clear hdf hget
          go_wp2_with fail
          all_goals go_ret2
          all_goals exact ⟨0, by rw [hnoneH.out]; rfl, fun m hm => by (rw [hnoneH.out] at hm; cases hm), by unfold inRange; omega, rfl⟩
        have c2 : (57 < ((b[k]'hlt).toNat : Int)) = False := eq_false (by omega)
        have hnx := Lib.decFrom_take _ k 0 m _ _ hdf hget (digitVal_yes (by omega) (by omega))
        have hm17 : m < 100000000000000000 := Nat.lt_of_lt_of_le hmk (Nat.le_trans (Nat.pow_le_pow_right (n := 10) (by decide) (show k ≤ 17 by omega)) (by decide))
        have hw8 : ∀ z : Int, 0 ≤ z → z < 256 → IntKind.u8.wrap z = z := fun z h0 h1 => by
          unfold IntKind.wrap
          simp [IntKind.signed, IntKind.bits]
          omega
        have hu : IntKind.u8.wrap (((b[k]'hlt).toNat : Int) - 48) = (((b[k]'hlt).toNat - 48 : Nat) : Int) := by rw [hw8 _ (by omega) (by omega)]; omega
        obtain ⟨d, hd⟩ : ∃ d, (b[k]'hlt).toNat - 48 = d := ⟨_, rfl⟩
        have hd9 : d ≤ 9 := by omega
        rw [hd] at hu hnx
        have hw2 : IntKind.i64.wrap (10 * (m : Int)) = 10 * (m : Int) := IntWalk.i64_in _ (by omega)
        have hw3 : IntKind.i64.wrap (d : Int) = (d : Int) := IntWalk.i64_in _ (by omega)
        have hw4 : IntKind.i64.wrap (10 * (m : Int) + (d : Int)) = 10 * (m : Int) + (d : Int) := IntWalk.i64_in _ (by omega)
        have hrel : nbR b wr (.int .i64 (10 * (m : Int) + (d : Int))) (.int .i64 ((k : Int) + 1)) wr := ⟨k + 1, m * 10 + d, by go_num, by congr 1; omega, by omega, hnx, by rw [Nat.pow_succ]; omega, rfl⟩
        have hrelH := Lib.hid hrel
        clear hrel hdf hget hnx hd
        go_wp2_with fail
        all_goals go_roundw
        all_goals first | exact hrelH.out | (simp [intOf]; done) | (simp [intOf]; omega)
      · obtain rfl : k = b.size := by omega
        rw [List.take_of_length_le (by rw [hbl]; exact Nat.le_refl _)] at hdf
        have hm18 : m < 1000000000000000000 := Nat.lt_of_lt_of_le hmk (Nat.le_trans (Nat.pow_le_pow_right (n := 10) (by decide) (show _ ≤ 18 by omega)) (by decide))
        have hv := (hvalH.out).1 m hdf
        have ct := fun W => Digits_any (-(m : Int)) (by omega) (by omega) W
        obtain ⟨ds, hds⟩ : ∃ ds : ByteArray, (⟨(Lib.itoa (-(m : Int))).toArray⟩ : ByteArray) = ds := ⟨_, rfl⟩
        simp only [hds] at ct
        have hdb : ds.data.toList = Lib.itoa (-(m : Int)) := by rw [← hds]
        have ctH := Lib.hid ct
        have hw1 : IntKind.i64.wrap (-(m : Int)) = -(m : Int) := IntWalk.i64_in _ (by omega)
        clear ct hds hdf
        by_cases hes : ds = s
        · have hv2 : numR s.data.toList = some (-(m : Int)) := by rw [hv, if_pos (by rw [← hes, hdb])]
          have hq := str_eq hes
          have hv2H := Lib.hid hv2
          clear hv hv2 hdb hes
          go_wp2_with fail
          refine (ctH.out _).mono ?_
          rintro e w2 ⟨rfl, rfl⟩
          go_wp2_with fail
          all_goals go_ret2
          all_goals exact ⟨(-(m : Int)), by (simp only [hv2H.out]; rfl), fun m' hm => by (rw [hv2H.out] at hm; exact Option.some.inj hm), by unfold inRange; omega, rfl⟩
        · have hv2 : numR s.data.toList = none := by rw [hv, if_neg (fun e => hes (ByteArray.ext (Array.toList_inj.1 (by rw [hdb, e]))))]
          have hq := str_neq hes
          have hv2H := Lib.hid hv2
          clear hv hv2 hdb
          go_wp2_with fail
          refine (ctH.out _).mono ?_
          rintro e w2 ⟨rfl, rfl⟩
          go_wp2_with fail
          all_goals go_ret2
          all_goals exact ⟨(-(m : Int)), by (simp only [hv2H.out]; rfl), fun m' hm => by (rw [hv2H.out] at hm; cases hm), by unfold inRange; omega, rfl⟩
  · have hq45 : (((s[0]'h0).toNat : Int) == 45) = false := by
      rw [beq_eq_false_iff_ne]; intro e; exact h45 (UInt8.toNat_inj.1 (by show (s[0]'h0).toNat = 45; omega))
    have hn45 : ¬ s.data.toList.head? = some 45 := fun e => by rw [hh] at e; exact h45 (Option.some.inj e)
    have hbo0 : bodyL s.data.toList = s.data.toList := by unfold bodyL; rw [if_neg hn45]
    have hsg : ∀ m, sgnL s.data.toList m = (m : Int) := fun m => by unfold sgnL; rw [if_neg hn45]
    obtain ⟨b, hbe⟩ : ∃ b, b = s := ⟨s, rfl⟩
    have hnone : ((bodyL s.data.toList).length < 1 ∨ 18 < (bodyL s.data.toList).length) → numR s.data.toList = none := np1
    have hbo : bodyL s.data.toList = b.data.toList := by rw [hbe]; exact hbo0
    have hval : ¬ ((bodyL s.data.toList).length < 1 ∨ 18 < (bodyL s.data.toList).length) → (∀ m : Nat, Lib.decFrom 0 b.data.toList = some m → numR s.data.toList = if Lib.itoa (m : Int) = s.data.toList then some (m : Int) else none) ∧ (Lib.decFrom 0 b.data.toList = none → numR s.data.toList = none) := fun h => by
      have := np2 h
      rw [hbo] at this
      exact ⟨fun m hm => by have := this.1 m hm; rwa [hsg] at this, this.2⟩
    have glt : ((b.size : Int) < (b.size : Int)) = False := eq_false (by omega)
    clear np1 np2 hsg hh hbo0 h45 hn45
    go_enter Tryz.func99, Tryz.ntmps99
    go_upto_region 4 with fail
    subst hbe
    have hbl : b.data.toList.length = b.size := by have : b.size = b.data.size := rfl; rw [Array.length_toList, this]
    by_cases hb1 : b.size < 1
    · have g1 : ((b.size : Int) < 1) = True := eq_true (by omega)
      have hnoneH := Lib.hid (hnone (by rw [hbo, hbl]; exact .inl hb1))
      clear hnone hval
      go_wp2_with fail
      all_goals go_ret2
      all_goals exact ⟨0, by rw [hnoneH.out]; rfl, fun m hm => by (rw [hnoneH.out] at hm; cases hm), by unfold inRange; omega, rfl⟩
    have g1 : ((b.size : Int) < 1) = False := eq_false (by omega)
    by_cases hb2 : 18 < b.size
    · have g2 : (18 < (b.size : Int)) = True := eq_true (by omega)
      have hnoneH := Lib.hid (hnone (by rw [hbo, hbl]; exact .inr hb2))
      clear hnone hval
      go_wp2_with fail
      all_goals go_ret2
      all_goals exact ⟨0, by rw [hnoneH.out]; rfl, fun m hm => by (rw [hnoneH.out] at hm; cases hm), by unfold inRange; omega, rfl⟩
    have g2 : (18 < (b.size : Int)) = False := eq_false (by omega)
    have hvalH := Lib.hid (hval (by rw [hbo, hbl]; omega))
    clear hnone hval
    go_wp2_with fail
    go_loopw [5, 6] (fun nV iV wr => nbR b w nV iV wr) (fun _ iV _ => b.size - (intOf iV).toNat)
    case atStart => exact ⟨0, 0, rfl, rfl, Nat.zero_le _, rfl, by decide, rfl⟩
    case round =>
      obtain ⟨k, m, rfl, rfl, hk, hdf, hmk, hww⟩ := hrel
      subst hww
      by_cases hlt : k < b.size
      · have hget := data_get hlt
        have hcn := (b[k]'hlt).toNat_lt
        have hm18 : m < 1000000000000000000 := Nat.lt_of_lt_of_le hmk (Nat.le_trans (Nat.pow_le_pow_right (n := 10) (by decide) (show _ ≤ 18 by omega)) (by decide))
        have hkl : ((k : Int) < (b.size : Int)) = True := eq_true (by omega)
        by_cases hc1 : (b[k]'hlt).toNat < 48
        · have hnoneH := Lib.hid ((hvalH.out).2 (decFrom_bad _ 0 k _ hget (digitVal_no (.inl hc1))))
          have c1 : (((b[k]'hlt).toNat : Int) < 48) = True := eq_true (by omega)
          clear hdf hget
          go_wp2_with fail
          all_goals go_ret2
          all_goals exact ⟨0, by rw [hnoneH.out]; rfl, fun m hm => by (rw [hnoneH.out] at hm; cases hm), by unfold inRange; omega, rfl⟩
        have c1 : (((b[k]'hlt).toNat : Int) < 48) = False := eq_false (by omega)
        by_cases hc2 : 57 < (b[k]'hlt).toNat
        · have hnoneH := Lib.hid ((hvalH.out).2 (decFrom_bad _ 0 k _ hget (digitVal_no (.inr hc2))))
          have c2 : (57 < ((b[k]'hlt).toNat : Int)) = True := eq_true (by omega)
          clear hdf hget
          go_wp2_with fail
          all_goals go_ret2
          all_goals exact ⟨0, by rw [hnoneH.out]; rfl, fun m hm => by (rw [hnoneH.out] at hm; cases hm), by unfold inRange; omega, rfl⟩
        have c2 : (57 < ((b[k]'hlt).toNat : Int)) = False := eq_false (by omega)
        have hnx := Lib.decFrom_take _ k 0 m _ _ hdf hget (digitVal_yes (by omega) (by omega))
        have hm17 : m < 100000000000000000 := Nat.lt_of_lt_of_le hmk (Nat.le_trans (Nat.pow_le_pow_right (n := 10) (by decide) (show k ≤ 17 by omega)) (by decide))
        have hw8 : ∀ z : Int, 0 ≤ z → z < 256 → IntKind.u8.wrap z = z := fun z h0 h1 => by
          unfold IntKind.wrap
          simp [IntKind.signed, IntKind.bits]
          omega
        have hu : IntKind.u8.wrap (((b[k]'hlt).toNat : Int) - 48) = (((b[k]'hlt).toNat - 48 : Nat) : Int) := by rw [hw8 _ (by omega) (by omega)]; omega
        obtain ⟨d, hd⟩ : ∃ d, (b[k]'hlt).toNat - 48 = d := ⟨_, rfl⟩
        have hd9 : d ≤ 9 := by omega
        rw [hd] at hu hnx
        have hw2 : IntKind.i64.wrap (10 * (m : Int)) = 10 * (m : Int) := IntWalk.i64_in _ (by omega)
        have hw3 : IntKind.i64.wrap (d : Int) = (d : Int) := IntWalk.i64_in _ (by omega)
        have hw4 : IntKind.i64.wrap (10 * (m : Int) + (d : Int)) = 10 * (m : Int) + (d : Int) := IntWalk.i64_in _ (by omega)
        have hrel : nbR b wr (.int .i64 (10 * (m : Int) + (d : Int))) (.int .i64 ((k : Int) + 1)) wr := ⟨k + 1, m * 10 + d, by go_num, by congr 1; omega, by omega, hnx, by rw [Nat.pow_succ]; omega, rfl⟩
        have hrelH := Lib.hid hrel
        clear hrel hdf hget hnx hd
        go_wp2_with fail
        all_goals go_roundw
        all_goals first | exact hrelH.out | (simp [intOf]; done) | (simp [intOf]; omega)
      · obtain rfl : k = b.size := by omega
        rw [List.take_of_length_le (by rw [hbl]; exact Nat.le_refl _)] at hdf
        have hm18 : m < 1000000000000000000 := Nat.lt_of_lt_of_le hmk (Nat.le_trans (Nat.pow_le_pow_right (n := 10) (by decide) (show _ ≤ 18 by omega)) (by decide))
        have hv := (hvalH.out).1 m hdf
        have ct := fun W => Digits_any (m : Int) (by omega) (by omega) W
        obtain ⟨ds, hds⟩ : ∃ ds : ByteArray, (⟨(Lib.itoa (m : Int)).toArray⟩ : ByteArray) = ds := ⟨_, rfl⟩
        simp only [hds] at ct
        have hdb : ds.data.toList = Lib.itoa (m : Int) := by rw [← hds]
        have ctH := Lib.hid ct
        have hw1 : IntKind.i64.wrap (-(m : Int)) = -(m : Int) := IntWalk.i64_in _ (by omega)
        clear ct hds hdf
        by_cases hes : ds = b
        · have hv2 : numR b.data.toList = some (m : Int) := by rw [hv, if_pos (by rw [← hes, hdb])]
          have hq := str_eq hes
          have hv2H := Lib.hid hv2
          clear hv hv2 hdb hes
          go_wp2_with fail
          refine (ctH.out _).mono ?_
          rintro e w2 ⟨rfl, rfl⟩
          go_wp2_with fail
          all_goals go_ret2
          all_goals exact ⟨(m : Int), by (simp only [hv2H.out]; rfl), fun m' hm => by (rw [hv2H.out] at hm; exact Option.some.inj hm), by unfold inRange; omega, rfl⟩
        · have hv2 : numR b.data.toList = none := by rw [hv, if_neg (fun e => hes (ByteArray.ext (Array.toList_inj.1 (by rw [hdb, e]))))]
          have hq := str_neq hes
          have hv2H := Lib.hid hv2
          clear hv hv2 hdb
          go_wp2_with fail
          refine (ctH.out _).mono ?_
          rintro e w2 ⟨rfl, rfl⟩
          go_wp2_with fail
          all_goals go_ret2
          all_goals exact ⟨(m : Int), by (simp only [hv2H.out]; rfl), fun m' hm => by (rw [hv2H.out] at hm; cases hm), by unfold inRange; omega, rfl⟩
end Go.Proofs.YtggfhjfebnhbjaaGreatDoor

/- Walks: lemmaryref01.Words, Numbers. -/
namespace Go.Proofs.YtggfhjfebnhbjaaGreatDoor
open Go Go.RowKit

theorem wordsB_len (m : UInt8) : ∀ l, (wordsB m l).length ≤ l.length + 1
  | [] => Nat.le_refl _
  | c :: r => by
    have ih := wordsB_len m r
    rw [wordsB]
    split
    · simp; omega
    · split
      · simp
      · rename_i w ws h; rw [h] at ih; simp at ih ⊢; omega
def bts (l : List ByteArray) : List (List UInt8) := l.map fun b => b.data.toList
def wdR (t : ByteArray) (m : UInt8) (w : World) (vO fV iV : Value) (wr : World) : Prop :=
  ∃ (f i : Nat) (out : List ByteArray), fV = .int .i64 f ∧ iV = .int .i64 i ∧ f ≤ i ∧ i ≤ t.size ∧ OwnS wr w.heap.size vO out ∧ bts out ++ wordsB m (t.data.toList.drop f) = wordsB m t.data.toList ∧ m ∉ (t.data.toList.drop f).take (i - f) ∧ Below w.heap.size w wr
def retW (l : List (List UInt8)) (w : World) (e : Ending) (w' : World) : Prop := ∃ v out, e = .returned v ∧ OwnS w' w.heap.size v out ∧ bts out = l ∧ Below w.heap.size w w'
theorem extract_bytes (t : ByteArray) (a b : Nat) : (t.extract a b).data.toList = (t.data.toList.drop a).take (b - a) := by
  rw [ByteArray.data_extract, Array.toList_extract, List.extract_eq_take_drop]
set_option maxRecDepth 100000 in
set_option maxHeartbeats 4000000 in
theorem Words_any (t : ByteArray) (m : UInt8) (hs : t.size ≤ 65536) (w : World) :
    Calls Tryz.prog 59 #[.string t, .int .u8 (m.toNat : Int)] w (retW (wordsB m t.data.toList) w) := by
  have htl : t.data.toList.length = t.size := by have : t.size = t.data.size := rfl; rw [Array.length_toList, this]
  have hwl := wordsB_len m t.data.toList
  have hlH := Lib.hid hwl
  clear hwl
  go_enter Tryz.func59, Tryz.ntmps59
  go_wp2_with fail
  go_loopw [5, 6, 7] (fun vO fV iV wr => wdR t m w vO fV iV wr) (fun _ _ iV _ => t.size - (intOf iV).toNat)
  case atStart => exact ⟨0, 0, [], rfl, rfl, Nat.le_refl _, Nat.zero_le _, .nil _ _ _ _ _, by simp [bts], by simp, Below.refl _ _⟩
  case round =>
    obtain ⟨f, i, out, rfl, rfl, hfi, hi, hO, hw, hno, hB⟩ := hrel
    have hol : out.length ≤ 65537 := by
      have h1 := congrArg List.length hw
      have h2 := hlH.out
      rw [List.length_append] at h1
      unfold bts at h1
      rw [List.length_map] at h1
      omega
    have hsz : (t.extract f i).size ≤ 65536 := by rw [ByteArray.size_extract]; omega
    by_cases hlt : i < t.size
    · have hil : ((i : Int) < (t.size : Int)) = True := eq_true (by omega)
      have hsp : (t.data.toList.drop f).drop (i - f) = (t[i]'hlt) :: t.data.toList.drop (i + 1) := by
        rw [List.drop_drop, show f + (i - f) = i by omega]
        exact drop_cons hlt
      by_cases hm : t[i]'hlt = m
      · have hq : (((t[i]'hlt).toNat : Int) == (m.toNat : Int)) = true := by rw [hm]; simp
        obtain ⟨v', W', hrun, ho, hg, -⟩ := OwnL.push (P := Tryz.prog) (t := 81) (ty := 81) hO Tryz.underlying81 infoStr rfl (vs := [.string (t.extract f i)]) (x := t.extract f i) ⟨rfl, by unfold big; omega⟩ (by omega) (by unfold big; omega) hB.size
        have hrel : wdR t m w v' (.int .i64 ((i : Int) + 1)) (.int .i64 ((i : Int) + 1)) W' := by
          refine ⟨i + 1, i + 1, out ++ [t.extract f i], by go_num, by go_num, Nat.le_refl _, by omega, ho, ?_, by simp, hB.grown hg hB.size (fun k e => (OwnL.lt hO k e).1)⟩
          rw [← hw]
          have h2 : t.data.toList.drop f = (t.data.toList.drop f).take (i - f) ++ m :: t.data.toList.drop (i + 1) := by
            rw [← hm, ← hsp, List.take_append_drop]
          rw [h2, wordsB_at hno]
          unfold bts
          rw [List.map_append, List.append_assoc, List.map_singleton, extract_bytes]
          have h3 : ((List.take (i - f) (List.drop f t.data.toList) ++ m :: List.drop (i + 1) t.data.toList)) = List.drop f t.data.toList := h2.symm
          rfl
        have hrelH := Lib.hid hrel
        clear hrel hO hB hw hno hsp ho hg hol hsz hm
        go_wp2_with (at_builtin; refine wpList_append_run rfl _ _ _ rfl rfl rfl hrun ?_)
        all_goals go_roundw
        all_goals first | exact hrelH.out | (simp [intOf]; done) | (simp [intOf]; omega)
      · have hq : (((t[i]'hlt).toNat : Int) == (m.toNat : Int)) = false := by
          rw [beq_eq_false_iff_ne]; intro e; exact hm (UInt8.toNat_inj.1 (by show (t[i]'hlt).toNat = m.toNat; omega))
        have hrel : wdR t m w u5 (.int .i64 (f : Int)) (.int .i64 ((i : Int) + 1)) wr := by
          refine ⟨f, i + 1, out, rfl, by go_num, by omega, by omega, hO, hw, ?_, hB⟩
          have hl2 : i - f < (t.data.toList.drop f).length := by rw [List.length_drop, htl]; omega
          rw [show i + 1 - f = i - f + 1 by omega, List.take_succ_eq_append_getElem hl2, List.mem_append, List.mem_singleton, not_or]
          refine ⟨hno, fun e => hm ?_⟩
          rw [List.drop_eq_getElem_cons hl2] at hsp
          rw [e]
          exact (List.cons.inj hsp).1.symm
        have hrelH := Lib.hid hrel
        clear hrel hO hB hw hno hsp hol hsz hm
        go_wp2_with fail
        all_goals go_roundw
        all_goals first | exact hrelH.out | (simp [intOf]; done) | (simp [intOf]; omega)
    · obtain rfl : i = t.size := by omega
      rw [List.take_of_length_le (by rw [List.length_drop, htl]; exact Nat.le_refl _)] at hno
      rw [wordsB_no hno] at hw
      obtain ⟨v', W', hrun, ho, hg, -⟩ := OwnL.push (P := Tryz.prog) (t := 81) (ty := 81) hO Tryz.underlying81 infoStr rfl (vs := [.string (t.extract f t.size)]) (x := t.extract f t.size) ⟨rfl, by unfold big; omega⟩ (by omega) (by unfold big; omega) hB.size
      have hfin : retW (wordsB m t.data.toList) w (.returned v') W' := by
        refine ⟨v', _, rfl, ho, ?_, hB.grown hg hB.size (fun k e => (OwnL.lt hO k e).1)⟩
        rw [← hw]
        unfold bts
        rw [List.map_append, List.map_singleton, extract_bytes, List.take_of_length_le (by rw [List.length_drop, htl]; exact Nat.le_refl _)]
      have hfinH := Lib.hid hfin
      clear hfin hO hB hw hno ho hg hol hsz
      go_wp2_with (at_builtin; refine wpList_append_run rfl _ _ _ rfl rfl rfl hrun ?_)
      all_goals go_ret
      all_goals exact hfinH.out
/-! ### Numbers -/
def retNs (l : List (List UInt8)) (w : World) (e : Ending) (w' : World) : Prop :=
  ∃ v ns, e = .returned (.tuple #[v, .bool (l.mapM numR).isSome]) ∧ OwnI w' w.heap.size v ns ∧ (∀ ms, l.mapM numR = some ms → ns = ms) ∧ Below w.heap.size w w'
def nsR (l : List (List UInt8)) (w : World) (vO iV : Value) (wr : World) : Prop :=
  ∃ (k : Nat) (ns : List Int), iV = .int .i64 k ∧ k ≤ l.length ∧ OwnI wr w.heap.size vO ns ∧ ns.length = k ∧ (l.take k).mapM numR = some ns ∧ Below w.heap.size w wr
theorem mapM_snoc {l : List (List UInt8)} {x : List UInt8} : (l ++ [x]).mapM numR = (l.mapM numR).bind fun ns => (numR x).bind fun n => some (ns ++ [n]) := by
  induction l with
  | nil => simp [List.mapM_cons]
  | cons a l ih =>
    rw [List.cons_append, List.mapM_cons, List.mapM_cons, ih]
    cases numR a with
    | none => rfl
    | some v =>
      cases l.mapM numR with
      | none => rfl
      | some vs =>
        cases numR x with
        | none => rfl
        | some u => rfl
theorem mapM_none : ∀ {l : List (List UInt8)} {k : Nat}, (l.take k).mapM numR = none → l.mapM numR = none
  | [], k, h => by simp at h
  | a :: l, 0, h => by simp at h
  | a :: l, k + 1, h => by
    rw [List.take_succ_cons, List.mapM_cons] at h
    rw [List.mapM_cons]
    cases ha : numR a with
    | none => rfl
    | some v =>
      rw [ha] at h
      cases hl : (l.take k).mapM numR with
      | none => rw [mapM_none hl]; rfl
      | some vs => rw [hl] at h; simp at h
set_option maxRecDepth 100000 in
set_option maxHeartbeats 4000000 in
theorem Numbers_any {S : Nat → Prop} (a : Option Addr) (c : Nat) (l : List ByteArray) (w : World) (h : Sl strE S w a c l) (hb : ∀ b ∈ l, b.size ≤ 65536) (hl : l.length ≤ 65537) :
    Calls Tryz.prog 60 #[.slice a l.length c] w (retNs (bts l) w) := by
  have m := h.le
  have hH := Lib.hid h
  have hbH := Lib.hid hb
  have hbl : (bts l).length = l.length := by unfold bts; rw [List.length_map]
  clear h hb
  go_enter Tryz.func60, Tryz.ntmps60
  go_wp2_with fail
  go_loopw [4, 5, 6, 7] (fun vO iV _ _ wr => nsR (bts l) w vO iV wr) (fun _ iV _ _ _ => l.length - (intOf iV).toNat)
  case atStart => exact ⟨0, [], rfl, Nat.zero_le _, .nil _ _ _ _ _, rfl, rfl, Below.refl _ _⟩
  case round =>
    obtain ⟨k, ns, rfl, hk, hO, hnl, hmp, hB⟩ := hrel
    rw [hbl] at hk
    by_cases hlt : k < l.length
    · obtain ⟨bl, ol, hae, -, q0, -⟩ := (hH.out.below hB).str k hlt
      subst hae
      have hsz := hbH.out _ (List.getElem_mem hlt)
      have htk : (bts l).take (k + 1) = (bts l).take k ++ [l[k].data.toList] := by
        rw [List.take_succ_eq_append_getElem (by rw [hbl]; exact hlt)]
        congr 1
        simp [bts]
      obtain ⟨x, hxe⟩ : ∃ x, l[k] = x := ⟨_, rfl⟩
      rw [hxe] at q0 hsz htk
      have hsnoc := mapM_snoc (l := (bts l).take k) (x := x.data.toList)
      rw [← htk, hmp] at hsnoc
      have cn := fun W => Number_any x hsz W
      cases hnx : numR x.data.toList with
      | none =>
        rw [hnx] at hsnoc
        have hnone := mapM_none hsnoc
        have hnoneH := Lib.hid hnone
        have cnH := Lib.hid cn
        have hBH := Lib.hid hB
        have hnxH := Lib.hid hnx
        clear hnone cn hB hO hmp hsnoc htk hnx hxe
        go_wp2_with fail
        refine (cnH.out _).mono ?_
        rintro e w2 ⟨n, rfl, -, -, rfl⟩
        rw [hnxH.out]
        go_wp2_with fail
        all_goals go_ret2
        all_goals exact ⟨_, [], by rw [hnoneH.out]; rfl, .nil _ _ _ _ _, fun ms hm => by (rw [hnoneH.out] at hm; cases hm), hBH.out⟩
      | some n =>
        rw [hnx] at hsnoc
        have hsnoc' : ((bts l).take (k + 1)).mapM numR = some (ns ++ [n]) := hsnoc
        have hcn : ∀ W, Calls Tryz.prog 99 #[.string x] W fun e w' => e = .returned (.tuple #[.int .i64 n, .bool true]) ∧ inRange n ∧ W = w' := fun W => (cn W).mono fun e w' hh => by
          obtain ⟨n', h1, h2, h3, h4⟩ := hh
          have := h2 n hnx
          subst this
          rw [hnx] at h1
          exact ⟨h1, h3, h4⟩
        have hcnH := Lib.hid hcn
        have hBH := Lib.hid hB
        have hOH := Lib.hid hO
        have hsH := Lib.hid hsnoc'
        clear cn hcn hB hO hmp hsnoc hsnoc' htk hnx hxe
        go_wp2_with fail
        refine (hcnH.out _).mono ?_
        rintro e w2 ⟨rfl, hnr, rfl⟩
        have hB := hBH.out
        have hO := hOH.out
        obtain ⟨v', W', hrun, ho, hg, -⟩ := OwnL.push (P := Tryz.prog) (t := 33) (ty := 33) hO Tryz.underlying33 infoInt rfl (vs := [.int .i64 n]) (x := n) ⟨rfl, hnr⟩ (by omega) (by unfold big; omega) hB.size
        have hrel : nsR (bts l) w v' (.int .i64 ((k : Int) + 1)) W' := ⟨k + 1, _, by go_num, by rw [hbl]; omega, ho, by simp [hnl], hsH.out, hB.grown hg hB.size (fun k e => (OwnL.lt hO k e).1)⟩
        have hrelH := Lib.hid hrel
        clear hrel hO hB ho hg hOH
        go_wp2_with (at_builtin; refine wpList_append_run rfl _ _ _ rfl rfl rfl hrun ?_)
        all_goals go_roundw
        all_goals first | exact hrelH.out | (simp [intOf]; done) | (simp [intOf]; omega)
    · obtain rfl : k = l.length := by omega
      rw [List.take_of_length_le (by rw [hbl]; exact Nat.le_refl _)] at hmp
      have hBH := Lib.hid hB
      have hOH := Lib.hid hO
      have hmpH := Lib.hid hmp
      clear hB hO hmp
      go_wp2_with fail
      all_goals go_ret2
      all_goals exact ⟨_, ns, by rw [hmpH.out]; rfl, hOH.out, fun ms hm => by (rw [hmpH.out] at hm; exact Option.some.inj hm), hBH.out⟩
end Go.Proofs.YtggfhjfebnhbjaaGreatDoor

/- Walks: lemmaryref04.Parse. -/
namespace Go.Proofs.YtggfhjfebnhbjaaGreatDoor
open Go Go.RowKit

theorem words_size {m : UInt8} : ∀ {l w : List UInt8}, w ∈ wordsB m l → w.length ≤ l.length
  | [], w, h => by simp [wordsB] at h; subst h; simp
  | c :: r, w, h => by
    rw [wordsB] at h
    by_cases e : c = m
    · rw [if_pos e, List.mem_cons] at h
      rcases h with h | h
      · subst h; simp
      · have := words_size h; rw [List.length_cons]; omega
    · rw [if_neg e] at h
      cases hw : wordsB m r with
      | nil => exact (wordsB_ne m r hw).elim
      | cons v ws =>
        rw [hw] at h
        simp only [List.mem_cons] at h
        rcases h with h | h
        · subst h
          have := words_size (m := m) (l := r) (w := v) (by rw [hw]; simp)
          rw [List.length_cons, List.length_cons]; omega
        · have := words_size (m := m) (l := r) (w := w) (by rw [hw]; simp [h])
          rw [List.length_cons]; omega
theorem bts_mem {l : List ByteArray} {b : ByteArray} (h : b ∈ l) : b.data.toList ∈ bts l := List.mem_map.2 ⟨b, h, rfl⟩
theorem ba_len (b : ByteArray) : b.data.toList.length = b.size := Array.length_toList
theorem Strs.tail1 {S : Nat → Prop} {w : World} {b off c : Nat} {x : ByteArray} {l : List ByteArray} (h : Sl strE S w (some ⟨b, off, none⟩) c (x :: l)) : Sl strE S w (if c = 1 then some ⟨b, off, none⟩ else some ⟨b, off + 1, none⟩) (c - 1) l := by
  have hc := h.cap
  have hm := h.max
  rw [List.length_cons] at hc
  refine ⟨by omega, by omega, (fun e => by split at e <;> cases e), fun hne => ?_⟩
  obtain ⟨b', off', he, hb, hl, hcell⟩ := h.dat (by simp)
  cases he
  have hl0 : 0 < l.length := List.length_pos_iff.2 hne
  rw [if_neg (by omega)]
  refine ⟨b, off + 1, rfl, hb, hl, fun i hi => ?_⟩
  obtain ⟨vs, h1, h2, h3⟩ := hcell (i + 1) (by rw [List.length_cons]; omega)
  refine ⟨vs, h1, fun j hj => ?_, h3⟩
  have := h2 j hj
  rw [show off + (i + 1) * strE.size + j = off + 1 + i * strE.size + j by show off + (i + 1) * 1 + j = off + 1 + i * 1 + j; omega] at this
  exact this
theorem ba_of {x : ByteArray} {a : Array UInt8} (h : x.data.toList = a.toList) : x = ⟨a⟩ := by
  have h2 : x.data = a := Array.toList_inj.1 h
  cases x
  exact congrArg ByteArray.mk h2
theorem ge_cite {x : ByteArray} (h : x.data.toList = citeW) : (x.toList == ([99, 105, 116, 101] : List UInt8)) = true := by
  rw [show x = ⟨#[99, 105, 116, 101]⟩ from ba_of (by rw [h]; rfl)]; (first | rfl | kernel_rfl | simp [ByteArray.toList, ByteArray.toList.loop])
theorem ge_det {x : ByteArray} (h : x.data.toList = detW) : (x.toList == ([100, 101, 116, 97, 99, 104] : List UInt8)) = true := by
  rw [show x = ⟨#[100, 101, 116, 97, 99, 104]⟩ from ba_of (by rw [h]; rfl)]; (first | rfl | kernel_rfl | simp [ByteArray.toList, ByteArray.toList.loop])
theorem gn_cite {x : ByteArray} (h : ¬ x.data.toList = citeW) : (x.toList == ([99, 105, 116, 101] : List UInt8)) = false := by
  have h2 := str_neq (x := x) (y := ⟨#[99, 105, 116, 101]⟩) (fun e => h (by rw [e]; rfl))
  rwa [show (⟨#[99, 105, 116, 101]⟩ : ByteArray).toList = [99, 105, 116, 101] by (first | rfl | kernel_rfl | simp [ByteArray.toList, ByteArray.toList.loop])] at h2
theorem gn_det {x : ByteArray} (h : ¬ x.data.toList = detW) : (x.toList == ([100, 101, 116, 97, 99, 104] : List UInt8)) = false := by
  have h2 := str_neq (x := x) (y := ⟨#[100, 101, 116, 97, 99, 104]⟩) (fun e => h (by rw [e]; rfl))
  rwa [show (⟨#[100, 101, 116, 97, 99, 104]⟩ : ByteArray).toList = [100, 101, 116, 97, 99, 104] by (first | rfl | kernel_rfl | simp [ByteArray.toList, ByteArray.toList.loop])] at h2
theorem gn_nil {x : ByteArray} (h : ¬ x.data.toList = []) : (x.toList == ([] : List UInt8)) = false := by
  have h2 := str_neq (x := x) (y := ⟨#[]⟩) (fun e => h (by rw [e]))
  rwa [show (⟨#[]⟩ : ByteArray).toList = [] by (first | rfl | kernel_rfl | simp [ByteArray.toList, ByteArray.toList.loop])] at h2
theorem right_R {i : Nat} {x : Stp} (h : rightB 60 i x = true) (hi : i ≤ 60) : stpR x := by
  rcases right_form h hi with ⟨a, ha, rfl⟩ | ⟨a, b, ha, hb, rfl⟩
  · exact ⟨(show inRange (1 : Int) by unfold inRange; omega), (show inRange (a : Int) by unfold inRange; omega), (show inRange (0 : Int) by unfold inRange; omega)⟩
  · exact ⟨(show inRange (2 : Int) by unfold inRange; omega), (show inRange (a : Int) by unfold inRange; omega), (show inRange (b : Int) by unfold inRange; omega)⟩
def rpR (ls : List (List UInt8)) (w1 : World) (vP iV : Value) (wr : World) : Prop :=
  ∃ (i : Nat) (acc : List Stp), iV = .int .i64 i ∧ acc.length = i ∧ i + 1 ≤ ls.length ∧ i ≤ 60 ∧ parseL (ls.drop i) i acc = parseL ls 0 [] ∧ OwnSt wr w1.heap.size vP acc ∧ Below w1.heap.size w1 wr
def retP (r : List Stp × Nat × Int) (w : World) (e : Ending) (w' : World) : Prop := ∃ v, e = .returned (.tuple #[v, .int .i64 r.2.1, .int .i64 r.2.2]) ∧ OwnSt w' w.heap.size v r.1 ∧ Below w.heap.size w w'
theorem refX_none {l : List UInt8} (h : (wordsB 32 l).tail.mapM numR = none) : refX l = (0, 0, 0) := by unfold refX; rw [h]
theorem refX_cite {l : List UInt8} {a : Int} (h : (wordsB 32 l).tail.mapM numR = some [a]) : refX l = if (wordsB 32 l).headD [] = citeW then (1, a, 0) else (0, 0, 0) := by unfold refX; rw [h]
theorem refX_det {l : List UInt8} {a b : Int} (h : (wordsB 32 l).tail.mapM numR = some [a, b]) : refX l = if (wordsB 32 l).headD [] = detW then (2, a, b) else (0, 0, 0) := by unfold refX; rw [h]
theorem refX_else {l : List UInt8} {ns : List Int} (h : (wordsB 32 l).tail.mapM numR = some ns) (h1 : ns.length ≠ 1) (h2 : ns.length ≠ 2) : refX l = (0, 0, 0) := by
  unfold refX
  rw [h]
  match ns, h1, h2 with
  | [], _, _ => rfl
  | [_], h1, _ => exact (h1 rfl).elim
  | [_, _], _, h2 => exact (h2 rfl).elim
  | _ :: _ :: _ :: _, _, _ => rfl
set_option maxRecDepth 100000 in
set_option maxHeartbeats 8000000 in
theorem rParse_any (t : ByteArray) (w : World) : Calls Tryz.prog 29 #[.string t] w (retP (parseE t.data.toList) w) := by
  by_cases hs : t.size ≤ 65536
  case neg =>
    have g1 : (65536 < (t.size : Int)) = True := eq_true (by omega)
    have hrH := Lib.hid (show parseE t.data.toList = ([], 0, 3) by unfold parseE; rw [if_neg (by rw [ba_len]; exact hs)])
    go_enter Tryz.func29, Tryz.ntmps29
    go_wp2_with fail
    all_goals go_ret3
    all_goals rw [hrH.out]
    all_goals exact ⟨_, rfl, .nil _ _ _ _ _, .refl _ _⟩
  have g1 : (65536 < (t.size : Int)) = False := eq_false (by omega)
  have hr0 : parseE t.data.toList = parseL (wordsB 10 t.data.toList) 0 [] := by unfold parseE; rw [if_pos (by rw [ba_len]; exact hs)]
  have cwH := Lib.hid (Words_any t 10 hs w)
  have hwl := wordsB_len 10 t.data.toList
  rw [ba_len] at hwl
  have hne := wordsB_ne 10 t.data.toList
  have hws := Lib.hid (fun u (h : u ∈ wordsB 10 t.data.toList) => Nat.le_trans (words_size h) (by rw [ba_len]; exact hs))
  go_enter Tryz.func29, Tryz.ntmps29
  go_wp2_with fail
  refine cwH.out.mono ?_
  rintro e w1 ⟨v1, out, rfl, o1, hbo, hb1⟩
  obtain ⟨aO, cO, rfl, hO1⟩ := OwnS.strs o1
  have hbl : (bts out).length = out.length := by unfold bts; rw [List.length_map]
  rw [← hbo] at hr0 hwl hne
  have hrH := Lib.hid hr0
  have hszH : RowKit.Hid (∀ b ∈ out, b.size ≤ 65536) := Lib.hid (fun b hb => by
    have := hws.out b.data.toList (by rw [← hbo]; exact bts_mem hb)
    rw [ba_len] at this; exact this)
  have ho1 : 1 ≤ out.length := by
    rw [← hbl]; exact List.length_pos_iff.2 hne
  rw [hbl] at hwl
  have hO1H := Lib.hid hO1
  have hb1H := Lib.hid hb1
  clear o1 hO1 hb1 hr0 hne hbo cwH hws
  go_wp2_with fail
  go_loopw [6, 7, 8, 9, 10, 11] (fun vP iV _ _ _ _ wr => rpR (bts out) w1 vP iV wr) (fun _ iV _ _ _ _ _ => out.length - (intOf iV).toNat)
  case atStart => exact ⟨0, [], rfl, rfl, by rw [hbl]; exact ho1, by omega, rfl, .nil _ _ _ _ _, Below.refl _ _⟩
  case round =>
    obtain ⟨i, acc, rfl, hal, hi, hi60, hp, hO, hB⟩ := hrel
    rw [hbl] at hi
    have hpi := Lib.hid hp
    have hOH := Lib.hid hO
    have hBH := Lib.hid hB
    by_cases hlt : i + 1 < out.length
    · have gl : ((i : Int) < (out.length : Int) - 1) = True := eq_true (by omega)
      obtain ⟨bl, ol, hae, -, q0, -⟩ := (hO1H.out.below hB).str i (by omega)
      subst hae
      have hlsz := hszH.out _ (List.getElem_mem (show i < out.length by omega))
      obtain ⟨l, hle⟩ : ∃ l, out[i] = l := ⟨_, rfl⟩
      have hdr0 : (bts out).drop i = l.data.toList :: (bts out).drop (i + 1) := by
        rw [List.drop_eq_getElem_cons (by rw [hbl]; omega)]
        congr 1
        simp [bts, hle]
      obtain ⟨v0, rest, hdr1⟩ : ∃ v0 rest, (bts out).drop (i + 1) = v0 :: rest := by
        cases hd : (bts out).drop (i + 1) with
        | nil => have := congrArg List.length hd; rw [List.length_drop, hbl] at this; simp at this; omega
        | cons v0 rest => exact ⟨v0, rest, rfl⟩
      rw [hdr1] at hdr0
      have hsplit := Lib.hid hdr0
      have hdrop := Lib.hid hdr1
      rw [hle] at q0 hlsz
      have cw2 := Words_any l 32 hlsz wr
      have hwl2 := wordsB_len 32 l.data.toList
      rw [ba_len] at hwl2
      have hne2 := wordsB_ne 32 l.data.toList
      have hws2 := Lib.hid (fun u (h : u ∈ wordsB 32 l.data.toList) => Nat.le_trans (words_size h) (by rw [ba_len]; exact hlsz))
      have cw2H := Lib.hid cw2
      clear cw2 hdr0 hdr1 hp hO hB hle
      go_wp2_with fail
      refine cw2H.out.mono ?_
      rintro e w2 ⟨v2, wo, rfl, o2, hbo2, hb2⟩
      obtain ⟨aW, cW, rfl, hW⟩ := OwnS.strs o2
      rw [← hbo2] at hwl2 hne2
      obtain ⟨w0, wt, rfl⟩ : ∃ w0 wt, wo = w0 :: wt := by
        cases wo with
        | nil => exact (hne2 rfl).elim
        | cons a b => exact ⟨a, b, rfl⟩
      obtain ⟨bW, oW, haW, -, c0, -⟩ := hW.str 0 (by simp)
      subst haW
      rw [List.getElem_cons_zero, Nat.add_zero] at c0
      have hcap := hW.cap
      have hmax := hW.max
      rw [List.length_cons] at hcap
      unfold bts at hwl2
      rw [List.length_map, List.length_cons] at hwl2
      have cn := Numbers_any _ _ wt w2 (Strs.tail1 hW) (fun b hb => by
        have := hws2.out b.data.toList (by rw [← hbo2]; exact bts_mem (by simp [hb]))
        rw [ba_len] at this; exact this) (by omega)
      have hhd : (wordsB 32 l.data.toList).headD [] = w0.data.toList := by rw [← hbo2]; rfl
      have htl : (wordsB 32 l.data.toList).tail = bts wt := by rw [← hbo2]; rfl
      obtain ⟨aT, haT⟩ : ∃ aT, (if cW = 1 then some (⟨bW, oW, none⟩ : Addr) else some ⟨bW, oW + 1, none⟩) = aT := ⟨_, rfl⟩
      rw [haT] at cn
      have gc1 : ((1 : Int) ≤ (wt.length : Int) + 1) = True := eq_true (by omega)
      have cnH := Lib.hid cn
      have hb2H := Lib.hid hb2
      have hq2 := cell_later hb2 q0
      clear cn o2 hW hb2 cw2H hbo2 hne2 hws2
      simp only
      go_wp2_with fail
      refine cnH.out.mono ?_
      rintro e w3 ⟨vN, ns, rfl, oN, hns, hb3⟩
      obtain ⟨aN, cN, rfl, hN⟩ := oN.ints
      have c0 := cell_later hb3 c0
      have hbX3 := bcall hb2H.out hb3
      have hbX3H := Lib.hid hbX3
      have hNH := Lib.hid hN
      clear oN hN hb3 hbX3
      simp only
      cases hm : (bts wt).mapM numR with
      | none =>
        have hX : refX l.data.toList = (0, 0, 0) := refX_none (by rw [htl]; exact hm)
        simp only [Option.isSome_none]
        clear hm hns
        go_upto_region 15 with fail
        obtain ⟨W9, hW9⟩ : ∃ W, w3.alloc (.cells #[.int .i64 0, .int .i64 0, .int .i64 0] 74) = W := ⟨_, rfl⟩
        rw [hW9]
        have y0 : W9.cell? ⟨w3.heap.size, 0, none⟩ = some (.int .i64 0) := by rw [← hW9]; clear hW9; go_simp
        have y1 : W9.cell? ⟨w3.heap.size, 1, none⟩ = some (.int .i64 0) := by rw [← hW9]; clear hW9; go_simp
        have y2 : W9.cell? ⟨w3.heap.size, 2, none⟩ = some (.int .i64 0) := by rw [← hW9]; clear hW9; go_simp
        have hbX : Below wr.heap.size wr W9 := by rw [← hW9]; exact bcall hbX3H.out (below1 _ _)
        clear hW9 c0 hq2 haT
        have hXH := Lib.hid hX
        have hbXH := Lib.hid hbX
        clear hX hbX
        by_cases h60 : i = 60
        · have g60 : ((i : Int) == 60) = true := by simp [h60]
          have hfin : parseL (bts out) 0 [] = ([], i, 2) := by rw [← hpi.out, hsplit.out, parseL, if_neg (by omega)]
          have hfinH := Lib.hid hfin
          clear hfin h60
          go_wp2_with fail
          all_goals go_ret3
          all_goals rw [hrH.out, hfinH.out]
          all_goals exact ⟨_, rfl, .nil _ _ _ _ _, bcall hb1H.out (bcall hBH.out hbXH.out)⟩
        have g60 : ((i : Int) == 60) = false := by rw [beq_eq_false_iff_ne]; omega
        have cr := stepRight_any 60 i (0, 0, 0) W9 (by omega) (by omega) (by omega)
        cases hbr : rightB 60 i (0, 0, 0) with
        | false =>
          rw [hbr] at cr
          have hfin : parseL (bts out) 0 [] = ([], i, 2) := by rw [← hpi.out, hsplit.out, parseL, hXH.out, if_neg (by rw [hbr]; simp)]
          have hfinH := Lib.hid hfin
          have crH := Lib.hid cr
          clear hfin cr hbr h60
          dsimp only [stpV] at crH
          go_wp2_with fail
          refine crH.out.mono ?_
          rintro e w8 ⟨rfl, hb8⟩
          go_wp2_with fail
          all_goals go_ret3
          all_goals rw [hrH.out, hfinH.out]
          all_goals exact ⟨_, rfl, .nil _ _ _ _ _, bcall hb1H.out (bcall hBH.out (bcall hbXH.out hb8))⟩
        | true =>
          rw [hbr] at cr
          have hst : stpR (0, 0, 0) := right_R hbr (by omega)
          have hnx : parseL (v0 :: rest) (i + 1) (acc ++ [(0, 0, 0)]) = parseL (bts out) 0 [] := by rw [← hpi.out, hsplit.out, parseL, hXH.out, if_pos ⟨by omega, hbr⟩]
          have hnxH := Lib.hid hnx
          have crH := Lib.hid cr
          have hstH := Lib.hid hst
          clear hnx cr hbr hst
          dsimp only [stpV] at crH
          go_wp2_with fail
          refine crH.out.mono ?_
          rintro e w8 ⟨rfl, hb8⟩
          have hB8 := bcall hBH.out (bcall hbXH.out hb8)
          have hO8 := OwnL.call (OwnL.call hOH.out hbXH.out) hb8
          have y0 := cell_later hb8 y0
          have y1 := cell_later hb8 y1
          have y2 := cell_later hb8 y2
          obtain ⟨v', W', hrun, ho, hg, -⟩ := OwnL.push (P := Tryz.prog) (t := 25) (ty := 25) hO8 Tryz.underlying25 infoStp rfl (vs := [.int .i64 0, .int .i64 0, .int .i64 0]) (x := (0, 0, 0)) (stp_R hstH.out) (by omega) (by unfold big; omega) (by have := hB8.size; omega)
          have hrel : rpR (bts out) w1 v' (.int .i64 ((i : Int) + 1)) W' := ⟨i + 1, acc ++ [(0, 0, 0)], by go_num, by simp [hal], by rw [hbl]; omega, by omega, by rw [hdrop.out]; exact hnxH.out, ho, hB8.grown hg (by have := hB8.size; omega) (fun k e => (OwnL.lt hO8 k e).1)⟩
          have hrelH := Lib.hid hrel
          clear hrel ho hg hB8 hO8 hb8
          go_wp2_with (at_builtin; refine wpList_append_run rfl _ _ _ rfl rfl rfl hrun ?_)
          all_goals go_roundw
          all_goals first | exact hrelH.out | (simp [intOf]; done) | (simp [intOf]; omega)
      | some ms =>
        obtain rfl : ns = ms := hns ms hm
        simp only [Option.isSome_some]
        clear hns
        have c0A : (w3.alloc (.cells #[.int .i64 0, .int .i64 0, .int .i64 0] 74)).cell? ⟨bW, oW, none⟩ = some (.string w0) := cell_later (below1 w3 _) c0
        by_cases h1 : ns.length = 1
        · obtain ⟨a0, rfl⟩ : ∃ a0, ns = [a0] := by
            match ns, h1 with
            | [a], _ => exact ⟨a, rfl⟩
          obtain ⟨bN, oN, hae, -, n0, nr0⟩ := hNH.out.int 0 (by simp)
          subst hae
          simp only [List.getElem_cons_zero, Nat.add_zero] at n0 nr0
          have n0A : (w3.alloc (.cells #[.int .i64 0, .int .i64 0, .int .i64 0] 74)).cell? ⟨bN, oN, none⟩ = some (.int .i64 a0) := cell_later (below1 w3 _) n0
          have hXc := refX_cite (by rw [htl]; exact hm)
          rw [hhd] at hXc
          clear hm h1
          by_cases hc : w0.data.toList = citeW
          · have hX : refX l.data.toList = (1, a0, 0) := by rw [hXc, if_pos hc]
            have ge := ge_cite hc
            clear hXc hc
            go_upto_region 15 with fail
            obtain ⟨W9, hW9⟩ : ∃ W, w3.alloc (.cells #[.int .i64 1, .int .i64 a0, .int .i64 0] 74) = W := ⟨_, rfl⟩
            rw [hW9]
            have y0 : W9.cell? ⟨w3.heap.size, 0, none⟩ = some (.int .i64 1) := by rw [← hW9]; clear hW9; go_simp
            have y1 : W9.cell? ⟨w3.heap.size, 1, none⟩ = some (.int .i64 a0) := by rw [← hW9]; clear hW9; go_simp
            have y2 : W9.cell? ⟨w3.heap.size, 2, none⟩ = some (.int .i64 0) := by rw [← hW9]; clear hW9; go_simp
            have hbX : Below wr.heap.size wr W9 := by rw [← hW9]; exact bcall hbX3H.out (below1 _ _)
            clear hW9 c0 hq2 haT c0A n0A
            have hXH := Lib.hid hX
            have hbXH := Lib.hid hbX
            clear hX hbX
            by_cases h60 : i = 60
            · have g60 : ((i : Int) == 60) = true := by simp [h60]
              have hfin : parseL (bts out) 0 [] = ([], i, 2) := by rw [← hpi.out, hsplit.out, parseL, if_neg (by omega)]
              have hfinH := Lib.hid hfin
              clear hfin h60
              go_wp2_with fail
              all_goals go_ret3
              all_goals rw [hrH.out, hfinH.out]
              all_goals exact ⟨_, rfl, .nil _ _ _ _ _, bcall hb1H.out (bcall hBH.out hbXH.out)⟩
            have g60 : ((i : Int) == 60) = false := by rw [beq_eq_false_iff_ne]; omega
            have cr := stepRight_any 60 i (1, a0, 0) W9 (by omega) (by omega) (by omega)
            cases hbr : rightB 60 i (1, a0, 0) with
            | false =>
              rw [hbr] at cr
              have hfin : parseL (bts out) 0 [] = ([], i, 2) := by rw [← hpi.out, hsplit.out, parseL, hXH.out, if_neg (by rw [hbr]; simp)]
              have hfinH := Lib.hid hfin
              have crH := Lib.hid cr
              clear hfin cr hbr h60
              dsimp only [stpV] at crH
              go_wp2_with fail
              refine crH.out.mono ?_
              rintro e w8 ⟨rfl, hb8⟩
              go_wp2_with fail
              all_goals go_ret3
              all_goals rw [hrH.out, hfinH.out]
              all_goals exact ⟨_, rfl, .nil _ _ _ _ _, bcall hb1H.out (bcall hBH.out (bcall hbXH.out hb8))⟩
            | true =>
              rw [hbr] at cr
              have hst : stpR (1, a0, 0) := right_R hbr (by omega)
              have hnx : parseL (v0 :: rest) (i + 1) (acc ++ [(1, a0, 0)]) = parseL (bts out) 0 [] := by rw [← hpi.out, hsplit.out, parseL, hXH.out, if_pos ⟨by omega, hbr⟩]
              have hnxH := Lib.hid hnx
              have crH := Lib.hid cr
              have hstH := Lib.hid hst
              clear hnx cr hbr hst
              dsimp only [stpV] at crH
              go_wp2_with fail
              refine crH.out.mono ?_
              rintro e w8 ⟨rfl, hb8⟩
              have hB8 := bcall hBH.out (bcall hbXH.out hb8)
              have hO8 := OwnL.call (OwnL.call hOH.out hbXH.out) hb8
              have y0 := cell_later hb8 y0
              have y1 := cell_later hb8 y1
              have y2 := cell_later hb8 y2
              obtain ⟨v', W', hrun, ho, hg, -⟩ := OwnL.push (P := Tryz.prog) (t := 25) (ty := 25) hO8 Tryz.underlying25 infoStp rfl (vs := [.int .i64 1, .int .i64 a0, .int .i64 0]) (x := (1, a0, 0)) (stp_R hstH.out) (by omega) (by unfold big; omega) (by have := hB8.size; omega)
              have hrel : rpR (bts out) w1 v' (.int .i64 ((i : Int) + 1)) W' := ⟨i + 1, acc ++ [(1, a0, 0)], by go_num, by simp [hal], by rw [hbl]; omega, by omega, by rw [hdrop.out]; exact hnxH.out, ho, hB8.grown hg (by have := hB8.size; omega) (fun k e => (OwnL.lt hO8 k e).1)⟩
              have hrelH := Lib.hid hrel
              clear hrel ho hg hB8 hO8 hb8
              go_wp2_with (at_builtin; refine wpList_append_run rfl _ _ _ rfl rfl rfl hrun ?_)
              all_goals go_roundw
              all_goals first | exact hrelH.out | (simp [intOf]; done) | (simp [intOf]; omega)
          · have hX : refX l.data.toList = (0, 0, 0) := by rw [hXc, if_neg hc]
            have ge := gn_cite hc
            clear hXc hc
            go_upto_region 15 with fail
            obtain ⟨W9, hW9⟩ : ∃ W, w3.alloc (.cells #[.int .i64 0, .int .i64 0, .int .i64 0] 74) = W := ⟨_, rfl⟩
            rw [hW9]
            have y0 : W9.cell? ⟨w3.heap.size, 0, none⟩ = some (.int .i64 0) := by rw [← hW9]; clear hW9; go_simp
            have y1 : W9.cell? ⟨w3.heap.size, 1, none⟩ = some (.int .i64 0) := by rw [← hW9]; clear hW9; go_simp
            have y2 : W9.cell? ⟨w3.heap.size, 2, none⟩ = some (.int .i64 0) := by rw [← hW9]; clear hW9; go_simp
            have hbX : Below wr.heap.size wr W9 := by rw [← hW9]; exact bcall hbX3H.out (below1 _ _)
            clear hW9 c0 hq2 haT
            have hXH := Lib.hid hX
            have hbXH := Lib.hid hbX
            clear hX hbX
            by_cases h60 : i = 60
            · have g60 : ((i : Int) == 60) = true := by simp [h60]
              have hfin : parseL (bts out) 0 [] = ([], i, 2) := by rw [← hpi.out, hsplit.out, parseL, if_neg (by omega)]
              have hfinH := Lib.hid hfin
              clear hfin h60
              go_wp2_with fail
              all_goals go_ret3
              all_goals rw [hrH.out, hfinH.out]
              all_goals exact ⟨_, rfl, .nil _ _ _ _ _, bcall hb1H.out (bcall hBH.out hbXH.out)⟩
            have g60 : ((i : Int) == 60) = false := by rw [beq_eq_false_iff_ne]; omega
            have cr := stepRight_any 60 i (0, 0, 0) W9 (by omega) (by omega) (by omega)
            cases hbr : rightB 60 i (0, 0, 0) with
            | false =>
              rw [hbr] at cr
              have hfin : parseL (bts out) 0 [] = ([], i, 2) := by rw [← hpi.out, hsplit.out, parseL, hXH.out, if_neg (by rw [hbr]; simp)]
              have hfinH := Lib.hid hfin
              have crH := Lib.hid cr
              clear hfin cr hbr h60
              dsimp only [stpV] at crH
              go_wp2_with fail
              refine crH.out.mono ?_
              rintro e w8 ⟨rfl, hb8⟩
              go_wp2_with fail
              all_goals go_ret3
              all_goals rw [hrH.out, hfinH.out]
              all_goals exact ⟨_, rfl, .nil _ _ _ _ _, bcall hb1H.out (bcall hBH.out (bcall hbXH.out hb8))⟩
            | true =>
              rw [hbr] at cr
              have hst : stpR (0, 0, 0) := right_R hbr (by omega)
              have hnx : parseL (v0 :: rest) (i + 1) (acc ++ [(0, 0, 0)]) = parseL (bts out) 0 [] := by rw [← hpi.out, hsplit.out, parseL, hXH.out, if_pos ⟨by omega, hbr⟩]
              have hnxH := Lib.hid hnx
              have crH := Lib.hid cr
              have hstH := Lib.hid hst
              clear hnx cr hbr hst
              dsimp only [stpV] at crH
              go_wp2_with fail
              refine crH.out.mono ?_
              rintro e w8 ⟨rfl, hb8⟩
              have hB8 := bcall hBH.out (bcall hbXH.out hb8)
              have hO8 := OwnL.call (OwnL.call hOH.out hbXH.out) hb8
              have y0 := cell_later hb8 y0
              have y1 := cell_later hb8 y1
              have y2 := cell_later hb8 y2
              obtain ⟨v', W', hrun, ho, hg, -⟩ := OwnL.push (P := Tryz.prog) (t := 25) (ty := 25) hO8 Tryz.underlying25 infoStp rfl (vs := [.int .i64 0, .int .i64 0, .int .i64 0]) (x := (0, 0, 0)) (stp_R hstH.out) (by omega) (by unfold big; omega) (by have := hB8.size; omega)
              have hrel : rpR (bts out) w1 v' (.int .i64 ((i : Int) + 1)) W' := ⟨i + 1, acc ++ [(0, 0, 0)], by go_num, by simp [hal], by rw [hbl]; omega, by omega, by rw [hdrop.out]; exact hnxH.out, ho, hB8.grown hg (by have := hB8.size; omega) (fun k e => (OwnL.lt hO8 k e).1)⟩
              have hrelH := Lib.hid hrel
              clear hrel ho hg hB8 hO8 hb8
              go_wp2_with (at_builtin; refine wpList_append_run rfl _ _ _ rfl rfl rfl hrun ?_)
              all_goals go_roundw
              all_goals first | exact hrelH.out | (simp [intOf]; done) | (simp [intOf]; omega)
        by_cases h2 : ns.length = 2
        · obtain ⟨a0, b0, rfl⟩ : ∃ a0 b0, ns = [a0, b0] := by
            match ns, h2 with
            | [a, b], _ => exact ⟨a, b, rfl⟩
          obtain ⟨bN, oN, hae, -, n0, nr0⟩ := hNH.out.int 0 (by simp)
          subst hae
          obtain ⟨bN', oN', hae, -, n1, nr1⟩ := hNH.out.int 1 (by simp)
          cases hae
          simp only [List.getElem_cons_zero, List.getElem_cons_succ, Nat.add_zero] at n0 nr0 n1 nr1
          have n0A : (w3.alloc (.cells #[.int .i64 0, .int .i64 0, .int .i64 0] 74)).cell? ⟨bN, oN, none⟩ = some (.int .i64 a0) := cell_later (below1 w3 _) n0
          have n1A : (w3.alloc (.cells #[.int .i64 0, .int .i64 0, .int .i64 0] 74)).cell? ⟨bN, oN + 1, none⟩ = some (.int .i64 b0) := cell_later (below1 w3 _) n1
          have hXc := refX_det (by rw [htl]; exact hm)
          rw [hhd] at hXc
          clear hm h1 h2
          by_cases hc : w0.data.toList = detW
          · have hX : refX l.data.toList = (2, a0, b0) := by rw [hXc, if_pos hc]
            have ge := ge_det hc
            clear hXc hc
            go_upto_region 15 with fail
            go_region
            go_upto_region 15 with fail
            obtain ⟨W9, hW9⟩ : ∃ W, (w3.alloc (.cells #[.int .i64 2, .int .i64 a0, .int .i64 b0] 74)).drew = W := ⟨_, rfl⟩
            rw [hW9]
            have y0 : W9.cell? ⟨w3.heap.size, 0, none⟩ = some (.int .i64 2) := by rw [← hW9]; clear hW9; go_simp
            have y1 : W9.cell? ⟨w3.heap.size, 1, none⟩ = some (.int .i64 a0) := by rw [← hW9]; clear hW9; go_simp
            have y2 : W9.cell? ⟨w3.heap.size, 2, none⟩ = some (.int .i64 b0) := by rw [← hW9]; clear hW9; go_simp
            have hbX : Below wr.heap.size wr W9 := by rw [← hW9]; exact bcall hbX3H.out (below1 _ _).drew
            clear hW9 c0 hq2 haT c0A n0A
            have hXH := Lib.hid hX
            have hbXH := Lib.hid hbX
            clear hX hbX
            by_cases h60 : i = 60
            · have g60 : ((i : Int) == 60) = true := by simp [h60]
              have hfin : parseL (bts out) 0 [] = ([], i, 2) := by rw [← hpi.out, hsplit.out, parseL, if_neg (by omega)]
              have hfinH := Lib.hid hfin
              clear hfin h60
              go_wp2_with fail
              all_goals go_ret3
              all_goals rw [hrH.out, hfinH.out]
              all_goals exact ⟨_, rfl, .nil _ _ _ _ _, bcall hb1H.out (bcall hBH.out hbXH.out)⟩
            have g60 : ((i : Int) == 60) = false := by rw [beq_eq_false_iff_ne]; omega
            have cr := stepRight_any 60 i (2, a0, b0) W9 (by omega) (by omega) (by omega)
            cases hbr : rightB 60 i (2, a0, b0) with
            | false =>
              rw [hbr] at cr
              have hfin : parseL (bts out) 0 [] = ([], i, 2) := by rw [← hpi.out, hsplit.out, parseL, hXH.out, if_neg (by rw [hbr]; simp)]
              have hfinH := Lib.hid hfin
              have crH := Lib.hid cr
              clear hfin cr hbr h60
              dsimp only [stpV] at crH
              go_wp2_with fail
              refine crH.out.mono ?_
              rintro e w8 ⟨rfl, hb8⟩
              go_wp2_with fail
              all_goals go_ret3
              all_goals rw [hrH.out, hfinH.out]
              all_goals exact ⟨_, rfl, .nil _ _ _ _ _, bcall hb1H.out (bcall hBH.out (bcall hbXH.out hb8))⟩
            | true =>
              rw [hbr] at cr
              have hst : stpR (2, a0, b0) := right_R hbr (by omega)
              have hnx : parseL (v0 :: rest) (i + 1) (acc ++ [(2, a0, b0)]) = parseL (bts out) 0 [] := by rw [← hpi.out, hsplit.out, parseL, hXH.out, if_pos ⟨by omega, hbr⟩]
              have hnxH := Lib.hid hnx
              have crH := Lib.hid cr
              have hstH := Lib.hid hst
              clear hnx cr hbr hst
              dsimp only [stpV] at crH
              go_wp2_with fail
              refine crH.out.mono ?_
              rintro e w8 ⟨rfl, hb8⟩
              have hB8 := bcall hBH.out (bcall hbXH.out hb8)
              have hO8 := OwnL.call (OwnL.call hOH.out hbXH.out) hb8
              have y0 := cell_later hb8 y0
              have y1 := cell_later hb8 y1
              have y2 := cell_later hb8 y2
              obtain ⟨v', W', hrun, ho, hg, -⟩ := OwnL.push (P := Tryz.prog) (t := 25) (ty := 25) hO8 Tryz.underlying25 infoStp rfl (vs := [.int .i64 2, .int .i64 a0, .int .i64 b0]) (x := (2, a0, b0)) (stp_R hstH.out) (by omega) (by unfold big; omega) (by have := hB8.size; omega)
              have hrel : rpR (bts out) w1 v' (.int .i64 ((i : Int) + 1)) W' := ⟨i + 1, acc ++ [(2, a0, b0)], by go_num, by simp [hal], by rw [hbl]; omega, by omega, by rw [hdrop.out]; exact hnxH.out, ho, hB8.grown hg (by have := hB8.size; omega) (fun k e => (OwnL.lt hO8 k e).1)⟩
              have hrelH := Lib.hid hrel
              clear hrel ho hg hB8 hO8 hb8
              go_wp2_with (at_builtin; refine wpList_append_run rfl _ _ _ rfl rfl rfl hrun ?_)
              all_goals go_roundw
              all_goals first | exact hrelH.out | (simp [intOf]; done) | (simp [intOf]; omega)
          · have hX : refX l.data.toList = (0, 0, 0) := by rw [hXc, if_neg hc]
            have ge := gn_det hc
            clear hXc hc
            go_upto_region 15 with fail
            obtain ⟨W9, hW9⟩ : ∃ W, w3.alloc (.cells #[.int .i64 0, .int .i64 0, .int .i64 0] 74) = W := ⟨_, rfl⟩
            rw [hW9]
            have y0 : W9.cell? ⟨w3.heap.size, 0, none⟩ = some (.int .i64 0) := by rw [← hW9]; clear hW9; go_simp
            have y1 : W9.cell? ⟨w3.heap.size, 1, none⟩ = some (.int .i64 0) := by rw [← hW9]; clear hW9; go_simp
            have y2 : W9.cell? ⟨w3.heap.size, 2, none⟩ = some (.int .i64 0) := by rw [← hW9]; clear hW9; go_simp
            have hbX : Below wr.heap.size wr W9 := by rw [← hW9]; exact bcall hbX3H.out (below1 _ _)
            clear hW9 c0 hq2 haT
            have hXH := Lib.hid hX
            have hbXH := Lib.hid hbX
            clear hX hbX
            by_cases h60 : i = 60
            · have g60 : ((i : Int) == 60) = true := by simp [h60]
              have hfin : parseL (bts out) 0 [] = ([], i, 2) := by rw [← hpi.out, hsplit.out, parseL, if_neg (by omega)]
              have hfinH := Lib.hid hfin
              clear hfin h60
              go_wp2_with fail
              all_goals go_ret3
              all_goals rw [hrH.out, hfinH.out]
              all_goals exact ⟨_, rfl, .nil _ _ _ _ _, bcall hb1H.out (bcall hBH.out hbXH.out)⟩
            have g60 : ((i : Int) == 60) = false := by rw [beq_eq_false_iff_ne]; omega
            have cr := stepRight_any 60 i (0, 0, 0) W9 (by omega) (by omega) (by omega)
            cases hbr : rightB 60 i (0, 0, 0) with
            | false =>
              rw [hbr] at cr
              have hfin : parseL (bts out) 0 [] = ([], i, 2) := by rw [← hpi.out, hsplit.out, parseL, hXH.out, if_neg (by rw [hbr]; simp)]
              have hfinH := Lib.hid hfin
              have crH := Lib.hid cr
              clear hfin cr hbr h60
              dsimp only [stpV] at crH
              go_wp2_with fail
              refine crH.out.mono ?_
              rintro e w8 ⟨rfl, hb8⟩
              go_wp2_with fail
              all_goals go_ret3
              all_goals rw [hrH.out, hfinH.out]
              all_goals exact ⟨_, rfl, .nil _ _ _ _ _, bcall hb1H.out (bcall hBH.out (bcall hbXH.out hb8))⟩
            | true =>
              rw [hbr] at cr
              have hst : stpR (0, 0, 0) := right_R hbr (by omega)
              have hnx : parseL (v0 :: rest) (i + 1) (acc ++ [(0, 0, 0)]) = parseL (bts out) 0 [] := by rw [← hpi.out, hsplit.out, parseL, hXH.out, if_pos ⟨by omega, hbr⟩]
              have hnxH := Lib.hid hnx
              have crH := Lib.hid cr
              have hstH := Lib.hid hst
              clear hnx cr hbr hst
              dsimp only [stpV] at crH
              go_wp2_with fail
              refine crH.out.mono ?_
              rintro e w8 ⟨rfl, hb8⟩
              have hB8 := bcall hBH.out (bcall hbXH.out hb8)
              have hO8 := OwnL.call (OwnL.call hOH.out hbXH.out) hb8
              have y0 := cell_later hb8 y0
              have y1 := cell_later hb8 y1
              have y2 := cell_later hb8 y2
              obtain ⟨v', W', hrun, ho, hg, -⟩ := OwnL.push (P := Tryz.prog) (t := 25) (ty := 25) hO8 Tryz.underlying25 infoStp rfl (vs := [.int .i64 0, .int .i64 0, .int .i64 0]) (x := (0, 0, 0)) (stp_R hstH.out) (by omega) (by unfold big; omega) (by have := hB8.size; omega)
              have hrel : rpR (bts out) w1 v' (.int .i64 ((i : Int) + 1)) W' := ⟨i + 1, acc ++ [(0, 0, 0)], by go_num, by simp [hal], by rw [hbl]; omega, by omega, by rw [hdrop.out]; exact hnxH.out, ho, hB8.grown hg (by have := hB8.size; omega) (fun k e => (OwnL.lt hO8 k e).1)⟩
              have hrelH := Lib.hid hrel
              clear hrel ho hg hB8 hO8 hb8
              go_wp2_with (at_builtin; refine wpList_append_run rfl _ _ _ rfl rfl rfl hrun ?_)
              all_goals go_roundw
              all_goals first | exact hrelH.out | (simp [intOf]; done) | (simp [intOf]; omega)
        have hX : refX l.data.toList = (0, 0, 0) := refX_else (by rw [htl]; exact hm) h1 h2
        have gn1 : ((ns.length : Int) == 1) = false := by rw [beq_eq_false_iff_ne]; omega
        have gn2 : ((ns.length : Int) == 2) = false := by rw [beq_eq_false_iff_ne]; omega
        clear hm h1 h2
        go_upto_region 15 with fail
        obtain ⟨W9, hW9⟩ : ∃ W, w3.alloc (.cells #[.int .i64 0, .int .i64 0, .int .i64 0] 74) = W := ⟨_, rfl⟩
        rw [hW9]
        have y0 : W9.cell? ⟨w3.heap.size, 0, none⟩ = some (.int .i64 0) := by rw [← hW9]; clear hW9; go_simp
        have y1 : W9.cell? ⟨w3.heap.size, 1, none⟩ = some (.int .i64 0) := by rw [← hW9]; clear hW9; go_simp
        have y2 : W9.cell? ⟨w3.heap.size, 2, none⟩ = some (.int .i64 0) := by rw [← hW9]; clear hW9; go_simp
        have hbX : Below wr.heap.size wr W9 := by rw [← hW9]; exact bcall hbX3H.out (below1 _ _)
        clear hW9 c0 hq2 haT
        have hXH := Lib.hid hX
        have hbXH := Lib.hid hbX
        clear hX hbX
        by_cases h60 : i = 60
        · have g60 : ((i : Int) == 60) = true := by simp [h60]
          have hfin : parseL (bts out) 0 [] = ([], i, 2) := by rw [← hpi.out, hsplit.out, parseL, if_neg (by omega)]
          have hfinH := Lib.hid hfin
          clear hfin h60
          go_wp2_with fail
          all_goals go_ret3
          all_goals rw [hrH.out, hfinH.out]
          all_goals exact ⟨_, rfl, .nil _ _ _ _ _, bcall hb1H.out (bcall hBH.out hbXH.out)⟩
        have g60 : ((i : Int) == 60) = false := by rw [beq_eq_false_iff_ne]; omega
        have cr := stepRight_any 60 i (0, 0, 0) W9 (by omega) (by omega) (by omega)
        cases hbr : rightB 60 i (0, 0, 0) with
        | false =>
          rw [hbr] at cr
          have hfin : parseL (bts out) 0 [] = ([], i, 2) := by rw [← hpi.out, hsplit.out, parseL, hXH.out, if_neg (by rw [hbr]; simp)]
          have hfinH := Lib.hid hfin
          have crH := Lib.hid cr
          clear hfin cr hbr h60
          dsimp only [stpV] at crH
          go_wp2_with fail
          refine crH.out.mono ?_
          rintro e w8 ⟨rfl, hb8⟩
          go_wp2_with fail
          all_goals go_ret3
          all_goals rw [hrH.out, hfinH.out]
          all_goals exact ⟨_, rfl, .nil _ _ _ _ _, bcall hb1H.out (bcall hBH.out (bcall hbXH.out hb8))⟩
        | true =>
          rw [hbr] at cr
          have hst : stpR (0, 0, 0) := right_R hbr (by omega)
          have hnx : parseL (v0 :: rest) (i + 1) (acc ++ [(0, 0, 0)]) = parseL (bts out) 0 [] := by rw [← hpi.out, hsplit.out, parseL, hXH.out, if_pos ⟨by omega, hbr⟩]
          have hnxH := Lib.hid hnx
          have crH := Lib.hid cr
          have hstH := Lib.hid hst
          clear hnx cr hbr hst
          dsimp only [stpV] at crH
          go_wp2_with fail
          refine crH.out.mono ?_
          rintro e w8 ⟨rfl, hb8⟩
          have hB8 := bcall hBH.out (bcall hbXH.out hb8)
          have hO8 := OwnL.call (OwnL.call hOH.out hbXH.out) hb8
          have y0 := cell_later hb8 y0
          have y1 := cell_later hb8 y1
          have y2 := cell_later hb8 y2
          obtain ⟨v', W', hrun, ho, hg, -⟩ := OwnL.push (P := Tryz.prog) (t := 25) (ty := 25) hO8 Tryz.underlying25 infoStp rfl (vs := [.int .i64 0, .int .i64 0, .int .i64 0]) (x := (0, 0, 0)) (stp_R hstH.out) (by omega) (by unfold big; omega) (by have := hB8.size; omega)
          have hrel : rpR (bts out) w1 v' (.int .i64 ((i : Int) + 1)) W' := ⟨i + 1, acc ++ [(0, 0, 0)], by go_num, by simp [hal], by rw [hbl]; omega, by omega, by rw [hdrop.out]; exact hnxH.out, ho, hB8.grown hg (by have := hB8.size; omega) (fun k e => (OwnL.lt hO8 k e).1)⟩
          have hrelH := Lib.hid hrel
          clear hrel ho hg hB8 hO8 hb8
          go_wp2_with (at_builtin; refine wpList_append_run rfl _ _ _ rfl rfl rfl hrun ?_)
          all_goals go_roundw
          all_goals first | exact hrelH.out | (simp [intOf]; done) | (simp [intOf]; omega)
    · have gl : ((i : Int) < (out.length : Int) - 1) = False := eq_false (by omega)
      obtain ⟨bl, ol, hae, -, q0, -⟩ := (hO1H.out.below hB).str i (by omega)
      subst hae
      obtain ⟨l, hle⟩ : ∃ l, out[i] = l := ⟨_, rfl⟩
      have hdr0 : (bts out).drop i = [l.data.toList] := by
        rw [List.drop_eq_getElem_cons (by rw [hbl]; omega), List.drop_of_length_le (by rw [hbl]; omega)]
        simp [bts, hle]
      rw [hle] at q0
      have q1 : wr.cell? ⟨bl, ol + (out.length - 1), none⟩ = some (.string l) := by rw [show out.length - 1 = i by omega]; exact q0
      obtain ⟨aP, cP, rfl, -⟩ := OwnSt.steps hOH.out
      have hixH := Lib.hid (show (i : Int) = (out.length : Int) - 1 by omega)
      have hbF := Lib.hid (bcall hb1H.out hBH.out)
      have go1 : (0 : Int) ≤ (out.length : Int) - 1 := by omega
      have go2 : (out.length : Int) - 1 < (out.length : Int) := by omega
      have ho16 : out.length ≤ 65537 := by omega
      by_cases hl0 : l.data.toList = []
      · have hl1 : l = ⟨#[]⟩ := ba_of (by rw [hl0])
        subst hl1
        by_cases ha0 : acc = []
        · subst ha0
          have hfinH := Lib.hid (show parseL (bts out) 0 [] = ([], i, 2) by rw [← hpi.out, hdr0, parseL, if_neg (by simp)])
          clear hdr0 hp hO hB hle hl0 q0 hal hi hlt
          go_wp2_with fail
          all_goals go_ret3
          all_goals rw [hrH.out, hfinH.out]
          all_goals refine ⟨_, ?_, .nil _ _ _ _ _, hbF.out⟩
          all_goals (show _ = Ending.returned (.tuple #[_, .int .i64 (i : Int), .int .i64 2]); rw [hixH.out]; rfl)
        · have hfinH := Lib.hid (show parseL (bts out) 0 [] = (acc, 0, 0) by rw [← hpi.out, hdr0, parseL, if_pos ⟨hl0, ha0⟩])
          have ha1 : ((acc.length : Int) == 0) = false := by
            rw [beq_eq_false_iff_ne]
            intro e
            exact ha0 (List.length_eq_zero_iff.1 (by omega))
          clear hdr0 hp hO hB hle hl0 q0 hal hi hlt ha0
          go_wp2_with fail
          all_goals go_ret3
          all_goals rw [hrH.out, hfinH.out]
          all_goals exact ⟨_, rfl, OwnL.baseMono hOH.out hb1H.out.size, hbF.out⟩
      · have hfinH := Lib.hid (show parseL (bts out) 0 [] = ([], i, 2) by rw [← hpi.out, hdr0, parseL, if_neg (fun e => hl0 e.1)])
        have hq : (l.toList == []) = false := gn_nil hl0
        clear hdr0 hp hO hB hle hl0 q0 hal hi hlt
        go_wp2_with fail
        all_goals go_ret3
        all_goals rw [hrH.out, hfinH.out]
        all_goals refine ⟨_, ?_, .nil _ _ _ _ _, hbF.out⟩
        all_goals (show _ = Ending.returned (.tuple #[_, .int .i64 (i : Int), .int .i64 2]); rw [hixH.out]; rfl)
end Go.Proofs.YtggfhjfebnhbjaaGreatDoor

/- Walks: lemmaryref04.written, Format. -/
namespace Go.Proofs.YtggfhjfebnhbjaaGreatDoor
open Go Go.RowKit

def dgB (n : Nat) : ByteArray := ⟨(Lib.itoa (n : Int)).toArray⟩
theorem dgB_bytes (n : Nat) : (dgB n).data.toList = Lib.itoa (n : Int) := rfl
theorem dgB_size {n : Nat} (h : n < 60) : (dgB n).size ≤ 2 := by
  have f := smD_facts ⟨n, h⟩
  have : (dgB n).size = (Lib.itoa (n : Int)).length := by unfold dgB; simp [ByteArray.size]
  rw [this, itoa_sm (by omega)]; exact f.2.2.1
theorem lineT_cite {a : Nat} : (⟨#[99, 105, 116, 101, 32]⟩ : ByteArray) ++ dgB a ++ ⟨#[10]⟩ = ⟨(lineT (1, (a : Int), 0)).toArray⟩ := by
  refine ByteArray.ext (Array.toList_inj.1 ?_)
  rw [ByteArray.data_append, ByteArray.data_append, Array.toList_append, Array.toList_append, dgB_bytes]
  unfold lineT lineB; rw [if_pos rfl]; simp [citeW]
theorem lineT_det {a b : Nat} : (⟨#[100, 101, 116, 97, 99, 104, 32]⟩ : ByteArray) ++ dgB a ++ ⟨#[32]⟩ ++ dgB b ++ ⟨#[10]⟩ = ⟨(lineT (2, (a : Int), (b : Int))).toArray⟩ := by
  refine ByteArray.ext (Array.toList_inj.1 ?_)
  simp only [ByteArray.data_append, Array.toList_append, dgB_bytes]
  unfold lineT lineB; rw [if_neg (by simp)]; simp [detW]
theorem lineT_size {i : Nat} {x : Stp} (h : rightB 60 i x = true) (hi : i ≤ 60) : (lineT x).length ≤ 13 := by
  unfold lineT
  rcases right_form h hi with ⟨a, ha, rfl⟩ | ⟨a, b, ha, hb, rfl⟩
  · have f := smD_facts ⟨a, ha⟩
    have : (smD a).length ≤ 2 := f.2.2.1
    rw [lineB_cite ha]; simp [citeW]; omega
  · have f := smD_facts ⟨a, ha⟩
    have g := smD_facts ⟨b, hb⟩
    have : (smD a).length ≤ 2 := f.2.2.1
    have : (smD b).length ≤ 2 := g.2.2.1
    rw [lineB_det ha hb]; simp [detW]; omega
set_option maxRecDepth 100000 in
set_option maxHeartbeats 2000000 in
theorem written_any {i : Nat} (x : Stp) (hx : rightB 60 i x = true) (hi : i ≤ 60) (w : World) :
    Calls Tryz.prog 66 #[stpV x] w fun e w' => e = .returned (.string ⟨(lineT x).toArray⟩) ∧ Below w.heap.size w w' := by
  rcases right_form hx hi with ⟨a, ha, rfl⟩ | ⟨a, b, ha, hb, rfl⟩
  · have ct := fun W => Digits_any (a : Int) (by omega) (by omega) W
    have hl := lineT_cite (a := a)
    have hs := dgB_size ha
    obtain ⟨D, hD⟩ : ∃ D, dgB a = D := ⟨_, rfl⟩
    have ct2 : ∀ W, Calls Tryz.prog 101 #[.int .i64 (a : Int)] W fun e w' => e = .returned (.string D) ∧ W = w' := fun W => by rw [← hD]; exact ct W
    rw [hD] at hl hs
    obtain ⟨W0, hW0⟩ : ∃ W, w.alloc (.cells #[.int .i64 1, .int .i64 (a : Int), .int .i64 0] 74) = W := ⟨_, rfl⟩
    have hb0 : Below w.heap.size w W0 := by rw [← hW0]; exact below1 w _
    have q0 : W0.cell? ⟨w.heap.size, 0, none⟩ = some (.int .i64 1) := by rw [← hW0]; clear hW0; go_simp
    have q1 : W0.cell? ⟨w.heap.size, 1, none⟩ = some (.int .i64 (a : Int)) := by rw [← hW0]; clear hW0; go_simp
    have s1 : (9223372036854775807 < 5 + D.size) = False := eq_false (by omega)
    have s2 : (9223372036854775807 < 5 + D.size + 1) = False := eq_false (by omega)
    have ctH := Lib.hid ct2
    have hlH := Lib.hid hl
    have hb0H := Lib.hid hb0
    clear ct ct2 hl hD hb0 hx
    dsimp only [stpV]
    go_enter Tryz.func66, Tryz.ntmps66
    go_wp2_with fail
    try rw [hW0]
    go_wp2_with fail
    refine (ctH.out _).mono ?_
    rintro e w1 ⟨rfl, rfl⟩
    go_wp2_with fail
    go_ret
    exact ⟨by rw [← hlH.out]; rfl, hb0H.out⟩
  · have ca := fun W => Digits_any (a : Int) (by omega) (by omega) W
    have cb := fun W => Digits_any (b : Int) (by omega) (by omega) W
    have hl := lineT_det (a := a) (b := b)
    have hs := dgB_size ha
    have ht := dgB_size hb
    obtain ⟨D, hD⟩ : ∃ D, dgB a = D := ⟨_, rfl⟩
    obtain ⟨F, hF⟩ : ∃ F, dgB b = F := ⟨_, rfl⟩
    have ca2 : ∀ W, Calls Tryz.prog 101 #[.int .i64 (a : Int)] W fun e w' => e = .returned (.string D) ∧ W = w' := fun W => by rw [← hD]; exact ca W
    have cb2 : ∀ W, Calls Tryz.prog 101 #[.int .i64 (b : Int)] W fun e w' => e = .returned (.string F) ∧ W = w' := fun W => by rw [← hF]; exact cb W
    rw [hD, hF] at hl
    rw [hD] at hs
    rw [hF] at ht
    obtain ⟨W0, hW0⟩ : ∃ W, w.alloc (.cells #[.int .i64 2, .int .i64 (a : Int), .int .i64 (b : Int)] 74) = W := ⟨_, rfl⟩
    have hb0 : Below w.heap.size w W0 := by rw [← hW0]; exact below1 w _
    have q0 : W0.cell? ⟨w.heap.size, 0, none⟩ = some (.int .i64 2) := by rw [← hW0]; clear hW0; go_simp
    have q1 : W0.cell? ⟨w.heap.size, 1, none⟩ = some (.int .i64 (a : Int)) := by rw [← hW0]; clear hW0; go_simp
    have q2 : W0.cell? ⟨w.heap.size, 2, none⟩ = some (.int .i64 (b : Int)) := by rw [← hW0]; clear hW0; go_simp
    have s1 : (9223372036854775807 < 7 + D.size) = False := eq_false (by omega)
    have s2 : (9223372036854775807 < 7 + D.size + 1) = False := eq_false (by omega)
    have s3 : (9223372036854775807 < 7 + D.size + 1 + F.size) = False := eq_false (by omega)
    have s4 : (9223372036854775807 < 7 + D.size + 1 + F.size + 1) = False := eq_false (by omega)
    have caH := Lib.hid ca2
    have cbH := Lib.hid cb2
    have hlH := Lib.hid hl
    have hb0H := Lib.hid hb0
    clear ca cb ca2 cb2 hl hD hF hb0 hx
    dsimp only [stpV]
    go_enter Tryz.func66, Tryz.ntmps66
    go_wp2_with fail
    try rw [hW0]
    go_wp2_with fail
    go_quiet ((go_at_call 101; first | (with_reducible exact quiet_left (caH.out _)) | (with_reducible exact quiet_left (cbH.out _))))
    go_wp2_with fail
    go_ret
    exact ⟨by rw [← hlH.out]; rfl, below_drewN hb0H.out nq⟩
def fmR (p : List Stp) (w : World) (sV iV : Value) (wr : World) : Prop :=
  ∃ k : Nat, iV = .int .i64 k ∧ k ≤ p.length ∧ sV = .string ⟨((p.take k).flatMap lineT).toArray⟩ ∧ Below w.heap.size w wr
theorem fm_len {p : List Stp} (h : okSteps 60 0 p = true) (h60 : p.length ≤ 60) : ∀ k, k ≤ p.length → ((p.take k).flatMap lineT).length ≤ 13 * k
  | 0, _ => by simp
  | k + 1, hk => by
    have ih := fm_len h h60 k (by omega)
    have hr := okS_get p 0 k (by omega) h
    rw [Nat.zero_add] at hr
    have hl := lineT_size hr (by omega)
    rw [List.take_succ_eq_append_getElem (by omega), List.flatMap_append, List.length_append]
    simp only [List.flatMap_cons, List.flatMap_nil, List.append_nil]
    omega
theorem fm_succ {p : List Stp} {k : Nat} (h : k < p.length) : (p.take (k + 1)).flatMap lineT = (p.take k).flatMap lineT ++ lineT p[k] := by
  rw [List.take_succ_eq_append_getElem h, List.flatMap_append]; simp
set_option maxRecDepth 100000 in
set_option maxHeartbeats 1000000 in
theorem rFormat_any {S : Nat → Prop} (a : Option Addr) (c : Nat) (p : List Stp) (w : World) (h : Steps S w a c p) :
    Calls Tryz.prog 32 #[.slice a p.length c] w fun e w' => e = .returned (.string ⟨(formatE p).toArray⟩) ∧ Below w.heap.size w w' := by
  have v1 := rValidProof_any 60 a c p w h
  have hpv : proofB 60 p = validP 60 p := by unfold proofB; simp
  rw [hpv] at v1
  cases hv : validP 60 p with
  | false =>
    rw [hv] at v1
    have v1H := Lib.hid v1
    have hrH := Lib.hid (show formatE p = [] by unfold formatE; rw [hv]; rfl)
    clear v1 h hv hpv
    go_enter Tryz.func32, Tryz.ntmps32
    go_wp2_with fail
    refine v1H.out.mono ?_
    rintro e w1 ⟨rfl, hb1⟩
    go_wp2_with fail
    go_ret
    exact ⟨by rw [hrH.out]; rfl, hb1⟩
  | true =>
    rw [hv] at v1
    obtain ⟨ok, p1, p2⟩ := validP_parts hv
    have v1H := Lib.hid v1
    have hH := Lib.hid h
    have okH := Lib.hid ok
    have hrH := Lib.hid (show formatE p = (p.take p.length).flatMap lineT by unfold formatE; rw [hv, if_pos rfl, List.take_length])
    have hfl := Lib.hid (fm_len ok p2)
    clear v1 h hv hpv ok
    go_enter Tryz.func32, Tryz.ntmps32
    go_wp2_with fail
    refine v1H.out.mono ?_
    rintro e w1 ⟨rfl, hb1⟩
    have hb1H := Lib.hid hb1
    clear hb1 v1H
    go_wp2_with fail
    go_loopw [3, 4] (fun sV iV wr => fmR p w1 sV iV wr) (fun _ iV _ => p.length - (intOf iV).toNat)
    case atStart => exact ⟨0, rfl, Nat.zero_le _, rfl, Below.refl _ _⟩
    case round =>
      obtain ⟨k, rfl, hk, rfl, hB⟩ := hrel
      by_cases hlt : k < p.length
      · obtain ⟨bp, off, hae, -, r0, r1, r2, -⟩ := Sl.stp ((hH.out.below hb1H.out).below hB) k hlt
        subst hae
        have hr := okS_get p 0 k hlt okH.out
        rw [Nat.zero_add] at hr
        have cw := fun W => written_any p[k] hr (by omega) W
        have hsucc := fm_succ hlt
        have hlk := hfl.out k (by omega)
        have hln := lineT_size hr (by omega)
        obtain ⟨x, hxe⟩ : ∃ x, p[k] = x := ⟨_, rfl⟩
        rw [hxe] at r0 r1 r2 cw hsucc hln
        obtain ⟨A, hA⟩ : ∃ A : ByteArray, (⟨((p.take k).flatMap lineT).toArray⟩ : ByteArray) = A := ⟨_, rfl⟩
        obtain ⟨D, hD⟩ : ∃ D : ByteArray, (⟨(lineT x).toArray⟩ : ByteArray) = D := ⟨_, rfl⟩
        have hAs : A.size ≤ 780 := by rw [← hA]; show ((p.take k).flatMap lineT).toArray.size ≤ 780; rw [List.size_toArray]; omega
        have hDs : D.size ≤ 13 := by rw [← hD]; show (lineT x).toArray.size ≤ 13; rw [List.size_toArray]; omega
        have hnx : A ++ D = ⟨((p.take (k + 1)).flatMap lineT).toArray⟩ := by
          refine ByteArray.ext (Array.toList_inj.1 ?_)
          rw [ByteArray.data_append, Array.toList_append, hsucc, ← hA, ← hD]
        have cw2 : ∀ W, Calls Tryz.prog 66 #[stpV x] W fun e w' => e = .returned (.string D) ∧ Below W.heap.size W w' := fun W => by rw [← hD]; exact cw W
        have s1 : (9223372036854775807 < A.size + D.size) = False := eq_false (by omega)
        have cwH := Lib.hid cw2
        have hnxH := Lib.hid hnx
        have hBH := Lib.hid hB
        rw [hA]
        clear cw cw2 hnx hB hA hD hsucc hxe hr
        obtain ⟨x1, x2, x3⟩ := x
        dsimp only at r0 r1 r2
        dsimp only [stpV] at cwH
        go_wp2_with fail
        refine (cwH.out _).mono ?_
        rintro e w2 ⟨rfl, hb2⟩
        have hrel : fmR p w1 (.string (A ++ D)) (.int .i64 ((k : Int) + 1)) w2 := ⟨k + 1, by go_num, by omega, by rw [hnxH.out], bcall hBH.out hb2⟩
        have hrelH := Lib.hid hrel
        clear hrel hb2
        go_wp2_with fail
        all_goals go_roundw
        all_goals first | exact hrelH.out | (simp [intOf]; done) | (simp [intOf]; omega)
      · obtain rfl : k = p.length := by omega
        have hBH := Lib.hid hB
        clear hB
        rw [← hrH.out]
        go_wp2_with fail
        all_goals go_ret
        all_goals exact ⟨rfl, bcall hb1H.out hBH.out⟩
end Go.Proofs.YtggfhjfebnhbjaaGreatDoor

/- Walks: kernel.line, Format. -/
namespace Go.Proofs.YtggfhjfebnhbjaaGreatDoor
open Go Go.RowKit

theorem LN.call {p0 p1 : Addr} {u0 u1 : Value} {W w1 w2 : World} (h : w1.cell? p0 = some u0 ∧ w1.cell? p1 = some u1 ∧ Below W.heap.size W w1) (hb : Below w1.heap.size w1 w2) :
    w2.cell? p0 = some u0 ∧ w2.cell? p1 = some u1 ∧ Below W.heap.size W w2 := ⟨cell_later hb h.1, cell_later hb h.2.1, h.2.2.trans (hb.mono h.2.2.size)⟩
set_option maxRecDepth 100000 in
set_option maxHeartbeats 2000000 in
theorem line_any {i : Nat} (x : Stp) (hx : rightB 60 i x = true) (hi : i ≤ 60) (w : World) (htab : TabW w) :
    Calls Tryz.prog 58 #[stpV x] w fun e w' => e = .returned (.string ⟨(lineT x).toArray⟩) ∧ Below w.heap.size w w' := by
  rcases right_form hx hi with ⟨a, ha, rfl⟩ | ⟨a, b, ha, hb, rfl⟩
  · have hl := lineT_cite (a := a)
    have hs := dgB_size ha
    obtain ⟨W0, hW0⟩ : ∃ W, w.alloc (.cells #[.int .i64 1, .int .i64 (a : Int), .int .i64 0] 74) = W := ⟨_, rfl⟩
    have hb0 : Below w.heap.size w W0 := by rw [← hW0]; exact below1 w _
    have ct := Itoa_any (a : Int) (by omega) (by omega) W0 (TabW.below htab hb0)
    obtain ⟨D, hD⟩ : ∃ D, dgB a = D := ⟨_, rfl⟩
    have ct2 : Calls Tryz.prog 98 #[.int .i64 (a : Int)] W0 fun e w' => e = .returned (.string D) ∧ Below W0.heap.size W0 w' := by rw [← hD]; exact ct
    rw [hD] at hl hs
    have q0 : W0.cell? ⟨w.heap.size, 0, none⟩ = some (.int .i64 1) := by rw [← hW0]; clear hW0; go_simp
    have q1 : W0.cell? ⟨w.heap.size, 1, none⟩ = some (.int .i64 (a : Int)) := by rw [← hW0]; clear hW0; go_simp
    have s1 : (9223372036854775807 < 5 + D.size) = False := eq_false (by omega)
    have s2 : (9223372036854775807 < 5 + D.size + 1) = False := eq_false (by omega)
    have ctH := Lib.hid ct2
    have hlH := Lib.hid hl
    have hb0H := Lib.hid hb0
    clear ct ct2 hl hD hb0 hx htab
    dsimp only [stpV]
    go_enter Tryz.func58, Tryz.ntmps58
    go_wp2_with fail
    try rw [hW0]
    go_wp2_with fail
    refine ctH.out.mono ?_
    rintro e w1 ⟨rfl, hb1⟩
    go_wp2_with fail
    go_ret
    exact ⟨by rw [← hlH.out]; rfl, bcall hb0H.out hb1⟩
  · have hl := lineT_det (a := a) (b := b)
    have hs := dgB_size ha
    have ht := dgB_size hb
    obtain ⟨W0, hW0⟩ : ∃ W, w.alloc (.cells #[.int .i64 2, .int .i64 (a : Int), .int .i64 (b : Int)] 74) = W := ⟨_, rfl⟩
    have hb0 : Below w.heap.size w W0 := by rw [← hW0]; exact below1 w _
    have ca := fun W (hb : Below W0.heap.size W0 W) => Itoa_any (a : Int) (by omega) (by omega) W (TabW.below htab (bcall hb0 hb))
    have cb := fun W (hb : Below W0.heap.size W0 W) => Itoa_any (b : Int) (by omega) (by omega) W (TabW.below htab (bcall hb0 hb))
    obtain ⟨D, hD⟩ : ∃ D, dgB a = D := ⟨_, rfl⟩
    obtain ⟨F, hF⟩ : ∃ F, dgB b = F := ⟨_, rfl⟩
    have ca2 : ∀ W, Below W0.heap.size W0 W → Calls Tryz.prog 98 #[.int .i64 (a : Int)] W fun e w' => e = .returned (.string D) ∧ Below W.heap.size W w' := fun W hb => by rw [← hD]; exact ca W hb
    have cb2 : ∀ W, Below W0.heap.size W0 W → Calls Tryz.prog 98 #[.int .i64 (b : Int)] W fun e w' => e = .returned (.string F) ∧ Below W.heap.size W w' := fun W hb => by rw [← hF]; exact cb W hb
    rw [hD, hF] at hl
    rw [hD] at hs
    rw [hF] at ht
    have q0 : W0.cell? ⟨w.heap.size, 0, none⟩ = some (.int .i64 2) := by rw [← hW0]; clear hW0; go_simp
    have q1 : W0.cell? ⟨w.heap.size, 1, none⟩ = some (.int .i64 (a : Int)) := by rw [← hW0]; clear hW0; go_simp
    have q2 : W0.cell? ⟨w.heap.size, 2, none⟩ = some (.int .i64 (b : Int)) := by rw [← hW0]; clear hW0; go_simp
    have s1 : (9223372036854775807 < 7 + D.size) = False := eq_false (by omega)
    have s2 : (9223372036854775807 < 7 + D.size + 1) = False := eq_false (by omega)
    have s3 : (9223372036854775807 < 7 + D.size + 1 + F.size) = False := eq_false (by omega)
    have s4 : (9223372036854775807 < 7 + D.size + 1 + F.size + 1) = False := eq_false (by omega)
    have caH := Lib.hid ca2
    have cbH := Lib.hid cb2
    have hlH := Lib.hid hl
    have hb0H := Lib.hid hb0
    clear ca cb ca2 cb2 hl hD hF hb0 hx htab
    dsimp only [stpV]
    go_enter Tryz.func58, Tryz.ntmps58
    go_wp2_with fail
    try rw [hW0]
    go_wp2_with fail
    refine wp_region_held_drew (S := fun w' => w'.cell? ⟨w.heap.size, 1, none⟩ = some (.int .i64 (a : Int)) ∧ w'.cell? ⟨w.heap.size, 2, none⟩ = some (.int .i64 (b : Int)) ∧ Below W0.heap.size W0 w') (by kernel_rfl) ⟨q1, q2, (Below.refl _ _).drew⟩ (fun hS => ?_)
    refine region_take 0 (some 11) (v := ?_) rfl rfl (by kernel_rfl) (by kernel_rfl) (by kernel_rfl) (fun _ _ _ h => h) rfl ?_ hS ?_
    rotate_left
    · (intro w9 hS9; go_simp; try (with_reducible rfl))
    simp only [Act.put, List.setIfInBounds_toArray, List.set_cons_zero, List.set_cons_succ]
    refine region_take 1 (some 12) (v := ?_) rfl rfl (by kernel_rfl) (by kernel_rfl) (by kernel_rfl) (fun _ _ _ h => h) rfl ?_ hS ?_
    rotate_left
    · (intro w9 hS9; go_simp; try (with_reducible rfl))
    simp only [Act.put, List.setIfInBounds_toArray, List.set_cons_zero, List.set_cons_succ]
    refine region_take 5 (some 16) (v := ?_) rfl rfl (by kernel_rfl) (by kernel_rfl) (by kernel_rfl) (fun _ _ _ h => h) rfl ?_ hS ?_
    rotate_left
    · (intro w9 hS9; go_simp; try (with_reducible rfl))
    simp only [Act.put, List.setIfInBounds_toArray, List.set_cons_zero, List.set_cons_succ]
    refine region_take 6 (some 17) (v := ?_) rfl rfl (by kernel_rfl) (by kernel_rfl) (by kernel_rfl) (fun _ _ _ h => h) rfl ?_ hS ?_
    rotate_left
    · (intro w9 hS9; go_simp; try (with_reducible rfl))
    simp only [Act.put, List.setIfInBounds_toArray, List.set_cons_zero, List.set_cons_succ]
    refine region_call 2 rfl (by kernel_rfl) (fun K hK => ?_)
    go_simp
    refine (caH.out _ hS.2.2).mono ?_
    rintro e w8 ⟨rfl, hb8⟩
    refine hK.out _ _ (LN.call hS hb8) ?_
    clear hS hK
    intro hS
    refine region_take 3 (some 14) (v := ?_) rfl rfl (by kernel_rfl) (by kernel_rfl) (by kernel_rfl) (fun _ _ _ h => h) rfl ?_ hS ?_
    rotate_left
    · (intro w9 hS9; go_simp; try (with_reducible rfl))
    simp only [Act.put, List.setIfInBounds_toArray, List.set_cons_zero, List.set_cons_succ]
    refine region_take 4 (some 15) (v := ?_) rfl rfl (by kernel_rfl) (by kernel_rfl) (by kernel_rfl) (fun _ _ _ h => h) rfl ?_ hS ?_
    rotate_left
    · (intro w9 hS9; go_simp; try (with_reducible rfl))
    simp only [Act.put, List.setIfInBounds_toArray, List.set_cons_zero, List.set_cons_succ]
    refine region_call 7 rfl (by kernel_rfl) (fun K hK => ?_)
    go_simp
    refine (cbH.out _ hS.2.2).mono ?_
    rintro e w8 ⟨rfl, hb8⟩
    refine hK.out _ _ (LN.call hS hb8) ?_
    clear hS hK
    intro hS
    refine region_take 8 (some 19) (v := ?_) rfl rfl (by kernel_rfl) (by kernel_rfl) (by kernel_rfl) (fun _ _ _ h => h) rfl ?_ hS ?_
    rotate_left
    · (intro w9 hS9; go_simp; try (with_reducible rfl))
    simp only [Act.put, List.setIfInBounds_toArray, List.set_cons_zero, List.set_cons_succ]
    refine region_take 9 (some 20) (v := ?_) rfl rfl (by kernel_rfl) (by kernel_rfl) (by kernel_rfl) (fun _ _ _ h => h) rfl ?_ hS ?_
    rotate_left
    · (intro w9 hS9; go_simp; try (with_reducible rfl))
    simp only [Act.put, List.setIfInBounds_toArray, List.set_cons_zero, List.set_cons_succ]
    refine region_take 10 (some 2) (v := ?_) rfl rfl (by kernel_rfl) (by kernel_rfl) (by kernel_rfl) (fun _ _ _ h => h) rfl ?_ hS ?_
    rotate_left
    · (intro w9 hS9; go_simp; try (with_reducible rfl))
    simp only [Act.put, List.setIfInBounds_toArray, List.set_cons_zero, List.set_cons_succ]
    refine wpAnyH_done (by kernel_rfl) ?_ _
    have B8 := hS.2.2
    clear hS
    go_wp2_with fail
    go_ret
    exact ⟨by rw [← hlH.out]; rfl, bcall hb0H.out B8⟩
def fpR (p : List Stp) (w1 : World) (iV : Value) (wr : World) : Prop :=
  ∃ k : Nat, iV = .int .i64 k ∧ k ≤ p.length ∧ IsBld wr w1.heap.size w1.heap.size ((p.take k).flatMap lineT) ∧ Below w1.heap.size w1 wr
set_option maxRecDepth 100000 in
set_option maxHeartbeats 2000000 in
theorem Format_any {S : Nat → Prop} (a : Option Addr) (c : Nat) (p : List Stp) (w : World) (h : Steps S w a c p) (htab : TabW w) :
    Calls Tryz.prog 31 #[.slice a p.length c] w fun e w' => e = .returned (.string ⟨(formatE p).toArray⟩) ∧ Below w.heap.size w w' := by
  have v1 := kvalid_any 60 a c p w h (by omega) (by omega)
  cases hv : validP 60 p with
  | false =>
    rw [hv] at v1
    have v1H := Lib.hid v1
    have hrH := Lib.hid (show formatE p = [] by unfold formatE; rw [hv]; rfl)
    clear v1 h hv htab
    go_enter Tryz.func31, Tryz.ntmps31
    go_wp2_with fail
    refine v1H.out.mono ?_
    rintro e w1 ⟨rfl, hb1⟩
    go_wp2_with fail
    go_ret
    exact ⟨by rw [hrH.out]; rfl, hb1⟩
  | true =>
    rw [hv] at v1
    obtain ⟨ok, p1, p2⟩ := validP_parts hv
    have v1H := Lib.hid v1
    have hH := Lib.hid h
    have htabH := Lib.hid htab
    have okH := Lib.hid ok
    have hrH := Lib.hid (show formatE p = (p.take p.length).flatMap lineT by unfold formatE; rw [hv, if_pos rfl, List.take_length])
    have hfl := Lib.hid (fm_len ok p2)
    clear v1 h hv ok htab
    go_enter Tryz.func31, Tryz.ntmps31
    go_wp2_with fail
    refine v1H.out.mono ?_
    rintro e w1 ⟨rfl, hb1⟩
    have hb1H := Lib.hid hb1
    have hbld := Lib.hid (IsBld.new w1)
    clear hb1 v1H
    go_wp2_with fail
    go_loopw [5, 11] (fun _ iV wr => fpR p w1 iV wr) (fun _ iV _ => p.length - (intOf iV).toNat)
    case atStart => exact ⟨0, rfl, Nat.zero_le _, hbld.out, below1 _ _⟩
    case round =>
      obtain ⟨k, rfl, hk, hBl, hB⟩ := hrel
      by_cases hlt : k < p.length
      · obtain ⟨bp, off, hae, -, r0, r1, r2, -⟩ := Sl.stp ((hH.out.below hb1H.out).below hB) k hlt
        subst hae
        have hr := okS_get p 0 k hlt okH.out
        rw [Nat.zero_add] at hr
        have hsucc := fm_succ hlt
        have hlk := hfl.out k (by omega)
        have hln := lineT_size hr (by omega)
        obtain ⟨x, hxe⟩ : ∃ x, p[k] = x := ⟨_, rfl⟩
        rw [hxe] at r0 r1 r2 hr hsucc hln
        obtain ⟨x1, x2, x3⟩ := x
        dsimp only at r0 r1 r2
        obtain ⟨Wx, hWx⟩ : ∃ W, wr.alloc (.cells #[.int .i64 x1, .int .i64 x2, .int .i64 x3] 74) = W := ⟨_, rfl⟩
        have hbx : Below wr.heap.size wr Wx := by rw [← hWx]; exact below1 wr _
        have hX : Wx.heap[wr.heap.size]? = some (.cells #[.int .i64 x1, .int .i64 x2, .int .i64 x3] 74 (0, 0)) := by rw [← hWx]; exact heap_alloc_new wr _
        obtain ⟨q0, q1, q2⟩ := stp_cells' hX
        have cl := line_any (x1, x2, x3) hr (by omega) Wx (TabW.below htabH.out (bcall hb1H.out (bcall hB hbx)))
        obtain ⟨D, hD⟩ : ∃ D : ByteArray, (⟨(lineT (x1, x2, x3)).toArray⟩ : ByteArray) = D := ⟨_, rfl⟩
        have hDb : D.data.toList = lineT (x1, x2, x3) := by rw [← hD]
        have hDs : D.size ≤ 13 := by rw [← hD]; show (lineT (x1, x2, x3)).toArray.size ≤ 13; rw [List.size_toArray]; omega
        rw [hD] at cl
        have hBlx := hBl.below hbx
        have clH := Lib.hid cl
        have hBlH := Lib.hid hBlx
        have hBxH := Lib.hid (bcall hB hbx)
        obtain ⟨T, hT⟩ : ∃ T, (p.take k).flatMap lineT = T := ⟨_, rfl⟩
        rw [hT] at hBlH hlk hsucc
        dsimp only [stpV] at clH
        clear cl hBlx hBl hB hX hD hr hxe hT hbx
        go_wp2_with fail
        try rw [hWx]
        go_wp2_with fail
        refine clH.out.mono ?_
        rintro e w2 ⟨rfl, hb2⟩
        have hBl2 := hBlH.out.below hb2
        have hB2 := bcall hBxH.out hb2
        have hBl2H := Lib.hid hBl2
        have hB2H := Lib.hid hB2
        clear hb2 hBl2 hB2
        go_wp2_with fail
        refine (WriteString_any w1.heap.size w1.heap.size T D w2 hBl2H.out (by omega) hB2H.out.size).mono ?_
        rintro e w3 ⟨rfl, b1, b2, b3⟩
        have hrel : fpR p w1 (.int .i64 ((k : Int) + 1)) w3 := ⟨k + 1, by go_num, by omega, by rw [hsucc, ← hDb]; exact b1, hB2H.out.trans b2⟩
        have hrelH := Lib.hid hrel
        clear hrel b1 b2 b3
        go_wp2_with fail
        all_goals go_roundw
        all_goals first | exact hrelH.out | (simp [intOf]; done) | (simp [intOf]; omega)
      · obtain rfl : k = p.length := by omega
        have hBH := Lib.hid hB
        have hBlH := Lib.hid hBl
        clear hB hBl
        go_wp2_with fail
        refine (String_any w1.heap.size w1.heap.size _ wr hBlH.out hBH.out.size).mono ?_
        rintro e w3 ⟨rfl, hb3⟩
        go_wp2_with fail
        all_goals go_ret
        all_goals exact ⟨by rw [hrH.out, List.take_length]; rfl, bcall hb1H.out (hBH.out.trans hb3)⟩
end Go.Proofs.YtggfhjfebnhbjaaGreatDoor

/- strings.Cut and strconv.Atoi as kernel.Parse uses them. -/
namespace Go.Proofs.YtggfhjfebnhbjaaGreatDoor
open Go Go.RowKit Go.Shelf

def SentW (w : World) (g : Nat) : Prop := ∃ ev, w.cell? ⟨g, 0, none⟩ = some ev ∧ (ev = .nilIface ∨ ∃ te pe, ev = .iface te pe)
def LibW (w : World) : Prop := TabW w ∧ (∃ m, w.cell? ⟨0, 0, none⟩ = some (.int .i64 m)) ∧ SentW w 1 ∧ SentW w 2
theorem LibW.later {w w' : World} (h : LibW w) (hb : Below w.heap.size w w') : LibW w' := by
  obtain ⟨h1, ⟨m, h2⟩, ⟨e1, h3, h4⟩, ⟨e2, h5, h6⟩⟩ := h
  exact ⟨TabW.below h1 hb, ⟨m, cell_later hb h2⟩, ⟨e1, cell_later hb h3, h4⟩, ⟨e2, cell_later hb h5, h6⟩⟩
theorem AtoiP_any (s : ByteArray) (hs : s.size ≤ 65536) (w : World) (hL : LibW w) :
    Calls Tryz.prog 56 #[.string s] w fun e w' => ∃ ev, e = .returned (.tuple #[.int .i64 (atoiV s.data.toList), ev]) ∧ Below w.heap.size w w' := by
  obtain ⟨-, -, ⟨e1, h3, h4⟩, ⟨e2, h5, h6⟩⟩ := hL
  unfold atoiV
  cases h : Lib.atoiAll s.data.toList with
  | ok v =>
    refine (Any.strconv_Atoi_ok shC172 s (by omega) v h w).mono fun e w' hh => ⟨_, hh.1, ?_⟩
    rcases hh.2 with rfl | ⟨t, rfl⟩
    · exact .refl _ _
    · exact bytesWorld_low w _ t
  | range =>
    refine (Any.strconv_Atoi_range shC172 s (by omega) h e2 w h5 h6).mono fun e w' hh => ?_
    obtain ⟨N, rfl, -, -, hb⟩ := hh
    exact ⟨_, rfl, hb⟩
  | _ =>
    refine (Any.strconv_Atoi_syntax shC172 s (by omega) h e1 w h3 h4).mono fun e w' hh => ?_
    obtain ⟨N, rfl, -, -, hb⟩ := hh
    exact ⟨_, rfl, hb⟩
theorem cut_split (m : UInt8) : ∀ l : List UInt8, m ∉ l ∨ ∃ a b, m ∉ a ∧ l = a ++ m :: b
  | [] => .inl (by simp)
  | c :: r => by
    by_cases e : c = m
    · exact .inr ⟨[], r, by simp, by rw [e]; rfl⟩
    · rcases cut_split m r with h | ⟨a, b, h, rfl⟩
      · exact .inl (by rw [List.mem_cons, not_or]; exact ⟨fun h' => e h'.symm, h⟩)
      · exact .inr ⟨c :: a, b, by rw [List.mem_cons, not_or]; exact ⟨fun h' => e h'.symm, h⟩, rfl⟩
/-- what Cut gives, in words -/
def CutB (m : UInt8) (l a b : List UInt8) (f : Bool) : Prop := Lib.cut l [m] = (a, b, f) ∧ (f = true → wordsB m l = a :: wordsB m b ∧ l.length = a.length + 1 + b.length) ∧ (f = false → wordsB m l = [l] ∧ a = l ∧ b = [])
theorem cutB (m : UInt8) (l : List UInt8) : ∃ a b f, CutB m l a b f := by
  rcases cut_split m l with h | ⟨a, b, h, rfl⟩
  · exact ⟨l, [], false, cut_no h, (fun e => by cases e), fun _ => ⟨wordsB_no h, rfl, rfl⟩⟩
  · exact ⟨a, b, true, cut_at h, (fun _ => ⟨wordsB_at h, by simp; omega⟩), fun e => by cases e⟩
theorem Cut_any (s : ByteArray) (m : UInt8) (hs : s.size ≤ 65536) (w : World) (hL : LibW w) :
    ∃ a b f, CutB m s.data.toList a.data.toList b.data.toList f ∧ a.size ≤ 65536 ∧ b.size ≤ 65536 ∧ Calls Tryz.prog 55 #[.string s, .string ⟨#[m]⟩] w fun e w' => e = .returned (.tuple #[.string a, .string b, .bool f]) ∧ Below w.heap.size w w' := by
  obtain ⟨-, ⟨k, hm⟩, -⟩ := hL
  obtain ⟨a, b, f, h⟩ := cutB m s.data.toList
  have hl : a.length ≤ 65536 ∧ b.length ≤ 65536 := by
    have hs2 : s.data.toList.length ≤ 65536 := by rw [show s.data.toList.length = s.size from Array.length_toList]; exact hs
    cases f with
    | true => have := (h.2.1 rfl).2; omega
    | false => obtain ⟨-, rfl, rfl⟩ := h.2.2 rfl; exact ⟨hs2, by simp⟩
  refine ⟨⟨a.toArray⟩, ⟨b.toArray⟩, f, by simpa using h, by simpa [ByteArray.size] using hl.1, by simpa [ByteArray.size] using hl.2, ?_⟩
  have c := Any.strings_Cut { shM145 with } s ⟨#[m]⟩ k w (by omega) hm
  rw [show Lib.cut s.data.toList (⟨#[m]⟩ : ByteArray).data.toList = (a, b, f) from h.1] at c
  refine c.mono fun e w' hh => ?_
  obtain ⟨rfl, n, rfl⟩ := hh
  exact ⟨rfl, below_drewN (.refl _ _) n⟩
end Go.Proofs.YtggfhjfebnhbjaaGreatDoor

/- Walks: kernel.Parse. -/
namespace Go.Proofs.YtggfhjfebnhbjaaGreatDoor
open Go Go.RowKit

theorem kp_cells {W : World} {b : Nat} {x1 x2 x3 : Int} (h : W.heap[b]? = some (.cells #[.int .i64 x1, .int .i64 x2, .int .i64 x3] 74 (0, 0))) : W.cell? ⟨b, 0, none⟩ = some (.int .i64 x1) ∧ W.cell? ⟨b, 1, none⟩ = some (.int .i64 x2) ∧ W.cell? ⟨b, 2, none⟩ = some (.int .i64 x3) := by simp [World.cell?, h]
theorem kp_frozen {W : World} {b : Nat} {x1 x2 x3 : Int} (h : W.heap[b]? = some (.cells #[.int .i64 x1, .int .i64 x2, .int .i64 x3] 74 (0, 0))) : W.frozen? ⟨b, 0, none⟩ = false ∧ W.frozen? ⟨b, 1, none⟩ = false ∧ W.frozen? ⟨b, 2, none⟩ = false := ⟨Lib.frozen_of_heap h 0, Lib.frozen_of_heap h 1, Lib.frozen_of_heap h 2⟩
theorem kp_set0 {W : World} {b : Nat} {x1 x2 x3 : Int} (v : Int) (h : W.heap[b]? = some (.cells #[.int .i64 x1, .int .i64 x2, .int .i64 x3] 74 (0, 0))) : (W.setCell ⟨b, 0, none⟩ (.int .i64 v)).heap[b]? = some (.cells #[.int .i64 v, .int .i64 x2, .int .i64 x3] 74 (0, 0)) := by
  unfold World.setCell
  simp only [Array.getElem?_modify, if_true, h, Option.map_some]
  rfl
theorem kp_set1 {W : World} {b : Nat} {x1 x2 x3 : Int} (v : Int) (h : W.heap[b]? = some (.cells #[.int .i64 x1, .int .i64 x2, .int .i64 x3] 74 (0, 0))) : (W.setCell ⟨b, 1, none⟩ (.int .i64 v)).heap[b]? = some (.cells #[.int .i64 x1, .int .i64 v, .int .i64 x3] 74 (0, 0)) := by
  unfold World.setCell
  simp only [Array.getElem?_modify, if_true, h, Option.map_some]
  rfl
theorem kp_set2 {W : World} {b : Nat} {x1 x2 x3 : Int} (v : Int) (h : W.heap[b]? = some (.cells #[.int .i64 x1, .int .i64 x2, .int .i64 x3] 74 (0, 0))) : (W.setCell ⟨b, 2, none⟩ (.int .i64 v)).heap[b]? = some (.cells #[.int .i64 x1, .int .i64 x2, .int .i64 v] 74 (0, 0)) := by
  unfold World.setCell
  simp only [Array.getElem?_modify, if_true, h, Option.map_some]
  rfl
theorem ba_ext {x y : ByteArray} (h : x.data.toList = y.data.toList) : x = y := by
  rw [ba_of h]
theorem ba_app (x : ByteArray) (a : Array UInt8) : (x ++ (⟨a⟩ : ByteArray)).data.toList = x.data.toList ++ a.toList := by simp [ByteArray.data_append]
theorem kp_later {W W' : World} {b : Nat} {o : Obj} (hb : Below W.heap.size W W') (h : W.heap[b]? = some o) : W'.heap[b]? = some o := by
  rw [hb.block b (Array.getElem?_eq_some_iff.1 h).1]; exact h
theorem progX_det {l nm re fs sc : List UInt8} {f1 mo : Bool} (h1 : Lib.cut l [32] = (nm, re, f1)) (h2 : Lib.cut re [32] = (fs, sc, mo)) (hd : nm = detW) (hm : mo = true) : progX l = (2, atoiV fs, atoiV sc) := by
  unfold progX cut32; rw [h1]; simp only; rw [h2, if_pos ⟨hd, hm⟩]
theorem progX_cite {l nm re fs sc : List UInt8} {f1 mo : Bool} (h1 : Lib.cut l [32] = (nm, re, f1)) (h2 : Lib.cut re [32] = (fs, sc, mo)) (hd : ¬ (nm = detW ∧ mo = true)) : progX l = (1, atoiV fs, 0) := by
  unfold progX cut32; rw [h1]; simp only; rw [h2, if_neg hd]
def kpR (t : ByteArray) (w : World) (sV aV iV : Value) (wr : World) : Prop :=
  ∃ (s : ByteArray) (i : Nat) (acc : List Stp), sV = .string s ∧ iV = .int .i64 i ∧ acc.length = i ∧ i ≤ 60 ∧ s.size ≤ 65536 ∧ parseL (wordsB 10 s.data.toList) i acc = parseL (wordsB 10 t.data.toList) 0 [] ∧ OwnSt wr w.heap.size aV acc ∧ Below w.heap.size w wr
set_option maxRecDepth 100000 in
set_option maxHeartbeats 16000000 in
theorem Parse_any (t : ByteArray) (w : World) (hL : LibW w) : Calls Tryz.prog 28 #[.string t] w (retP (parseE t.data.toList) w) := by
  by_cases hs : t.size ≤ 65536
  case neg =>
    have g1 : (65536 < (t.size : Int)) = True := eq_true (by omega)
    have hrH := Lib.hid (show parseE t.data.toList = ([], 0, 3) by unfold parseE; rw [if_neg (by rw [ba_len]; exact hs)])
    clear hL
    go_enter Tryz.func28, Tryz.ntmps28
    go_wp2_with fail
    all_goals go_ret3
    all_goals rw [hrH.out]
    all_goals exact ⟨_, rfl, .nil _ _ _ _ _, .refl _ _⟩
  have g1 : (65536 < (t.size : Int)) = False := eq_false (by omega)
  have hrH := Lib.hid (show parseE t.data.toList = parseL (wordsB 10 t.data.toList) 0 [] by unfold parseE; rw [if_pos (by rw [ba_len]; exact hs)])
  have hLH := Lib.hid hL
  clear hL
  go_enter Tryz.func28, Tryz.ntmps28
  go_wp2_with fail
  go_loopw [0, 2, 5, 6, 7, 8, 9, 10, 11, 12, 13, 14, 15] (fun sV aV iV _ _ _ _ _ _ _ _ _ _ wr => kpR t w sV aV iV wr) (fun _ _ iV _ _ _ _ _ _ _ _ _ _ _ => 61 - (intOf iV).toNat)
  case atStart => exact ⟨t, 0, [], rfl, rfl, rfl, by omega, hs, rfl, .nil _ _ _ _ _, .refl _ _⟩
  case round =>
    obtain ⟨s, i, acc, rfl, rfl, hal, hi60, hss, hp, hO, hB⟩ := hrel
    have hpi := Lib.hid hp
    have hOH := Lib.hid hO
    have hBH := Lib.hid hB
    have halH := Lib.hid hal
    have hacc : i ≠ 0 → acc ≠ [] := fun h e => h (by rw [← hal, e]; rfl)
    obtain ⟨aP, cP, hv, -⟩ := OwnSt.steps hO
    by_cases hex : i ≠ 0 ∧ s.data.toList = []
    · have hl1 : s = ⟨#[]⟩ := ba_of (by rw [hex.2])
      have g0 : ((i : Int) == 0) = false := by rw [beq_eq_false_iff_ne]; omega
      have hfinH := Lib.hid (show parseL (wordsB 10 t.data.toList) 0 [] = (acc, 0, 0) by rw [← hp, hex.2]; exact if_pos ⟨rfl, hacc hex.1⟩)
      clear hp hO hB hal hacc hex
      subst hl1
      clear hv
      go_wp2_with fail
      all_goals go_ret3
      all_goals rw [hrH.out, hfinH.out]
      all_goals exact ⟨_, rfl, hOH.out, hBH.out⟩
    have hLr := hLH.out.later hB
    have hLrH := Lib.hid hLr
    obtain ⟨l1, rs, fd, hC, hl1s, hrss, cc⟩ := Cut_any s 10 hss wr hLr
    have ccH := Lib.hid cc
    have hCH := Lib.hid hC
    have hnfH : RowKit.Hid (fd = false → parseL (wordsB 10 t.data.toList) 0 [] = ([], i, 2)) := Lib.hid (fun hf => by
      rw [← hp, (hC.2.2 hf).1, parseL, if_neg]
      rintro ⟨h1, h2⟩
      exact hex ⟨fun h => h2 (List.length_eq_zero_iff.1 (hal.trans h)), h1⟩)
    clear hp hO hB hLr cc hC hv hacc hal
    by_cases hi0 : i = 0
    · have g0 : ((i : Int) == 0) = true := by rw [hi0]; rfl
      clear hex hi0
      go_wp2_with fail
      refine ccH.out.mono ?_
      rintro e w2 ⟨rfl, hb2⟩
      obtain ⟨W3, hW3⟩ : ∃ W, w2.alloc (.cells #[.int .i64 1, .int .i64 0, .int .i64 0] 74) = W := ⟨_, rfl⟩
      have hX3 : W3.heap[w2.heap.size]? = some (.cells #[.int .i64 1, .int .i64 0, .int .i64 0] 74 (0, 0)) := by rw [← hW3]; exact Array.getElem?_push_size
      have hb3 : Below wr.heap.size wr W3 := by rw [← hW3]; exact bcall hb2 (below1 _ _)
      have hbl : wr.heap.size ≤ w2.heap.size := hb2.size
      obtain ⟨nm, re, f1, hC1, hnms, hres, c1⟩ := Cut_any l1 32 hl1s W3 (hLrH.out.later hb3)
      rw [← hW3] at c1
      have c1H := Lib.hid c1
      have hC1H := Lib.hid hC1.1
      have hX3H := Lib.hid hX3
      have hb3H := Lib.hid hb3
      have hW3H := Lib.hid hW3
      clear c1 hC1 hX3 hb3 hb2 ccH hW3
      simp only
      go_wp2_with fail
      refine c1H.out.mono ?_
      rw [hW3H.out]
      rintro e w3 ⟨rfl, hbw3⟩
      have hX4H := Lib.hid (kp_later hbw3 hX3H.out)
      have hb4 := bcall hb3H.out hbw3
      obtain ⟨fs, sc, mo, hC2, hfss, hscs, c2⟩ := Cut_any re 32 hres w3 (hLrH.out.later hb4)
      have c2H := Lib.hid c2
      have hC2H := Lib.hid hC2.1
      have hb4H := Lib.hid hb4
      clear c2 hC2 hb4 hbw3 hX3H hb3H c1H hW3H W3
      simp only
      go_wp2_with fail
      refine c2H.out.mono ?_
      rintro e w4 ⟨rfl, hbw4⟩
      have hX5 := kp_later hbw4 hX4H.out
      have hb5 := bcall hb4H.out hbw4
      clear hbw4 hX4H hb4H c2H
      simp only
      by_cases hd : nm.data.toList = detW ∧ mo = true
      · have hx := progX_det hC1H.out hC2H.out hd.1 hd.2
        have ge := ge_det hd.1
        obtain rfl := hd.2
        obtain ⟨fz1, fz2, fz3⟩ := kp_frozen hX5
        obtain ⟨yz1, yz2, yz3⟩ := kp_cells hX5
        obtain ⟨W6, hW6⟩ : ∃ W, w4.setCell ⟨w2.heap.size, 0, none⟩ (.int .i64 2) = W := ⟨_, rfl⟩
        have hX6 := kp_set0 2 hX5
        rw [hW6] at hX6
        have hb6 : Below wr.heap.size wr W6 := by rw [← hW6]; exact hb5.setCell (p := ⟨w2.heap.size, 0, none⟩) hbl _
        have ca := AtoiP_any sc hscs W6 (hLrH.out.later hb6)
        rw [← hW6] at ca
        have caH := Lib.hid ca
        have hX6H := Lib.hid hX6
        have hb6H := Lib.hid hb6
        have hxH := Lib.hid hx
        have hW6H := Lib.hid hW6
        clear ca hX6 hb6 hX5 hb5 hx hd hW6
        go_wp2_with fail
        refine caH.out.mono ?_
        rw [hW6H.out]
        rintro e w7 ⟨ev, rfl, hbw7⟩
        have hX7 := kp_later hbw7 hX6H.out
        have hb7 := bcall hb6H.out hbw7
        clear fz1 fz2 fz3 yz1 yz2 yz3
        obtain ⟨fz1, fz2, fz3⟩ := kp_frozen hX7
        obtain ⟨yz1, yz2, yz3⟩ := kp_cells hX7
        obtain ⟨nS, hnS⟩ : ∃ n, atoiV sc.data.toList = n := ⟨_, rfl⟩
        rw [hnS]
        rw [hnS] at hxH
        obtain ⟨W8, hW8⟩ : ∃ W, w7.setCell ⟨w2.heap.size, 2, none⟩ (.int .i64 nS) = W := ⟨_, rfl⟩
        have hX8 := kp_set2 nS hX7
        rw [hW8] at hX8
        have hb8 : Below wr.heap.size wr W8 := by rw [← hW8]; exact hb7.setCell (p := ⟨w2.heap.size, 2, none⟩) hbl _
        have cb := AtoiP_any fs hfss W8 (hLrH.out.later hb8)
        rw [← hW8] at cb
        have cbH := Lib.hid cb
        have hX8H := Lib.hid hX8
        have hb8H := Lib.hid hb8
        have hW8H := Lib.hid hW8
        clear cb hX8 hb8 hX7 hb7 hbw7 caH hX6H hb6H hW6H W6 hnS hW8
        simp only
        go_wp2_with fail
        refine cbH.out.mono ?_
        rw [hW8H.out]
        rintro e w9 ⟨ev2, rfl, hbw9⟩
        have hX9 := kp_later hbw9 hX8H.out
        have hb9 := bcall hb8H.out hbw9
        clear fz1 fz2 fz3 yz1 yz2 yz3
        obtain ⟨fz1, fz2, fz3⟩ := kp_frozen hX9
        obtain ⟨yz1, yz2, yz3⟩ := kp_cells hX9
        obtain ⟨nF, hnF⟩ : ∃ n, atoiV fs.data.toList = n := ⟨_, rfl⟩
        rw [hnF]
        rw [hnF] at hxH
        obtain ⟨WX, hWX⟩ : ∃ W, w9.setCell ⟨w2.heap.size, 1, none⟩ (.int .i64 nF) = W := ⟨_, rfl⟩
        have hXX := kp_set1 nF hX9
        rw [hWX] at hXX
        have hbX : Below wr.heap.size wr WX := by rw [← hWX]; exact hb9.setCell (p := ⟨w2.heap.size, 1, none⟩) hbl _
        have hXXH := Lib.hid hXX
        have hbXH := Lib.hid hbX
        have hWXH := Lib.hid hWX
        clear hXX hbX hX9 hb9 hbw9 cbH hX8H hb8H hW8H W8 hnF hWX
        simp only
        go_upto_region 14 with fail
        try rw [hWXH.out]
        clear fz1 fz2 fz3 yz1 yz2 yz3 hWXH
        clear hC1H hC2H
        cases fd with
        | false =>
          have hfinH := Lib.hid (hnfH.out rfl)
          clear hnfH hCH
          go_wp2_with fail
          all_goals go_ret3
          all_goals rw [hrH.out, hfinH.out]
          all_goals exact ⟨_, rfl, .nil _ _ _ _ _, bcall hBH.out hbXH.out⟩
        | true =>
          have hw := (hCH.out.2.1 rfl).1
          obtain ⟨v0, rest, hvr⟩ : ∃ v0 rest, wordsB 10 rs.data.toList = v0 :: rest := by
            cases hd : wordsB 10 rs.data.toList with
            | nil => exact (wordsB_ne _ _ hd).elim
            | cons a b => exact ⟨a, b, rfl⟩
          rw [hvr] at hw
          have hpp := hpi.out
          rw [hw, parseL] at hpp
          have hppH := Lib.hid hpp
          have hvrH := Lib.hid hvr
          clear hpp hw hvr hnfH hCH
          by_cases h60 : i = 60
          · have g60 : ((i : Int) == 60) = true := by simp [h60]
            have hfinH := Lib.hid (show parseL (wordsB 10 t.data.toList) 0 [] = ([], i, 2) by rw [← hppH.out, if_neg (by omega)])
            clear h60
            go_wp2_with fail
            all_goals go_ret3
            all_goals rw [hrH.out, hfinH.out]
            all_goals exact ⟨_, rfl, .nil _ _ _ _ _, bcall hBH.out hbXH.out⟩
          have g60 : ((i : Int) == 60) = false := by rw [beq_eq_false_iff_ne]; omega
          have cr := right_any 60 i (2, nF, nS) WX (by omega) (by omega) (by omega)
          obtain ⟨y0, y1, y2⟩ := kp_cells hXXH.out
          cases hbr : rightB 60 i (2, nF, nS) with
          | false =>
            rw [hbr] at cr
            have hfinH := Lib.hid (show parseL (wordsB 10 t.data.toList) 0 [] = ([], i, 2) by
              rw [← hppH.out, if_neg]
              rintro ⟨-, h2⟩
              have h3 := (line_both hi60).2 h2
              rw [hxH.out, hbr] at h3
              exact Bool.noConfusion h3.1)
            have crH := Lib.hid cr
            clear cr hbr h60
            dsimp only [stpV] at crH
            go_wp2_with fail
            refine crH.out.mono ?_
            rintro e w8 ⟨rfl, hb8⟩
            go_wp2_with fail
            all_goals go_ret3
            all_goals rw [hrH.out, hfinH.out]
            all_goals exact ⟨_, rfl, .nil _ _ _ _ _, bcall hBH.out (bcall hbXH.out hb8)⟩
          | true =>
            rw [hbr] at cr
            have hst : stpR (2, nF, nS) := right_R hbr (by omega)
            have hbrH := Lib.hid hbr
            have hstH := Lib.hid hst
            have crH := Lib.hid cr
            have hltH := Lib.hid (show i < 60 by omega)
            clear cr hbr hst h60
            dsimp only [stpV] at crH
            go_wp2_with fail
            refine crH.out.mono ?_
            rintro e w8 ⟨rfl, hb8⟩
            have y0 := cell_later hb8 y0
            have y1 := cell_later hb8 y1
            have y2 := cell_later hb8 y2
            have hbA := bcall hbXH.out hb8
            have cl := line_any (2, nF, nS) hbrH.out hi60 w8 (TabW.below hLrH.out.1 hbA)
            obtain ⟨bL, hbL⟩ : ∃ b, (⟨(lineT (2, nF, nS)).toArray⟩ : ByteArray) = b := ⟨_, rfl⟩
            rw [hbL] at cl
            have hbLd : bL.data.toList = lineB (2, nF, nS) ++ [10] := by rw [← hbL]; rfl
            have clH := Lib.hid cl
            have hbAH := Lib.hid hbA
            have hbLdH := Lib.hid hbLd
            dsimp only [stpV] at clH
            have gadd : (9223372036854775807 < l1.size + 1) = False := eq_false (by omega)
            clear cl hbL hbLd hbA hb8
            go_wp2_with fail
            refine clH.out.mono ?_
            rintro e wA ⟨rfl, hbwA⟩
            have y0 := cell_later hbwA y0
            have y1 := cell_later hbwA y1
            have y2 := cell_later hbwA y2
            have hbB := bcall hbAH.out hbwA
            have hB8 := bcall hBH.out hbB
            have hO8 := OwnL.call hOH.out hbB
            by_cases heq : lineB (2, nF, nS) = l1.data.toList
            · have hq : (bL.toList == (l1 ++ ⟨#[10]⟩).toList) = true := str_eq (ba_ext (by rw [hbLdH.out, heq, ba_app]))
              have hrr : rightB 60 i (refX l1.data.toList) = true := (line_both hi60).1 (by rw [hxH.out]; exact ⟨hbrH.out, heq⟩)
              have hxx : refX l1.data.toList = (2, nF, nS) := (line_same hi60 hrr).symm.trans hxH.out
              have hnxH := Lib.hid (show parseL (v0 :: rest) (i + 1) (acc ++ [(2, nF, nS)]) = parseL (wordsB 10 t.data.toList) 0 [] by rw [← hppH.out, if_pos ⟨hltH.out, hrr⟩, hxx])
              obtain ⟨v', W', hrun, ho, hg, -⟩ := OwnL.push (P := Tryz.prog) (t := 25) (ty := 25) hO8 Tryz.underlying25 infoStp rfl (vs := [.int .i64 2, .int .i64 nF, .int .i64 nS]) (x := (2, nF, nS)) (stp_R hstH.out) (by have := halH.out; omega) (by have := halH.out; unfold big; omega) (by have := hB8.size; omega)
              have hrel : kpR t w (.string rs) v' (.int .i64 ((i : Int) + 1)) W' := ⟨rs, i + 1, acc ++ [(2, nF, nS)], rfl, by go_num, by simp [halH.out], by have := hltH.out; omega, hrss, by rw [hvrH.out]; exact hnxH.out, ho, hB8.grown hg (by have := hB8.size; omega) (fun k e => (OwnL.lt hO8 k e).1)⟩
              have hrelH := Lib.hid hrel
              clear hrel ho hg hB8 hO8 hbB hbwA heq hrr hxx
              go_wp2_with (at_builtin; refine wpList_append_run rfl _ _ _ rfl rfl rfl hrun ?_)
              all_goals go_roundw
              all_goals first | exact hrelH.out | (simp [intOf]; done) | (have := hltH.out; simp [intOf]; omega)
            · have hq : (bL.toList == (l1 ++ ⟨#[10]⟩).toList) = false := str_neq (fun e => heq (by
                have := hbLdH.out
                rw [e, ba_app] at this
                exact (List.append_cancel_right this).symm))
              have hfinH := Lib.hid (show parseL (wordsB 10 t.data.toList) 0 [] = ([], i, 2) by
                rw [← hppH.out, if_neg]
                rintro ⟨-, h2⟩
                have h3 := (line_both hi60).2 h2
                rw [hxH.out] at h3
                exact heq h3.2)
              clear heq hO8 hbB hbwA
              have hB8H := Lib.hid hB8
              clear hB8
              go_wp2_with fail
              all_goals go_ret3
              all_goals rw [hrH.out, hfinH.out]
              all_goals exact ⟨_, rfl, .nil _ _ _ _ _, hB8H.out⟩
      · have hx := progX_cite hC1H.out hC2H.out hd
        obtain ⟨fz1, fz2, fz3⟩ := kp_frozen hX5
        obtain ⟨yz1, yz2, yz3⟩ := kp_cells hX5
        have cb := AtoiP_any fs hfss w4 (hLrH.out.later hb5)
        have cbH := Lib.hid cb
        have hX5H := Lib.hid hX5
        have hb5H := Lib.hid hb5
        obtain ⟨nF, hnF⟩ : ∃ n, atoiV fs.data.toList = n := ⟨_, rfl⟩
        rw [hnF] at hx
        have hxH := Lib.hid hx
        have gcd : ((nm.toList == [100, 101, 116, 97, 99, 104]) && mo) = false := by
          by_cases hn : nm.data.toList = detW
          · rw [ge_det hn, Bool.true_and]; cases mo with
            | true => exact (hd ⟨hn, rfl⟩).elim
            | false => rfl
          · rw [gn_det hn, Bool.false_and]
        clear cb hX5 hb5 hx
        by_cases hn : nm.data.toList = detW
        · have ge := ge_det hn
          have hmo : mo = false := by cases mo with
            | true => exact (hd ⟨hn, rfl⟩).elim
            | false => rfl
          subst hmo
          clear hn hd gcd
          go_wp2_with fail
          refine cbH.out.mono ?_
          rintro e w9 ⟨ev2, rfl, hbw9⟩
          have hX9 := kp_later hbw9 hX5H.out
          have hb9 := bcall hb5H.out hbw9
          clear fz1 fz2 fz3 yz1 yz2 yz3
          obtain ⟨fz1, fz2, fz3⟩ := kp_frozen hX9
          obtain ⟨yz1, yz2, yz3⟩ := kp_cells hX9
          rw [hnF]
          obtain ⟨WX, hWX⟩ : ∃ W, w9.setCell ⟨w2.heap.size, 1, none⟩ (.int .i64 nF) = W := ⟨_, rfl⟩
          have hXX := kp_set1 nF hX9
          rw [hWX] at hXX
          have hbX : Below wr.heap.size wr WX := by rw [← hWX]; exact hb9.setCell (p := ⟨w2.heap.size, 1, none⟩) hbl _
          have hXXH := Lib.hid hXX
          have hbXH := Lib.hid hbX
          have hWXH := Lib.hid hWX
          clear hXX hbX hX9 hb9 hbw9 cbH hX5H hb5H hnF hWX
          simp only
          go_upto_region 14 with fail
          try rw [hWXH.out]
          clear fz1 fz2 fz3 yz1 yz2 yz3 hWXH
          clear hC1H hC2H
          cases fd with
          | false =>
            have hfinH := Lib.hid (hnfH.out rfl)
            clear hnfH hCH
            go_wp2_with fail
            all_goals go_ret3
            all_goals rw [hrH.out, hfinH.out]
            all_goals exact ⟨_, rfl, .nil _ _ _ _ _, bcall hBH.out hbXH.out⟩
          | true =>
            have hw := (hCH.out.2.1 rfl).1
            obtain ⟨v0, rest, hvr⟩ : ∃ v0 rest, wordsB 10 rs.data.toList = v0 :: rest := by
              cases hd : wordsB 10 rs.data.toList with
              | nil => exact (wordsB_ne _ _ hd).elim
              | cons a b => exact ⟨a, b, rfl⟩
            rw [hvr] at hw
            have hpp := hpi.out
            rw [hw, parseL] at hpp
            have hppH := Lib.hid hpp
            have hvrH := Lib.hid hvr
            clear hpp hw hvr hnfH hCH
            by_cases h60 : i = 60
            · have g60 : ((i : Int) == 60) = true := by simp [h60]
              have hfinH := Lib.hid (show parseL (wordsB 10 t.data.toList) 0 [] = ([], i, 2) by rw [← hppH.out, if_neg (by omega)])
              clear h60
              go_wp2_with fail
              all_goals go_ret3
              all_goals rw [hrH.out, hfinH.out]
              all_goals exact ⟨_, rfl, .nil _ _ _ _ _, bcall hBH.out hbXH.out⟩
            have g60 : ((i : Int) == 60) = false := by rw [beq_eq_false_iff_ne]; omega
            have cr := right_any 60 i (1, nF, 0) WX (by omega) (by omega) (by omega)
            obtain ⟨y0, y1, y2⟩ := kp_cells hXXH.out
            cases hbr : rightB 60 i (1, nF, 0) with
            | false =>
              rw [hbr] at cr
              have hfinH := Lib.hid (show parseL (wordsB 10 t.data.toList) 0 [] = ([], i, 2) by
                rw [← hppH.out, if_neg]
                rintro ⟨-, h2⟩
                have h3 := (line_both hi60).2 h2
                rw [hxH.out, hbr] at h3
                exact Bool.noConfusion h3.1)
              have crH := Lib.hid cr
              clear cr hbr h60
              dsimp only [stpV] at crH
              go_wp2_with fail
              refine crH.out.mono ?_
              rintro e w8 ⟨rfl, hb8⟩
              go_wp2_with fail
              all_goals go_ret3
              all_goals rw [hrH.out, hfinH.out]
              all_goals exact ⟨_, rfl, .nil _ _ _ _ _, bcall hBH.out (bcall hbXH.out hb8)⟩
            | true =>
              rw [hbr] at cr
              have hst : stpR (1, nF, 0) := right_R hbr (by omega)
              have hbrH := Lib.hid hbr
              have hstH := Lib.hid hst
              have crH := Lib.hid cr
              have hltH := Lib.hid (show i < 60 by omega)
              clear cr hbr hst h60
              dsimp only [stpV] at crH
              go_wp2_with fail
              refine crH.out.mono ?_
              rintro e w8 ⟨rfl, hb8⟩
              have y0 := cell_later hb8 y0
              have y1 := cell_later hb8 y1
              have y2 := cell_later hb8 y2
              have hbA := bcall hbXH.out hb8
              have cl := line_any (1, nF, 0) hbrH.out hi60 w8 (TabW.below hLrH.out.1 hbA)
              obtain ⟨bL, hbL⟩ : ∃ b, (⟨(lineT (1, nF, 0)).toArray⟩ : ByteArray) = b := ⟨_, rfl⟩
              rw [hbL] at cl
              have hbLd : bL.data.toList = lineB (1, nF, 0) ++ [10] := by rw [← hbL]; rfl
              have clH := Lib.hid cl
              have hbAH := Lib.hid hbA
              have hbLdH := Lib.hid hbLd
              dsimp only [stpV] at clH
              have gadd : (9223372036854775807 < l1.size + 1) = False := eq_false (by omega)
              clear cl hbL hbLd hbA hb8
              go_wp2_with fail
              refine clH.out.mono ?_
              rintro e wA ⟨rfl, hbwA⟩
              have y0 := cell_later hbwA y0
              have y1 := cell_later hbwA y1
              have y2 := cell_later hbwA y2
              have hbB := bcall hbAH.out hbwA
              have hB8 := bcall hBH.out hbB
              have hO8 := OwnL.call hOH.out hbB
              by_cases heq : lineB (1, nF, 0) = l1.data.toList
              · have hq : (bL.toList == (l1 ++ ⟨#[10]⟩).toList) = true := str_eq (ba_ext (by rw [hbLdH.out, heq, ba_app]))
                have hrr : rightB 60 i (refX l1.data.toList) = true := (line_both hi60).1 (by rw [hxH.out]; exact ⟨hbrH.out, heq⟩)
                have hxx : refX l1.data.toList = (1, nF, 0) := (line_same hi60 hrr).symm.trans hxH.out
                have hnxH := Lib.hid (show parseL (v0 :: rest) (i + 1) (acc ++ [(1, nF, 0)]) = parseL (wordsB 10 t.data.toList) 0 [] by rw [← hppH.out, if_pos ⟨hltH.out, hrr⟩, hxx])
                obtain ⟨v', W', hrun, ho, hg, -⟩ := OwnL.push (P := Tryz.prog) (t := 25) (ty := 25) hO8 Tryz.underlying25 infoStp rfl (vs := [.int .i64 1, .int .i64 nF, .int .i64 0]) (x := (1, nF, 0)) (stp_R hstH.out) (by have := halH.out; omega) (by have := halH.out; unfold big; omega) (by have := hB8.size; omega)
                have hrel : kpR t w (.string rs) v' (.int .i64 ((i : Int) + 1)) W' := ⟨rs, i + 1, acc ++ [(1, nF, 0)], rfl, by go_num, by simp [halH.out], by have := hltH.out; omega, hrss, by rw [hvrH.out]; exact hnxH.out, ho, hB8.grown hg (by have := hB8.size; omega) (fun k e => (OwnL.lt hO8 k e).1)⟩
                have hrelH := Lib.hid hrel
                clear hrel ho hg hB8 hO8 hbB hbwA heq hrr hxx
                go_wp2_with (at_builtin; refine wpList_append_run rfl _ _ _ rfl rfl rfl hrun ?_)
                all_goals go_roundw
                all_goals first | exact hrelH.out | (simp [intOf]; done) | (have := hltH.out; simp [intOf]; omega)
              · have hq : (bL.toList == (l1 ++ ⟨#[10]⟩).toList) = false := str_neq (fun e => heq (by
                  have := hbLdH.out
                  rw [e, ba_app] at this
                  exact (List.append_cancel_right this).symm))
                have hfinH := Lib.hid (show parseL (wordsB 10 t.data.toList) 0 [] = ([], i, 2) by
                  rw [← hppH.out, if_neg]
                  rintro ⟨-, h2⟩
                  have h3 := (line_both hi60).2 h2
                  rw [hxH.out] at h3
                  exact heq h3.2)
                clear heq hO8 hbB hbwA
                have hB8H := Lib.hid hB8
                clear hB8
                go_wp2_with fail
                all_goals go_ret3
                all_goals rw [hrH.out, hfinH.out]
                all_goals exact ⟨_, rfl, .nil _ _ _ _ _, hB8H.out⟩
        · have ge := gn_det hn
          clear hn hd gcd
          go_wp2_with fail
          refine cbH.out.mono ?_
          rintro e w9 ⟨ev2, rfl, hbw9⟩
          have hX9 := kp_later hbw9 hX5H.out
          have hb9 := bcall hb5H.out hbw9
          clear fz1 fz2 fz3 yz1 yz2 yz3
          obtain ⟨fz1, fz2, fz3⟩ := kp_frozen hX9
          obtain ⟨yz1, yz2, yz3⟩ := kp_cells hX9
          rw [hnF]
          obtain ⟨WX, hWX⟩ : ∃ W, w9.setCell ⟨w2.heap.size, 1, none⟩ (.int .i64 nF) = W := ⟨_, rfl⟩
          have hXX := kp_set1 nF hX9
          rw [hWX] at hXX
          have hbX : Below wr.heap.size wr WX := by rw [← hWX]; exact hb9.setCell (p := ⟨w2.heap.size, 1, none⟩) hbl _
          have hXXH := Lib.hid hXX
          have hbXH := Lib.hid hbX
          have hWXH := Lib.hid hWX
          clear hXX hbX hX9 hb9 hbw9 cbH hX5H hb5H hnF hWX
          simp only
          go_upto_region 14 with fail
          try rw [hWXH.out]
          clear fz1 fz2 fz3 yz1 yz2 yz3 hWXH
          clear hC1H hC2H
          cases fd with
          | false =>
            have hfinH := Lib.hid (hnfH.out rfl)
            clear hnfH hCH
            go_wp2_with fail
            all_goals go_ret3
            all_goals rw [hrH.out, hfinH.out]
            all_goals exact ⟨_, rfl, .nil _ _ _ _ _, bcall hBH.out hbXH.out⟩
          | true =>
            have hw := (hCH.out.2.1 rfl).1
            obtain ⟨v0, rest, hvr⟩ : ∃ v0 rest, wordsB 10 rs.data.toList = v0 :: rest := by
              cases hd : wordsB 10 rs.data.toList with
              | nil => exact (wordsB_ne _ _ hd).elim
              | cons a b => exact ⟨a, b, rfl⟩
            rw [hvr] at hw
            have hpp := hpi.out
            rw [hw, parseL] at hpp
            have hppH := Lib.hid hpp
            have hvrH := Lib.hid hvr
            clear hpp hw hvr hnfH hCH
            by_cases h60 : i = 60
            · have g60 : ((i : Int) == 60) = true := by simp [h60]
              have hfinH := Lib.hid (show parseL (wordsB 10 t.data.toList) 0 [] = ([], i, 2) by rw [← hppH.out, if_neg (by omega)])
              clear h60
              go_wp2_with fail
              all_goals go_ret3
              all_goals rw [hrH.out, hfinH.out]
              all_goals exact ⟨_, rfl, .nil _ _ _ _ _, bcall hBH.out hbXH.out⟩
            have g60 : ((i : Int) == 60) = false := by rw [beq_eq_false_iff_ne]; omega
            have cr := right_any 60 i (1, nF, 0) WX (by omega) (by omega) (by omega)
            obtain ⟨y0, y1, y2⟩ := kp_cells hXXH.out
            cases hbr : rightB 60 i (1, nF, 0) with
            | false =>
              rw [hbr] at cr
              have hfinH := Lib.hid (show parseL (wordsB 10 t.data.toList) 0 [] = ([], i, 2) by
                rw [← hppH.out, if_neg]
                rintro ⟨-, h2⟩
                have h3 := (line_both hi60).2 h2
                rw [hxH.out, hbr] at h3
                exact Bool.noConfusion h3.1)
              have crH := Lib.hid cr
              clear cr hbr h60
              dsimp only [stpV] at crH
              go_wp2_with fail
              refine crH.out.mono ?_
              rintro e w8 ⟨rfl, hb8⟩
              go_wp2_with fail
              all_goals go_ret3
              all_goals rw [hrH.out, hfinH.out]
              all_goals exact ⟨_, rfl, .nil _ _ _ _ _, bcall hBH.out (bcall hbXH.out hb8)⟩
            | true =>
              rw [hbr] at cr
              have hst : stpR (1, nF, 0) := right_R hbr (by omega)
              have hbrH := Lib.hid hbr
              have hstH := Lib.hid hst
              have crH := Lib.hid cr
              have hltH := Lib.hid (show i < 60 by omega)
              clear cr hbr hst h60
              dsimp only [stpV] at crH
              go_wp2_with fail
              refine crH.out.mono ?_
              rintro e w8 ⟨rfl, hb8⟩
              have y0 := cell_later hb8 y0
              have y1 := cell_later hb8 y1
              have y2 := cell_later hb8 y2
              have hbA := bcall hbXH.out hb8
              have cl := line_any (1, nF, 0) hbrH.out hi60 w8 (TabW.below hLrH.out.1 hbA)
              obtain ⟨bL, hbL⟩ : ∃ b, (⟨(lineT (1, nF, 0)).toArray⟩ : ByteArray) = b := ⟨_, rfl⟩
              rw [hbL] at cl
              have hbLd : bL.data.toList = lineB (1, nF, 0) ++ [10] := by rw [← hbL]; rfl
              have clH := Lib.hid cl
              have hbAH := Lib.hid hbA
              have hbLdH := Lib.hid hbLd
              dsimp only [stpV] at clH
              have gadd : (9223372036854775807 < l1.size + 1) = False := eq_false (by omega)
              clear cl hbL hbLd hbA hb8
              go_wp2_with fail
              refine clH.out.mono ?_
              rintro e wA ⟨rfl, hbwA⟩
              have y0 := cell_later hbwA y0
              have y1 := cell_later hbwA y1
              have y2 := cell_later hbwA y2
              have hbB := bcall hbAH.out hbwA
              have hB8 := bcall hBH.out hbB
              have hO8 := OwnL.call hOH.out hbB
              by_cases heq : lineB (1, nF, 0) = l1.data.toList
              · have hq : (bL.toList == (l1 ++ ⟨#[10]⟩).toList) = true := str_eq (ba_ext (by rw [hbLdH.out, heq, ba_app]))
                have hrr : rightB 60 i (refX l1.data.toList) = true := (line_both hi60).1 (by rw [hxH.out]; exact ⟨hbrH.out, heq⟩)
                have hxx : refX l1.data.toList = (1, nF, 0) := (line_same hi60 hrr).symm.trans hxH.out
                have hnxH := Lib.hid (show parseL (v0 :: rest) (i + 1) (acc ++ [(1, nF, 0)]) = parseL (wordsB 10 t.data.toList) 0 [] by rw [← hppH.out, if_pos ⟨hltH.out, hrr⟩, hxx])
                obtain ⟨v', W', hrun, ho, hg, -⟩ := OwnL.push (P := Tryz.prog) (t := 25) (ty := 25) hO8 Tryz.underlying25 infoStp rfl (vs := [.int .i64 1, .int .i64 nF, .int .i64 0]) (x := (1, nF, 0)) (stp_R hstH.out) (by have := halH.out; omega) (by have := halH.out; unfold big; omega) (by have := hB8.size; omega)
                have hrel : kpR t w (.string rs) v' (.int .i64 ((i : Int) + 1)) W' := ⟨rs, i + 1, acc ++ [(1, nF, 0)], rfl, by go_num, by simp [halH.out], by have := hltH.out; omega, hrss, by rw [hvrH.out]; exact hnxH.out, ho, hB8.grown hg (by have := hB8.size; omega) (fun k e => (OwnL.lt hO8 k e).1)⟩
                have hrelH := Lib.hid hrel
                clear hrel ho hg hB8 hO8 hbB hbwA heq hrr hxx
                go_wp2_with (at_builtin; refine wpList_append_run rfl _ _ _ rfl rfl rfl hrun ?_)
                all_goals go_roundw
                all_goals first | exact hrelH.out | (simp [intOf]; done) | (have := hltH.out; simp [intOf]; omega)
              · have hq : (bL.toList == (l1 ++ ⟨#[10]⟩).toList) = false := str_neq (fun e => heq (by
                  have := hbLdH.out
                  rw [e, ba_app] at this
                  exact (List.append_cancel_right this).symm))
                have hfinH := Lib.hid (show parseL (wordsB 10 t.data.toList) 0 [] = ([], i, 2) by
                  rw [← hppH.out, if_neg]
                  rintro ⟨-, h2⟩
                  have h3 := (line_both hi60).2 h2
                  rw [hxH.out] at h3
                  exact heq h3.2)
                clear heq hO8 hbB hbwA
                have hB8H := Lib.hid hB8
                clear hB8
                go_wp2_with fail
                all_goals go_ret3
                all_goals rw [hrH.out, hfinH.out]
                all_goals exact ⟨_, rfl, .nil _ _ _ _ _, hB8H.out⟩
    · have g0 : ((i : Int) == 0) = false := by rw [beq_eq_false_iff_ne]; omega
      have gs : (s.toList == []) = false := gn_nil (fun e => hex ⟨hi0, e⟩)
      clear hex hi0
      go_wp2_with fail
      refine ccH.out.mono ?_
      rintro e w2 ⟨rfl, hb2⟩
      obtain ⟨W3, hW3⟩ : ∃ W, w2.alloc (.cells #[.int .i64 1, .int .i64 0, .int .i64 0] 74) = W := ⟨_, rfl⟩
      have hX3 : W3.heap[w2.heap.size]? = some (.cells #[.int .i64 1, .int .i64 0, .int .i64 0] 74 (0, 0)) := by rw [← hW3]; exact Array.getElem?_push_size
      have hb3 : Below wr.heap.size wr W3 := by rw [← hW3]; exact bcall hb2 (below1 _ _)
      have hbl : wr.heap.size ≤ w2.heap.size := hb2.size
      obtain ⟨nm, re, f1, hC1, hnms, hres, c1⟩ := Cut_any l1 32 hl1s W3 (hLrH.out.later hb3)
      rw [← hW3] at c1
      have c1H := Lib.hid c1
      have hC1H := Lib.hid hC1.1
      have hX3H := Lib.hid hX3
      have hb3H := Lib.hid hb3
      have hW3H := Lib.hid hW3
      clear c1 hC1 hX3 hb3 hb2 ccH hW3
      simp only
      go_wp2_with fail
      refine c1H.out.mono ?_
      rw [hW3H.out]
      rintro e w3 ⟨rfl, hbw3⟩
      have hX4H := Lib.hid (kp_later hbw3 hX3H.out)
      have hb4 := bcall hb3H.out hbw3
      obtain ⟨fs, sc, mo, hC2, hfss, hscs, c2⟩ := Cut_any re 32 hres w3 (hLrH.out.later hb4)
      have c2H := Lib.hid c2
      have hC2H := Lib.hid hC2.1
      have hb4H := Lib.hid hb4
      clear c2 hC2 hb4 hbw3 hX3H hb3H c1H hW3H W3
      simp only
      go_wp2_with fail
      refine c2H.out.mono ?_
      rintro e w4 ⟨rfl, hbw4⟩
      have hX5 := kp_later hbw4 hX4H.out
      have hb5 := bcall hb4H.out hbw4
      clear hbw4 hX4H hb4H c2H
      simp only
      by_cases hd : nm.data.toList = detW ∧ mo = true
      · have hx := progX_det hC1H.out hC2H.out hd.1 hd.2
        have ge := ge_det hd.1
        obtain rfl := hd.2
        obtain ⟨fz1, fz2, fz3⟩ := kp_frozen hX5
        obtain ⟨yz1, yz2, yz3⟩ := kp_cells hX5
        obtain ⟨W6, hW6⟩ : ∃ W, w4.setCell ⟨w2.heap.size, 0, none⟩ (.int .i64 2) = W := ⟨_, rfl⟩
        have hX6 := kp_set0 2 hX5
        rw [hW6] at hX6
        have hb6 : Below wr.heap.size wr W6 := by rw [← hW6]; exact hb5.setCell (p := ⟨w2.heap.size, 0, none⟩) hbl _
        have ca := AtoiP_any sc hscs W6 (hLrH.out.later hb6)
        rw [← hW6] at ca
        have caH := Lib.hid ca
        have hX6H := Lib.hid hX6
        have hb6H := Lib.hid hb6
        have hxH := Lib.hid hx
        have hW6H := Lib.hid hW6
        clear ca hX6 hb6 hX5 hb5 hx hd hW6
        go_wp2_with fail
        refine caH.out.mono ?_
        rw [hW6H.out]
        rintro e w7 ⟨ev, rfl, hbw7⟩
        have hX7 := kp_later hbw7 hX6H.out
        have hb7 := bcall hb6H.out hbw7
        clear fz1 fz2 fz3 yz1 yz2 yz3
        obtain ⟨fz1, fz2, fz3⟩ := kp_frozen hX7
        obtain ⟨yz1, yz2, yz3⟩ := kp_cells hX7
        obtain ⟨nS, hnS⟩ : ∃ n, atoiV sc.data.toList = n := ⟨_, rfl⟩
        rw [hnS]
        rw [hnS] at hxH
        obtain ⟨W8, hW8⟩ : ∃ W, w7.setCell ⟨w2.heap.size, 2, none⟩ (.int .i64 nS) = W := ⟨_, rfl⟩
        have hX8 := kp_set2 nS hX7
        rw [hW8] at hX8
        have hb8 : Below wr.heap.size wr W8 := by rw [← hW8]; exact hb7.setCell (p := ⟨w2.heap.size, 2, none⟩) hbl _
        have cb := AtoiP_any fs hfss W8 (hLrH.out.later hb8)
        rw [← hW8] at cb
        have cbH := Lib.hid cb
        have hX8H := Lib.hid hX8
        have hb8H := Lib.hid hb8
        have hW8H := Lib.hid hW8
        clear cb hX8 hb8 hX7 hb7 hbw7 caH hX6H hb6H hW6H W6 hnS hW8
        simp only
        go_wp2_with fail
        refine cbH.out.mono ?_
        rw [hW8H.out]
        rintro e w9 ⟨ev2, rfl, hbw9⟩
        have hX9 := kp_later hbw9 hX8H.out
        have hb9 := bcall hb8H.out hbw9
        clear fz1 fz2 fz3 yz1 yz2 yz3
        obtain ⟨fz1, fz2, fz3⟩ := kp_frozen hX9
        obtain ⟨yz1, yz2, yz3⟩ := kp_cells hX9
        obtain ⟨nF, hnF⟩ : ∃ n, atoiV fs.data.toList = n := ⟨_, rfl⟩
        rw [hnF]
        rw [hnF] at hxH
        obtain ⟨WX, hWX⟩ : ∃ W, w9.setCell ⟨w2.heap.size, 1, none⟩ (.int .i64 nF) = W := ⟨_, rfl⟩
        have hXX := kp_set1 nF hX9
        rw [hWX] at hXX
        have hbX : Below wr.heap.size wr WX := by rw [← hWX]; exact hb9.setCell (p := ⟨w2.heap.size, 1, none⟩) hbl _
        have hXXH := Lib.hid hXX
        have hbXH := Lib.hid hbX
        have hWXH := Lib.hid hWX
        clear hXX hbX hX9 hb9 hbw9 cbH hX8H hb8H hW8H W8 hnF hWX
        simp only
        go_upto_region 14 with fail
        try rw [hWXH.out]
        clear fz1 fz2 fz3 yz1 yz2 yz3 hWXH
        clear hC1H hC2H
        cases fd with
        | false =>
          have hfinH := Lib.hid (hnfH.out rfl)
          clear hnfH hCH
          go_wp2_with fail
          all_goals go_ret3
          all_goals rw [hrH.out, hfinH.out]
          all_goals exact ⟨_, rfl, .nil _ _ _ _ _, bcall hBH.out hbXH.out⟩
        | true =>
          have hw := (hCH.out.2.1 rfl).1
          obtain ⟨v0, rest, hvr⟩ : ∃ v0 rest, wordsB 10 rs.data.toList = v0 :: rest := by
            cases hd : wordsB 10 rs.data.toList with
            | nil => exact (wordsB_ne _ _ hd).elim
            | cons a b => exact ⟨a, b, rfl⟩
          rw [hvr] at hw
          have hpp := hpi.out
          rw [hw, parseL] at hpp
          have hppH := Lib.hid hpp
          have hvrH := Lib.hid hvr
          clear hpp hw hvr hnfH hCH
          by_cases h60 : i = 60
          · have g60 : ((i : Int) == 60) = true := by simp [h60]
            have hfinH := Lib.hid (show parseL (wordsB 10 t.data.toList) 0 [] = ([], i, 2) by rw [← hppH.out, if_neg (by omega)])
            clear h60
            go_wp2_with fail
            all_goals go_ret3
            all_goals rw [hrH.out, hfinH.out]
            all_goals exact ⟨_, rfl, .nil _ _ _ _ _, bcall hBH.out hbXH.out⟩
          have g60 : ((i : Int) == 60) = false := by rw [beq_eq_false_iff_ne]; omega
          have cr := right_any 60 i (2, nF, nS) WX (by omega) (by omega) (by omega)
          obtain ⟨y0, y1, y2⟩ := kp_cells hXXH.out
          cases hbr : rightB 60 i (2, nF, nS) with
          | false =>
            rw [hbr] at cr
            have hfinH := Lib.hid (show parseL (wordsB 10 t.data.toList) 0 [] = ([], i, 2) by
              rw [← hppH.out, if_neg]
              rintro ⟨-, h2⟩
              have h3 := (line_both hi60).2 h2
              rw [hxH.out, hbr] at h3
              exact Bool.noConfusion h3.1)
            have crH := Lib.hid cr
            clear cr hbr h60
            dsimp only [stpV] at crH
            go_wp2_with fail
            refine crH.out.mono ?_
            rintro e w8 ⟨rfl, hb8⟩
            go_wp2_with fail
            all_goals go_ret3
            all_goals rw [hrH.out, hfinH.out]
            all_goals exact ⟨_, rfl, .nil _ _ _ _ _, bcall hBH.out (bcall hbXH.out hb8)⟩
          | true =>
            rw [hbr] at cr
            have hst : stpR (2, nF, nS) := right_R hbr (by omega)
            have hbrH := Lib.hid hbr
            have hstH := Lib.hid hst
            have crH := Lib.hid cr
            have hltH := Lib.hid (show i < 60 by omega)
            clear cr hbr hst h60
            dsimp only [stpV] at crH
            go_wp2_with fail
            refine crH.out.mono ?_
            rintro e w8 ⟨rfl, hb8⟩
            have y0 := cell_later hb8 y0
            have y1 := cell_later hb8 y1
            have y2 := cell_later hb8 y2
            have hbA := bcall hbXH.out hb8
            have cl := line_any (2, nF, nS) hbrH.out hi60 w8 (TabW.below hLrH.out.1 hbA)
            obtain ⟨bL, hbL⟩ : ∃ b, (⟨(lineT (2, nF, nS)).toArray⟩ : ByteArray) = b := ⟨_, rfl⟩
            rw [hbL] at cl
            have hbLd : bL.data.toList = lineB (2, nF, nS) ++ [10] := by rw [← hbL]; rfl
            have clH := Lib.hid cl
            have hbAH := Lib.hid hbA
            have hbLdH := Lib.hid hbLd
            dsimp only [stpV] at clH
            have gadd : (9223372036854775807 < l1.size + 1) = False := eq_false (by omega)
            clear cl hbL hbLd hbA hb8
            go_wp2_with fail
            refine clH.out.mono ?_
            rintro e wA ⟨rfl, hbwA⟩
            have y0 := cell_later hbwA y0
            have y1 := cell_later hbwA y1
            have y2 := cell_later hbwA y2
            have hbB := bcall hbAH.out hbwA
            have hB8 := bcall hBH.out hbB
            have hO8 := OwnL.call hOH.out hbB
            by_cases heq : lineB (2, nF, nS) = l1.data.toList
            · have hq : (bL.toList == (l1 ++ ⟨#[10]⟩).toList) = true := str_eq (ba_ext (by rw [hbLdH.out, heq, ba_app]))
              have hrr : rightB 60 i (refX l1.data.toList) = true := (line_both hi60).1 (by rw [hxH.out]; exact ⟨hbrH.out, heq⟩)
              have hxx : refX l1.data.toList = (2, nF, nS) := (line_same hi60 hrr).symm.trans hxH.out
              have hnxH := Lib.hid (show parseL (v0 :: rest) (i + 1) (acc ++ [(2, nF, nS)]) = parseL (wordsB 10 t.data.toList) 0 [] by rw [← hppH.out, if_pos ⟨hltH.out, hrr⟩, hxx])
              obtain ⟨v', W', hrun, ho, hg, -⟩ := OwnL.push (P := Tryz.prog) (t := 25) (ty := 25) hO8 Tryz.underlying25 infoStp rfl (vs := [.int .i64 2, .int .i64 nF, .int .i64 nS]) (x := (2, nF, nS)) (stp_R hstH.out) (by have := halH.out; omega) (by have := halH.out; unfold big; omega) (by have := hB8.size; omega)
              have hrel : kpR t w (.string rs) v' (.int .i64 ((i : Int) + 1)) W' := ⟨rs, i + 1, acc ++ [(2, nF, nS)], rfl, by go_num, by simp [halH.out], by have := hltH.out; omega, hrss, by rw [hvrH.out]; exact hnxH.out, ho, hB8.grown hg (by have := hB8.size; omega) (fun k e => (OwnL.lt hO8 k e).1)⟩
              have hrelH := Lib.hid hrel
              clear hrel ho hg hB8 hO8 hbB hbwA heq hrr hxx
              go_wp2_with (at_builtin; refine wpList_append_run rfl _ _ _ rfl rfl rfl hrun ?_)
              all_goals go_roundw
              all_goals first | exact hrelH.out | (simp [intOf]; done) | (have := hltH.out; simp [intOf]; omega)
            · have hq : (bL.toList == (l1 ++ ⟨#[10]⟩).toList) = false := str_neq (fun e => heq (by
                have := hbLdH.out
                rw [e, ba_app] at this
                exact (List.append_cancel_right this).symm))
              have hfinH := Lib.hid (show parseL (wordsB 10 t.data.toList) 0 [] = ([], i, 2) by
                rw [← hppH.out, if_neg]
                rintro ⟨-, h2⟩
                have h3 := (line_both hi60).2 h2
                rw [hxH.out] at h3
                exact heq h3.2)
              clear heq hO8 hbB hbwA
              have hB8H := Lib.hid hB8
              clear hB8
              go_wp2_with fail
              all_goals go_ret3
              all_goals rw [hrH.out, hfinH.out]
              all_goals exact ⟨_, rfl, .nil _ _ _ _ _, hB8H.out⟩
      · have hx := progX_cite hC1H.out hC2H.out hd
        obtain ⟨fz1, fz2, fz3⟩ := kp_frozen hX5
        obtain ⟨yz1, yz2, yz3⟩ := kp_cells hX5
        have cb := AtoiP_any fs hfss w4 (hLrH.out.later hb5)
        have cbH := Lib.hid cb
        have hX5H := Lib.hid hX5
        have hb5H := Lib.hid hb5
        obtain ⟨nF, hnF⟩ : ∃ n, atoiV fs.data.toList = n := ⟨_, rfl⟩
        rw [hnF] at hx
        have hxH := Lib.hid hx
        have gcd : ((nm.toList == [100, 101, 116, 97, 99, 104]) && mo) = false := by
          by_cases hn : nm.data.toList = detW
          · rw [ge_det hn, Bool.true_and]; cases mo with
            | true => exact (hd ⟨hn, rfl⟩).elim
            | false => rfl
          · rw [gn_det hn, Bool.false_and]
        clear cb hX5 hb5 hx
        by_cases hn : nm.data.toList = detW
        · have ge := ge_det hn
          have hmo : mo = false := by cases mo with
            | true => exact (hd ⟨hn, rfl⟩).elim
            | false => rfl
          subst hmo
          clear hn hd gcd
          go_wp2_with fail
          refine cbH.out.mono ?_
          rintro e w9 ⟨ev2, rfl, hbw9⟩
          have hX9 := kp_later hbw9 hX5H.out
          have hb9 := bcall hb5H.out hbw9
          clear fz1 fz2 fz3 yz1 yz2 yz3
          obtain ⟨fz1, fz2, fz3⟩ := kp_frozen hX9
          obtain ⟨yz1, yz2, yz3⟩ := kp_cells hX9
          rw [hnF]
          obtain ⟨WX, hWX⟩ : ∃ W, w9.setCell ⟨w2.heap.size, 1, none⟩ (.int .i64 nF) = W := ⟨_, rfl⟩
          have hXX := kp_set1 nF hX9
          rw [hWX] at hXX
          have hbX : Below wr.heap.size wr WX := by rw [← hWX]; exact hb9.setCell (p := ⟨w2.heap.size, 1, none⟩) hbl _
          have hXXH := Lib.hid hXX
          have hbXH := Lib.hid hbX
          have hWXH := Lib.hid hWX
          clear hXX hbX hX9 hb9 hbw9 cbH hX5H hb5H hnF hWX
          simp only
          go_upto_region 14 with fail
          try rw [hWXH.out]
          clear fz1 fz2 fz3 yz1 yz2 yz3 hWXH
          clear hC1H hC2H
          cases fd with
          | false =>
            have hfinH := Lib.hid (hnfH.out rfl)
            clear hnfH hCH
            go_wp2_with fail
            all_goals go_ret3
            all_goals rw [hrH.out, hfinH.out]
            all_goals exact ⟨_, rfl, .nil _ _ _ _ _, bcall hBH.out hbXH.out⟩
          | true =>
            have hw := (hCH.out.2.1 rfl).1
            obtain ⟨v0, rest, hvr⟩ : ∃ v0 rest, wordsB 10 rs.data.toList = v0 :: rest := by
              cases hd : wordsB 10 rs.data.toList with
              | nil => exact (wordsB_ne _ _ hd).elim
              | cons a b => exact ⟨a, b, rfl⟩
            rw [hvr] at hw
            have hpp := hpi.out
            rw [hw, parseL] at hpp
            have hppH := Lib.hid hpp
            have hvrH := Lib.hid hvr
            clear hpp hw hvr hnfH hCH
            by_cases h60 : i = 60
            · have g60 : ((i : Int) == 60) = true := by simp [h60]
              have hfinH := Lib.hid (show parseL (wordsB 10 t.data.toList) 0 [] = ([], i, 2) by rw [← hppH.out, if_neg (by omega)])
              clear h60
              go_wp2_with fail
              all_goals go_ret3
              all_goals rw [hrH.out, hfinH.out]
              all_goals exact ⟨_, rfl, .nil _ _ _ _ _, bcall hBH.out hbXH.out⟩
            have g60 : ((i : Int) == 60) = false := by rw [beq_eq_false_iff_ne]; omega
            have cr := right_any 60 i (1, nF, 0) WX (by omega) (by omega) (by omega)
            obtain ⟨y0, y1, y2⟩ := kp_cells hXXH.out
            cases hbr : rightB 60 i (1, nF, 0) with
            | false =>
              rw [hbr] at cr
              have hfinH := Lib.hid (show parseL (wordsB 10 t.data.toList) 0 [] = ([], i, 2) by
                rw [← hppH.out, if_neg]
                rintro ⟨-, h2⟩
                have h3 := (line_both hi60).2 h2
                rw [hxH.out, hbr] at h3
                exact Bool.noConfusion h3.1)
              have crH := Lib.hid cr
              clear cr hbr h60
              dsimp only [stpV] at crH
              go_wp2_with fail
              refine crH.out.mono ?_
              rintro e w8 ⟨rfl, hb8⟩
              go_wp2_with fail
              all_goals go_ret3
              all_goals rw [hrH.out, hfinH.out]
              all_goals exact ⟨_, rfl, .nil _ _ _ _ _, bcall hBH.out (bcall hbXH.out hb8)⟩
            | true =>
              rw [hbr] at cr
              have hst : stpR (1, nF, 0) := right_R hbr (by omega)
              have hbrH := Lib.hid hbr
              have hstH := Lib.hid hst
              have crH := Lib.hid cr
              have hltH := Lib.hid (show i < 60 by omega)
              clear cr hbr hst h60
              dsimp only [stpV] at crH
              go_wp2_with fail
              refine crH.out.mono ?_
              rintro e w8 ⟨rfl, hb8⟩
              have y0 := cell_later hb8 y0
              have y1 := cell_later hb8 y1
              have y2 := cell_later hb8 y2
              have hbA := bcall hbXH.out hb8
              have cl := line_any (1, nF, 0) hbrH.out hi60 w8 (TabW.below hLrH.out.1 hbA)
              obtain ⟨bL, hbL⟩ : ∃ b, (⟨(lineT (1, nF, 0)).toArray⟩ : ByteArray) = b := ⟨_, rfl⟩
              rw [hbL] at cl
              have hbLd : bL.data.toList = lineB (1, nF, 0) ++ [10] := by rw [← hbL]; rfl
              have clH := Lib.hid cl
              have hbAH := Lib.hid hbA
              have hbLdH := Lib.hid hbLd
              dsimp only [stpV] at clH
              have gadd : (9223372036854775807 < l1.size + 1) = False := eq_false (by omega)
              clear cl hbL hbLd hbA hb8
              go_wp2_with fail
              refine clH.out.mono ?_
              rintro e wA ⟨rfl, hbwA⟩
              have y0 := cell_later hbwA y0
              have y1 := cell_later hbwA y1
              have y2 := cell_later hbwA y2
              have hbB := bcall hbAH.out hbwA
              have hB8 := bcall hBH.out hbB
              have hO8 := OwnL.call hOH.out hbB
              by_cases heq : lineB (1, nF, 0) = l1.data.toList
              · have hq : (bL.toList == (l1 ++ ⟨#[10]⟩).toList) = true := str_eq (ba_ext (by rw [hbLdH.out, heq, ba_app]))
                have hrr : rightB 60 i (refX l1.data.toList) = true := (line_both hi60).1 (by rw [hxH.out]; exact ⟨hbrH.out, heq⟩)
                have hxx : refX l1.data.toList = (1, nF, 0) := (line_same hi60 hrr).symm.trans hxH.out
                have hnxH := Lib.hid (show parseL (v0 :: rest) (i + 1) (acc ++ [(1, nF, 0)]) = parseL (wordsB 10 t.data.toList) 0 [] by rw [← hppH.out, if_pos ⟨hltH.out, hrr⟩, hxx])
                obtain ⟨v', W', hrun, ho, hg, -⟩ := OwnL.push (P := Tryz.prog) (t := 25) (ty := 25) hO8 Tryz.underlying25 infoStp rfl (vs := [.int .i64 1, .int .i64 nF, .int .i64 0]) (x := (1, nF, 0)) (stp_R hstH.out) (by have := halH.out; omega) (by have := halH.out; unfold big; omega) (by have := hB8.size; omega)
                have hrel : kpR t w (.string rs) v' (.int .i64 ((i : Int) + 1)) W' := ⟨rs, i + 1, acc ++ [(1, nF, 0)], rfl, by go_num, by simp [halH.out], by have := hltH.out; omega, hrss, by rw [hvrH.out]; exact hnxH.out, ho, hB8.grown hg (by have := hB8.size; omega) (fun k e => (OwnL.lt hO8 k e).1)⟩
                have hrelH := Lib.hid hrel
                clear hrel ho hg hB8 hO8 hbB hbwA heq hrr hxx
                go_wp2_with (at_builtin; refine wpList_append_run rfl _ _ _ rfl rfl rfl hrun ?_)
                all_goals go_roundw
                all_goals first | exact hrelH.out | (simp [intOf]; done) | (have := hltH.out; simp [intOf]; omega)
              · have hq : (bL.toList == (l1 ++ ⟨#[10]⟩).toList) = false := str_neq (fun e => heq (by
                  have := hbLdH.out
                  rw [e, ba_app] at this
                  exact (List.append_cancel_right this).symm))
                have hfinH := Lib.hid (show parseL (wordsB 10 t.data.toList) 0 [] = ([], i, 2) by
                  rw [← hppH.out, if_neg]
                  rintro ⟨-, h2⟩
                  have h3 := (line_both hi60).2 h2
                  rw [hxH.out] at h3
                  exact heq h3.2)
                clear heq hO8 hbB hbwA
                have hB8H := Lib.hid hB8
                clear hB8
                go_wp2_with fail
                all_goals go_ret3
                all_goals rw [hrH.out, hfinH.out]
                all_goals exact ⟨_, rfl, .nil _ _ _ _ _, hB8H.out⟩
        · have ge := gn_det hn
          clear hn hd gcd
          go_wp2_with fail
          refine cbH.out.mono ?_
          rintro e w9 ⟨ev2, rfl, hbw9⟩
          have hX9 := kp_later hbw9 hX5H.out
          have hb9 := bcall hb5H.out hbw9
          clear fz1 fz2 fz3 yz1 yz2 yz3
          obtain ⟨fz1, fz2, fz3⟩ := kp_frozen hX9
          obtain ⟨yz1, yz2, yz3⟩ := kp_cells hX9
          rw [hnF]
          obtain ⟨WX, hWX⟩ : ∃ W, w9.setCell ⟨w2.heap.size, 1, none⟩ (.int .i64 nF) = W := ⟨_, rfl⟩
          have hXX := kp_set1 nF hX9
          rw [hWX] at hXX
          have hbX : Below wr.heap.size wr WX := by rw [← hWX]; exact hb9.setCell (p := ⟨w2.heap.size, 1, none⟩) hbl _
          have hXXH := Lib.hid hXX
          have hbXH := Lib.hid hbX
          have hWXH := Lib.hid hWX
          clear hXX hbX hX9 hb9 hbw9 cbH hX5H hb5H hnF hWX
          simp only
          go_upto_region 14 with fail
          try rw [hWXH.out]
          clear fz1 fz2 fz3 yz1 yz2 yz3 hWXH
          clear hC1H hC2H
          cases fd with
          | false =>
            have hfinH := Lib.hid (hnfH.out rfl)
            clear hnfH hCH
            go_wp2_with fail
            all_goals go_ret3
            all_goals rw [hrH.out, hfinH.out]
            all_goals exact ⟨_, rfl, .nil _ _ _ _ _, bcall hBH.out hbXH.out⟩
          | true =>
            have hw := (hCH.out.2.1 rfl).1
            obtain ⟨v0, rest, hvr⟩ : ∃ v0 rest, wordsB 10 rs.data.toList = v0 :: rest := by
              cases hd : wordsB 10 rs.data.toList with
              | nil => exact (wordsB_ne _ _ hd).elim
              | cons a b => exact ⟨a, b, rfl⟩
            rw [hvr] at hw
            have hpp := hpi.out
            rw [hw, parseL] at hpp
            have hppH := Lib.hid hpp
            have hvrH := Lib.hid hvr
            clear hpp hw hvr hnfH hCH
            by_cases h60 : i = 60
            · have g60 : ((i : Int) == 60) = true := by simp [h60]
              have hfinH := Lib.hid (show parseL (wordsB 10 t.data.toList) 0 [] = ([], i, 2) by rw [← hppH.out, if_neg (by omega)])
              clear h60
              go_wp2_with fail
              all_goals go_ret3
              all_goals rw [hrH.out, hfinH.out]
              all_goals exact ⟨_, rfl, .nil _ _ _ _ _, bcall hBH.out hbXH.out⟩
            have g60 : ((i : Int) == 60) = false := by rw [beq_eq_false_iff_ne]; omega
            have cr := right_any 60 i (1, nF, 0) WX (by omega) (by omega) (by omega)
            obtain ⟨y0, y1, y2⟩ := kp_cells hXXH.out
            cases hbr : rightB 60 i (1, nF, 0) with
            | false =>
              rw [hbr] at cr
              have hfinH := Lib.hid (show parseL (wordsB 10 t.data.toList) 0 [] = ([], i, 2) by
                rw [← hppH.out, if_neg]
                rintro ⟨-, h2⟩
                have h3 := (line_both hi60).2 h2
                rw [hxH.out, hbr] at h3
                exact Bool.noConfusion h3.1)
              have crH := Lib.hid cr
              clear cr hbr h60
              dsimp only [stpV] at crH
              go_wp2_with fail
              refine crH.out.mono ?_
              rintro e w8 ⟨rfl, hb8⟩
              go_wp2_with fail
              all_goals go_ret3
              all_goals rw [hrH.out, hfinH.out]
              all_goals exact ⟨_, rfl, .nil _ _ _ _ _, bcall hBH.out (bcall hbXH.out hb8)⟩
            | true =>
              rw [hbr] at cr
              have hst : stpR (1, nF, 0) := right_R hbr (by omega)
              have hbrH := Lib.hid hbr
              have hstH := Lib.hid hst
              have crH := Lib.hid cr
              have hltH := Lib.hid (show i < 60 by omega)
              clear cr hbr hst h60
              dsimp only [stpV] at crH
              go_wp2_with fail
              refine crH.out.mono ?_
              rintro e w8 ⟨rfl, hb8⟩
              have y0 := cell_later hb8 y0
              have y1 := cell_later hb8 y1
              have y2 := cell_later hb8 y2
              have hbA := bcall hbXH.out hb8
              have cl := line_any (1, nF, 0) hbrH.out hi60 w8 (TabW.below hLrH.out.1 hbA)
              obtain ⟨bL, hbL⟩ : ∃ b, (⟨(lineT (1, nF, 0)).toArray⟩ : ByteArray) = b := ⟨_, rfl⟩
              rw [hbL] at cl
              have hbLd : bL.data.toList = lineB (1, nF, 0) ++ [10] := by rw [← hbL]; rfl
              have clH := Lib.hid cl
              have hbAH := Lib.hid hbA
              have hbLdH := Lib.hid hbLd
              dsimp only [stpV] at clH
              have gadd : (9223372036854775807 < l1.size + 1) = False := eq_false (by omega)
              clear cl hbL hbLd hbA hb8
              go_wp2_with fail
              refine clH.out.mono ?_
              rintro e wA ⟨rfl, hbwA⟩
              have y0 := cell_later hbwA y0
              have y1 := cell_later hbwA y1
              have y2 := cell_later hbwA y2
              have hbB := bcall hbAH.out hbwA
              have hB8 := bcall hBH.out hbB
              have hO8 := OwnL.call hOH.out hbB
              by_cases heq : lineB (1, nF, 0) = l1.data.toList
              · have hq : (bL.toList == (l1 ++ ⟨#[10]⟩).toList) = true := str_eq (ba_ext (by rw [hbLdH.out, heq, ba_app]))
                have hrr : rightB 60 i (refX l1.data.toList) = true := (line_both hi60).1 (by rw [hxH.out]; exact ⟨hbrH.out, heq⟩)
                have hxx : refX l1.data.toList = (1, nF, 0) := (line_same hi60 hrr).symm.trans hxH.out
                have hnxH := Lib.hid (show parseL (v0 :: rest) (i + 1) (acc ++ [(1, nF, 0)]) = parseL (wordsB 10 t.data.toList) 0 [] by rw [← hppH.out, if_pos ⟨hltH.out, hrr⟩, hxx])
                obtain ⟨v', W', hrun, ho, hg, -⟩ := OwnL.push (P := Tryz.prog) (t := 25) (ty := 25) hO8 Tryz.underlying25 infoStp rfl (vs := [.int .i64 1, .int .i64 nF, .int .i64 0]) (x := (1, nF, 0)) (stp_R hstH.out) (by have := halH.out; omega) (by have := halH.out; unfold big; omega) (by have := hB8.size; omega)
                have hrel : kpR t w (.string rs) v' (.int .i64 ((i : Int) + 1)) W' := ⟨rs, i + 1, acc ++ [(1, nF, 0)], rfl, by go_num, by simp [halH.out], by have := hltH.out; omega, hrss, by rw [hvrH.out]; exact hnxH.out, ho, hB8.grown hg (by have := hB8.size; omega) (fun k e => (OwnL.lt hO8 k e).1)⟩
                have hrelH := Lib.hid hrel
                clear hrel ho hg hB8 hO8 hbB hbwA heq hrr hxx
                go_wp2_with (at_builtin; refine wpList_append_run rfl _ _ _ rfl rfl rfl hrun ?_)
                all_goals go_roundw
                all_goals first | exact hrelH.out | (simp [intOf]; done) | (have := hltH.out; simp [intOf]; omega)
              · have hq : (bL.toList == (l1 ++ ⟨#[10]⟩).toList) = false := str_neq (fun e => heq (by
                  have := hbLdH.out
                  rw [e, ba_app] at this
                  exact (List.append_cancel_right this).symm))
                have hfinH := Lib.hid (show parseL (wordsB 10 t.data.toList) 0 [] = ([], i, 2) by
                  rw [← hppH.out, if_neg]
                  rintro ⟨-, h2⟩
                  have h3 := (line_both hi60).2 h2
                  rw [hxH.out] at h3
                  exact heq h3.2)
                clear heq hO8 hbB hbwA
                have hB8H := Lib.hid hB8
                clear hB8
                go_wp2_with fail
                all_goals go_ret3
                all_goals rw [hrH.out, hfinH.out]
                all_goals exact ⟨_, rfl, .nil _ _ _ _ _, hB8H.out⟩
end Go.Proofs.YtggfhjfebnhbjaaGreatDoor
