/- The proof of a statement, some of its texts joined in build order: part H. -/
import Derived.Test.YtnhaoalcpbefoaaDoorMsD
import Derived.Lib.AtoiAll
import Derived.Lib.Atoi
import Derived.Lib.IndexMore
import Derived.Lib.ItoaNum
import Derived.Test.YtnhaoalcpbefoaaDoorMsB
import Derived.Test.YtnhaoalcpbefoaaDoorBase
import Derived.ProofKit
import Derived.LaidMore
import Derived.OpenShut
import Derived.Stop.Joined
import Derived.Test.YtnhaoalcpbefoaaDoorWalkF
import Derived.Test.YtnhaoalcpbefoaaDoorKeys
import Derived.Test.YtnhaoalcpbefoaaDoorBoxList
import Derived.Test.YtnhaoalcpbefoaaDoorRegion
import Derived.Deep.RegionLaw
import Derived.Test.YtnhaoalcpbefoaaDoorShAtoi
import Derived.Test.YtnhaoalcpbefoaaDoorBld
import Derived.BigQuiet
import Derived.Lib.ItoaLen
import Derived.Lib.SplitLaws
/- Proofs as texts, in plain words: what Format writes and what Parse reads, of both. No program is named. -/
namespace Go.Proofs.YtnhaoalcpbefoaaDoor

/-- the parts of a text between single marks -/
def wordsB (m : UInt8) : List UInt8 → List (List UInt8)
  | [] => [[]]
  | c :: r => if c = m then [] :: wordsB m r else match wordsB m r with | [] => [[c]] | w :: ws => (c :: w) :: ws
theorem wordsB_ne (m : UInt8) : ∀ l, wordsB m l ≠ []
  | [] => by simp [wordsB]
  | c :: r => by
    rw [wordsB]
    split
    · simp
    · split <;> simp
theorem wordsB_no {m : UInt8} : ∀ {l : List UInt8}, m ∉ l → wordsB m l = [l]
  | [], _ => rfl
  | c :: r, h => by
    rw [List.mem_cons, not_or] at h
    rw [wordsB, if_neg (fun e => h.1 e.symm), wordsB_no h.2]
theorem wordsB_at {m : UInt8} : ∀ {l r : List UInt8}, m ∉ l → wordsB m (l ++ m :: r) = l :: wordsB m r
  | [], r, _ => by rw [List.nil_append, wordsB, if_pos rfl]
  | c :: l, r, h => by
    rw [List.mem_cons, not_or] at h
    rw [List.cons_append, wordsB, if_neg (fun e => h.1 e.symm), wordsB_at h.2]
/-- put together again -/
def joinM (m : UInt8) : List (List UInt8) → List UInt8
  | [] => []
  | [w] => w
  | w :: v :: ws => w ++ m :: joinM m (v :: ws)
theorem joinM_words (m : UInt8) : ∀ l, joinM m (wordsB m l) = l
  | [] => rfl
  | c :: r => by
    have ih := joinM_words m r
    have hn := wordsB_ne m r
    rw [wordsB]
    by_cases h : c = m
    · rw [if_pos h]
      cases hw : wordsB m r with
      | nil => exact (hn hw).elim
      | cons v ws => rw [hw] at ih; rw [joinM, ih, List.nil_append, h]
    · rw [if_neg h]
      cases hw : wordsB m r with
      | nil => exact (hn hw).elim
      | cons v ws =>
        rw [hw] at ih
        simp only
        cases ws with
        | nil => rw [joinM] at ih ⊢; rw [ih]
        | cons u ws => rw [joinM] at ih ⊢; rw [List.cons_append, ih]
theorem words_no {m : UInt8} : ∀ {l : List UInt8} {w : List UInt8}, w ∈ wordsB m l → m ∉ w
  | [], w, h => by simp [wordsB] at h; subst h; simp
  | c :: r, w, h => by
    rw [wordsB] at h
    by_cases e : c = m
    · rw [if_pos e, List.mem_cons] at h
      rcases h with h | h
      · subst h; simp
      · exact words_no h
    · rw [if_neg e] at h
      cases hw : wordsB m r with
      | nil => exact (wordsB_ne m r hw).elim
      | cons v ws =>
        rw [hw] at h
        simp only [List.mem_cons] at h
        rcases h with h | h
        · subst h
          have := words_no (m := m) (l := r) (w := v) (by rw [hw]; simp)
          rw [List.mem_cons, not_or]; exact ⟨fun e' => e e'.symm, this⟩
        · exact words_no (l := r) (by rw [hw]; simp [h])

/-- a text as a number, as the reference reads it -/
def bodyL (l : List UInt8) : List UInt8 := if l.head? = some 45 then l.tail else l
def sgnL (l : List UInt8) (m : Nat) : Int := if l.head? = some 45 then -(m : Int) else m
def numR (l : List UInt8) : Option Int :=
  if (bodyL l).length < 1 ∨ 18 < (bodyL l).length then none
  else match Lib.decFrom 0 (bodyL l) with
    | none => none
    | some m => if Lib.itoa (sgnL l m) = l then some (sgnL l m) else none
theorem numR_itoa {l : List UInt8} {n : Int} (h : numR l = some n) : Lib.itoa n = l := by
  unfold numR at h
  by_cases h1 : (bodyL l).length < 1 ∨ 18 < (bodyL l).length
  · rw [if_pos h1] at h; cases h
  · rw [if_neg h1] at h
    cases hd : Lib.decFrom 0 (bodyL l) with
    | none => rw [hd] at h; cases h
    | some m =>
      rw [hd] at h
      simp only at h
      by_cases h2 : Lib.itoa (sgnL l m) = l
      · rw [if_pos h2] at h; injection h with h; rw [← h]; exact h2
      · rw [if_neg h2] at h; cases h
def smD (n : Nat) : List UInt8 := if n < 10 then [UInt8.ofNat (48 + n)] else [UInt8.ofNat (48 + n / 10), UInt8.ofNat (48 + n % 10)]
theorem itoa_sm {n : Nat} (h : n < 100) : Lib.itoa (n : Int) = smD n := by
  have : Lib.itoa (n : Int) = Lib.decDigits n := by unfold Lib.itoa; rw [if_neg (by omega)]; simp
  rw [this]
  unfold smD
  by_cases h1 : n < 10
  · rw [if_pos h1, Lib.decDigits_one h1]
  · rw [if_neg h1, Lib.decDigits_two h1 h]
theorem smD_facts : ∀ n : Fin 60, (smD n.1).head? ≠ some 45 ∧ 1 ≤ (smD n.1).length ∧ (smD n.1).length ≤ 2 ∧ Lib.decFrom 0 (smD n.1) = some n.1 ∧ Lib.atoiAll (smD n.1) = .ok (n.1 : Int) ∧ (32 : UInt8) ∉ smD n.1 ∧ (10 : UInt8) ∉ smD n.1 := by decide +kernel
theorem numR_sm {n : Nat} (h : n < 60) : numR (smD n) = some (n : Int) := by
  obtain ⟨h1, h2, h3, h4, -⟩ := smD_facts ⟨n, h⟩
  simp only at h1 h2 h3 h4
  have hb : bodyL (smD n) = smD n := by unfold bodyL; rw [if_neg h1]
  have hs : sgnL (smD n) n = (n : Int) := by unfold sgnL; rw [if_neg h1]
  unfold numR
  rw [hb, if_neg (by omega), h4]
  simp only
  rw [hs, itoa_sm (by omega), if_pos rfl]
/-- what Atoi makes of a text -/
def atoiV (l : List UInt8) : Int := match Lib.atoiAll l with | .ok v => v | .range => Lib.atoiSat l | _ => 0
theorem atoiV_sm {n : Nat} (h : n < 60) : atoiV (smD n) = (n : Int) := by
  unfold atoiV; rw [(smD_facts ⟨n, h⟩).2.2.2.2.1]

def citeW : List UInt8 := [99, 105, 116, 101]
def detW : List UInt8 := [100, 101, 116, 97, 99, 104]
/-- a step's line, without its end -/
def lineB (x : Stp) : List UInt8 := if x.1 = 1 then citeW ++ 32 :: Lib.itoa x.2.1 else detW ++ 32 :: (Lib.itoa x.2.1 ++ 32 :: Lib.itoa x.2.2)
def lineT (x : Stp) : List UInt8 := lineB x ++ [10]
/-- what the reference makes of a line -/
def refX (l : List UInt8) : Stp :=
  match (wordsB 32 l).tail.mapM numR with
  | some [a] => if (wordsB 32 l).headD [] = citeW then (1, a, 0) else (0, 0, 0)
  | some [a, b] => if (wordsB 32 l).headD [] = detW then (2, a, b) else (0, 0, 0)
  | _ => (0, 0, 0)
/-- what the program makes of a line -/
def cut32 (l : List UInt8) : List UInt8 × List UInt8 × Bool := Lib.cut l [32]
def progX (l : List UInt8) : Stp :=
  if (cut32 l).1 = detW ∧ (cut32 (cut32 l).2.1).2.2 = true then (2, atoiV (cut32 (cut32 l).2.1).1, atoiV (cut32 (cut32 l).2.1).2.1) else (1, atoiV (cut32 (cut32 l).2.1).1, 0)
theorem index_no {m : UInt8} : ∀ {l : List UInt8}, m ∉ l → Lib.index l [m] = -1
  | [], _ => rfl
  | c :: r, h => by
    rw [List.mem_cons, not_or] at h
    have hc : (m == c) = false := by rw [beq_eq_false_iff_ne]; exact h.1
    unfold Lib.index
    rw [index_no h.2]
    simp [List.isPrefixOf, hc]
theorem index_at {m : UInt8} : ∀ {l r : List UInt8}, m ∉ l → Lib.index (l ++ m :: r) [m] = l.length
  | [], r, _ => by unfold Lib.index; simp [List.isPrefixOf]
  | c :: l, r, h => by
    rw [List.mem_cons, not_or] at h
    have hc : (m == c) = false := by rw [beq_eq_false_iff_ne]; exact h.1
    rw [List.cons_append]
    unfold Lib.index
    rw [index_at h.2]
    simp [List.isPrefixOf, hc]
    try omega
theorem cut_no {m : UInt8} {l : List UInt8} (h : m ∉ l) : Lib.cut l [m] = (l, [], false) := by
  unfold Lib.cut; rw [index_no h]; rfl
theorem cut_at {m : UInt8} {l r : List UInt8} (h : m ∉ l) : Lib.cut (l ++ m :: r) [m] = (l, r, true) := by
  unfold Lib.cut
  rw [index_at h, if_pos (by omega)]
  simp
theorem right_form {i : Nat} {x : Stp} (h : rightB 60 i x = true) (hi : i ≤ 60) : (∃ a : Nat, a < 60 ∧ x = (1, (a : Int), 0)) ∨ (∃ a b : Nat, a < 60 ∧ b < 60 ∧ x = (2, (a : Int), (b : Int))) := by
  by_cases h1 : x.1 = 1
  · obtain ⟨c1, c2, c3⟩ := rightB_cite h h1
    exact .inl ⟨x.2.1.toNat, by omega, Prod.ext h1 (Prod.ext (by simp only; omega) c3)⟩
  · obtain ⟨d0, d1, d2, d3, d4⟩ := rightB_detach h h1
    exact .inr ⟨x.2.1.toNat, x.2.2.toNat, by omega, by omega, Prod.ext d0 (Prod.ext (by simp only; omega) (by simp only; omega))⟩
theorem lineB_cite {a : Nat} (h : a < 60) : lineB (1, (a : Int), 0) = citeW ++ 32 :: smD a := by
  unfold lineB; rw [if_pos rfl, itoa_sm (by omega)]
theorem lineB_det {a b : Nat} (h : a < 60) (k : b < 60) : lineB (2, (a : Int), (b : Int)) = detW ++ 32 :: (smD a ++ 32 :: smD b) := by
  unfold lineB; rw [if_neg (by simp), itoa_sm (by omega), itoa_sm (by omega)]
theorem refX_line {i : Nat} {x : Stp} (h : rightB 60 i x = true) (hi : i ≤ 60) : refX (lineB x) = x := by
  rcases right_form h hi with ⟨a, ha, rfl⟩ | ⟨a, b, ha, hb, rfl⟩
  · have f := smD_facts ⟨a, ha⟩
    unfold refX
    rw [lineB_cite ha, wordsB_at (by decide), wordsB_no f.2.2.2.2.2.1]
    simp only [List.tail_cons, List.headD_cons, List.mapM_cons, List.mapM_nil, numR_sm ha]
    rfl
  · have f := smD_facts ⟨a, ha⟩
    have g := smD_facts ⟨b, hb⟩
    unfold refX
    rw [lineB_det ha hb, wordsB_at (by decide), wordsB_at f.2.2.2.2.2.1, wordsB_no g.2.2.2.2.2.1]
    simp only [List.tail_cons, List.headD_cons, List.mapM_cons, List.mapM_nil, numR_sm ha, numR_sm hb]
    rfl
theorem progX_line {i : Nat} {x : Stp} (h : rightB 60 i x = true) (hi : i ≤ 60) : progX (lineB x) = x := by
  rcases right_form h hi with ⟨a, ha, rfl⟩ | ⟨a, b, ha, hb, rfl⟩
  · have f := smD_facts ⟨a, ha⟩
    unfold progX cut32
    rw [lineB_cite ha, cut_at (by decide)]
    simp only
    rw [cut_no f.2.2.2.2.2.1, if_neg (by simp), atoiV_sm ha]
  · have f := smD_facts ⟨a, ha⟩
    unfold progX cut32
    rw [lineB_det ha hb, cut_at (by decide)]
    simp only
    rw [cut_at f.2.2.2.2.2.1, if_pos (by simp), atoiV_sm ha, atoiV_sm hb]
theorem mapM_one {a : Int} : ∀ {l : List (List UInt8)}, l.mapM numR = some [a] → ∃ w, l = [w] ∧ numR w = some a
  | [], h => by simp at h
  | w :: l, h => by
    rw [List.mapM_cons] at h
    cases hw : numR w with
    | none => rw [hw] at h; simp at h
    | some v =>
      cases hl : l.mapM numR with
      | none => rw [hw, hl] at h; simp at h
      | some vs =>
        rw [hw, hl] at h
        simp at h
        obtain ⟨rfl, rfl⟩ := h
        cases l with
        | nil => exact ⟨w, rfl, hw⟩
        | cons u l =>
          rw [List.mapM_cons] at hl
          cases hu : numR u with
          | none => rw [hu] at hl; simp at hl
          | some v' =>
            cases hl2 : l.mapM numR with
            | none => rw [hu, hl2] at hl; simp at hl
            | some vs' => rw [hu, hl2] at hl; simp at hl
theorem mapM_two {a b : Int} {l : List (List UInt8)} (h : l.mapM numR = some [a, b]) : ∃ w u, l = [w, u] ∧ numR w = some a ∧ numR u = some b := by
  cases l with
  | nil => simp at h
  | cons w l =>
    rw [List.mapM_cons] at h
    cases hw : numR w with
    | none => rw [hw] at h; simp at h
    | some v =>
      cases hl : l.mapM numR with
      | none => rw [hw, hl] at h; simp at h
      | some vs =>
        rw [hw, hl] at h
        simp at h
        obtain ⟨rfl, rfl⟩ := h
        obtain ⟨u, rfl, hu⟩ := mapM_one hl
        exact ⟨w, u, rfl, hw, hu⟩
theorem refX_back {i : Nat} {l : List UInt8} (h : rightB 60 i (refX l) = true) : lineB (refX l) = l := by
  have hz : rightB 60 i (0, 0, 0) = true → False := fun h => by simp [rightB] at h
  have hj := joinM_words 32 l
  unfold refX at h ⊢
  split
  · rename_i a hm
    rw [hm] at h
    simp only at h
    obtain ⟨w, hw, hn⟩ := mapM_one hm
    split
    · rename_i hc
      cases hwl : wordsB 32 l with
      | nil => exact (wordsB_ne _ _ hwl).elim
      | cons v ws =>
        rw [hwl] at hj hw hc
        simp only [List.tail_cons, List.headD_cons] at hw hc
        subst hw hc
        rw [joinM, joinM] at hj
        unfold lineB
        rw [if_pos rfl, numR_itoa hn]
        exact hj
    · rename_i hc; rw [if_neg hc] at h; exact (hz h).elim
  · rename_i a b hm
    rw [hm] at h
    simp only at h
    obtain ⟨w, u, hw, hn, hu⟩ := mapM_two hm
    split
    · rename_i hc
      cases hwl : wordsB 32 l with
      | nil => exact (wordsB_ne _ _ hwl).elim
      | cons v ws =>
        rw [hwl] at hj hw hc
        simp only [List.tail_cons, List.headD_cons] at hw hc
        subst hw hc
        rw [joinM, joinM, joinM] at hj
        unfold lineB
        rw [if_neg (by simp), numR_itoa hn, numR_itoa hu]
        exact hj
    · rename_i hc; rw [if_neg hc] at h; exact (hz h).elim
  · rename_i h1 h2
    split at h
    · rename_i a hm; exact (h1 a hm).elim
    · rename_i a b hm; exact (h2 a b hm).elim
    · exact (hz h).elim
/-- both take a line alike -/
theorem line_both {i : Nat} {l : List UInt8} (hi : i ≤ 60) : (rightB 60 i (progX l) = true ∧ lineB (progX l) = l) ↔ rightB 60 i (refX l) = true := by
  constructor
  · rintro ⟨h1, h2⟩
    have := refX_line h1 hi
    rw [h2] at this
    rw [this]; exact h1
  · intro h
    have h2 := refX_back h
    have h3 := progX_line h hi
    rw [h2] at h3
    rw [h3]; exact ⟨h, h2⟩
theorem line_same {i : Nat} {l : List UInt8} (hi : i ≤ 60) (h : rightB 60 i (refX l) = true) : progX l = refX l := by
  have h2 := refX_back h
  have h3 := progX_line h hi
  rwa [h2] at h3
/-- the lines, one behind the other -/
def parseL : List (List UInt8) → Nat → List Stp → List Stp × Nat × Int
  | [], i, _ => ([], i, 2)
  | [l], i, acc => if l = [] ∧ acc ≠ [] then (acc, 0, 0) else ([], i, 2)
  | l :: v :: r, i, acc => if i < 60 ∧ rightB 60 i (refX l) = true then parseL (v :: r) (i + 1) (acc ++ [refX l]) else ([], i, 2)
def parseE (t : List UInt8) : List Stp × Nat × Int := if t.length ≤ 65536 then parseL (wordsB 10 t) 0 [] else ([], 0, 3)
def formatE (p : List Stp) : List UInt8 := if validP 60 p = true then p.flatMap lineT else []
end Go.Proofs.YtnhaoalcpbefoaaDoor

/- Walks of package kernel: steps in memory; right, valid, ValidGivens, asked. -/
namespace Go.Proofs.YtnhaoalcpbefoaaDoor
open Go Go.RowKit Go.Maps

/-- struct { Kind, A, B int } -/
def stpE : Enc Stp := pairE intE (pairE intE intE)
abbrev Steps := Sl stpE
abbrev stpV (x : Stp) : Value := .agg #[.int .i64 x.1, .int .i64 x.2.1, .int .i64 x.2.2]
def stpR (x : Stp) : Prop := inRange x.1 ∧ inRange x.2.1 ∧ inRange x.2.2
theorem Sl.stp {S : Nat → Prop} {w : World} {a : Option Addr} {c : Nat} {l : List Stp} (h : Steps S w a c l) (i : Nat) (hi : i < l.length) :
    ∃ b off, a = some ⟨b, off, none⟩ ∧ S b ∧ w.cell? ⟨b, off + i * 3, none⟩ = some (.int .i64 l[i].1) ∧ w.cell? ⟨b, off + i * 3 + 1, none⟩ = some (.int .i64 l[i].2.1) ∧ w.cell? ⟨b, off + i * 3 + 2, none⟩ = some (.int .i64 l[i].2.2) ∧ stpR l[i] := by
  obtain ⟨b, off, ha, hb, _, vs, _, hv, hr⟩ := h.at1 i hi
  obtain ⟨us, ts, rfl, ⟨rfl, h1⟩, us', ts', rfl, ⟨rfl, h2⟩, ⟨rfl, h3⟩⟩ := hr
  have h0 := hv 0 (by simp)
  have h4 := hv 1 (by simp)
  have h5 := hv 2 (by simp)
  simp [stpE, pairE, intE] at h0 h4 h5
  exact ⟨b, off, ha, hb, h0, h4, h5, h1, h2, h3⟩

theorem okSteps_snoc {G : Int} : ∀ (p : List Stp) (n : Nat) (x : Stp), okSteps G n (p ++ [x]) = (okSteps G n p && rightB G (n + p.length) x)
  | [], n, x => by simp [okSteps]
  | y :: p, n, x => by
    rw [List.cons_append, okSteps, okSteps, okSteps_snoc p (n + 1) x, Bool.and_assoc, List.length_cons, show n + 1 + p.length = n + (p.length + 1) by omega]
theorem okSteps_take {G : Int} : ∀ (p : List Stp) (n k : Nat), okSteps G n p = true → okSteps G n (p.take k) = true
  | [], _, _, _ => by simp [okSteps]
  | x :: p, n, 0, _ => rfl
  | x :: p, n, k + 1, h => by
    simp only [okSteps, Bool.and_eq_true] at h
    rw [List.take_succ_cons, okSteps, Bool.and_eq_true]
    exact ⟨h.1, okSteps_take p (n + 1) k h.2⟩
end Go.Proofs.YtnhaoalcpbefoaaDoor

/- Walks: ValidProof (both), SameSteps. -/
namespace Go.Proofs.YtnhaoalcpbefoaaDoor
open Go Go.RowKit Go.Maps

end Go.Proofs.YtnhaoalcpbefoaaDoor

/- Facts of the program's types that the rows over the kernel want; the start of a row that lists variables. -/
namespace Go.Proofs.YtnhaoalcpbefoaaDoor
open Go Go.RowKit Go.ChangeShapes Go.WideShapes Go.ChangeAt Go.Deep

theorem gives3 {P : Program} {t : TypeId} {α β γ : Type} {E : Enc α} {F : Enc β} {G : Enc γ} {f0 f1 f2 : Field} (ht : P.underlying t = some (.struct #[f0, f1, f2])) (h0 : f0.offset = 0) (h1 : f1.offset = E.size) (h2 : f2.offset = E.size + F.size) (hc : P.cellsOf t = E.size + (F.size + G.size))
    (hc0 : P.cellsOf f0.type = E.size) (hc1 : P.cellsOf f1.type = F.size) (hc2 : P.cellsOf f2.type = G.size) (g0 : Gives P f0.type E) (g1 : Gives P f1.type F) (g2 : Gives P f2.type G) : Gives P t (pairE E (pairE F G)) := by
  intro H enc w base spare held n cs x h
  obtain ⟨y0, y1, y2, n', _, hl, r0, r1, r2⟩ := trod_struct3 ht h
  obtain ⟨a, ha⟩ := g0 H enc w base spare held n' _ _ r0
  obtain ⟨b, hb⟩ := g1 H enc w base spare held n' _ _ r1
  obtain ⟨c, hcc⟩ := g2 H enc w base spare held n' _ _ r2
  refine ⟨(a, b, c), _, _, ?_, ha, _, _, rfl, hb, hcc⟩
  rw [h0, h1, h2, hc0, hc1, hc2, List.drop_zero]
  have e1 : (cs.drop (E.size + F.size)).take G.size = cs.drop (E.size + F.size) := List.take_of_length_le (by simp; omega)
  rw [e1, ← List.drop_drop, List.take_append_drop, List.take_append_drop]
theorem gives_array2 {P : Program} {t e : TypeId} {α : Type} {E : Enc α} (ht : P.underlying t = some (.array 2 e)) (hc : P.cellsOf t = E.size + E.size) (he : P.cellsOf e = E.size) (g : Gives P e E) : Gives P t (pairE E E) := by
  intro H enc w base spare held n cs x h
  obtain ⟨xs, m, _, _, hl, hx, hf⟩ := DataW.trod_array ht h
  match xs, hx with
  | [x0, x1], _ =>
    obtain ⟨a, ha⟩ := g H enc w base spare held m _ _ (hf 0 (by omega))
    obtain ⟨b, hb⟩ := g H enc w base spare held m _ _ (hf 1 (by omega))
    refine ⟨(a, b), _, _, ?_, ha, hb⟩
    rw [he, Nat.zero_mul, Nat.one_mul, List.drop_zero]
    have e1 : (cs.drop E.size).take E.size = cs.drop E.size := List.take_of_length_le (by simp; omega)
    rw [e1, List.take_append_drop]
end Go.Proofs.YtnhaoalcpbefoaaDoor

/- Walks: a copy of a list of steps. -/
namespace Go.Proofs.YtnhaoalcpbefoaaDoor
open Go Go.RowKit Go.Maps

end Go.Proofs.YtnhaoalcpbefoaaDoor

/- Walks: kernel.Joined. -/
namespace Go.Proofs.YtnhaoalcpbefoaaDoor
open Go Go.RowKit Go.Maps

theorem stp_R {S : Nat → Prop} {w : World} {y : Stp} (h : stpR y) : stpE.R S w [.int .i64 y.1, .int .i64 y.2.1, .int .i64 y.2.2] y := ⟨[_], [_, _], rfl, ⟨rfl, h.1⟩, [_], [_], rfl, ⟨rfl, h.2.1⟩, rfl, h.2.2⟩
theorem okSteps_at {G : Int} {q : List Stp} (h : okSteps G 0 q = true) (k : Nat) (hk : k < q.length) : rightB G k q[k] = true := by
  have h1 := okSteps_take q 0 (k + 1) h
  rw [List.take_succ_eq_append_getElem hk, okSteps_snoc, Bool.and_eq_true, List.length_take, Nat.min_eq_left (by omega), Nat.zero_add] at h1
  exact h1.2
end Go.Proofs.YtnhaoalcpbefoaaDoor

/- Walks: the closure of kernel.Untree that puts a step where it stands. -/
namespace Go.Proofs.YtnhaoalcpbefoaaDoor
open Go Go.RowKit Go.Maps Go.WideMaps

/-- a list in a box gets one element more: what is left alone -/
theorem box_push2 {α : Type} {E : Enc α} {P : Program} {W : World} {B0 base B : Nat} {T e : TypeId} {v : Value} {l : List α} (hv : Boxed W B0 T v) (ho : OwnL E (fun _ => False) W base e v l) (hT : T ≠ e) (hbs : base ≤ W.heap.size) (hBb : B ≤ base) (hB0 : B ≤ B0)
    {t ty : TypeId} {z : Value} {bytes : Nat} (ht : P.underlying t = some (.slice e)) (hinfo : (P.info? e).map (fun i => (i.zero, i.size, i.bytes)) = some (some z, E.size, bytes)) (hzs : z.cells.size = E.size)
    {vs : List Value} {x : α} (hR : E.R (Off (fun _ => False) v) W vs x) (hlen : (l.length + 1) * bytes ≤ 140737488355328) (hmax : l.length + 1 ≤ big) :
    ∃ a' cap W2, RowKit.Hid ((Builtin.append_ #[t, t] ty #[v, .slice (some ⟨W.heap.size, 0, none⟩) 1 1]).run P (W.alloc (.cells vs.toArray e)) = .ok (.slice a' (l.length + 1) cap) W2) ∧
      RowKit.Hid (W2.cell? ⟨B0, 0, none⟩ = some v) ∧ RowKit.Hid (W2.frozen? ⟨B0, 0, none⟩ = false) ∧
      RowKit.Hid (Boxed (W2.setCell ⟨B0, 0, none⟩ (.slice a' (l.length + 1) cap)) B0 T (.slice a' (l.length + 1) cap)) ∧ RowKit.Hid (OwnL E (fun _ => False) (W2.setCell ⟨B0, 0, none⟩ (.slice a' (l.length + 1) cap)) base e (.slice a' (l.length + 1) cap) (l ++ [x])) ∧
      RowKit.Hid (∀ k, k < W.heap.size → k ≠ B0 → v.ownBlock ≠ some k → (W2.setCell ⟨B0, 0, none⟩ (.slice a' (l.length + 1) cap)).heap[k]? = W.heap[k]?) ∧ RowKit.Hid (Below B W (W2.setCell ⟨B0, 0, none⟩ (.slice a' (l.length + 1) cap))) ∧
      RowKit.Hid ((Value.slice a' (l.length + 1) cap).ownBlock = v.ownBlock ∨ ∃ k, (Value.slice a' (l.length + 1) cap).ownBlock = some k ∧ W.heap.size ≤ k) ∧
      RowKit.Hid (∀ k, k < W.heap.size → v.ownBlock ≠ some k → W2.heap[k]? = W.heap[k]?) := by
  obtain ⟨v', W2, hrun, ho2, hg, hat⟩ := ho.push (P := P) (t := t) (ty := ty) ht hinfo hzs hR hlen hmax hbs
  obtain ⟨a', cap, rfl, -⟩ := ho2.sl
  rw [List.length_append, List.length_singleton] at hrun ho2 hat
  have hnr : v.ownBlock ≠ some B0 := ho.notBox hv hT
  have hv2 : Boxed W2 B0 T v := hv.kept hg (fun e => hnr e.symm)
  have hg3 : W2.grownBy (W2.setCell ⟨B0, 0, none⟩ (.slice a' (l.length + 1) cap)) (some B0) := grownBy_setCell' _ _ _
  have hnr2 := ho2.notBox hv2 hT
  have ho3 := ho2.grown hg3 (fun k hk e => by cases e; exact hnr2 hk) (fun b hb _ => hb.elim)
  have hfr : ∀ k, k < W.heap.size → v.ownBlock ≠ some k → W2.heap[k]? = W.heap[k]? := fun k hk hr => hg.block k hk (fun e => hr e.symm)
  refine ⟨a', cap, W2, Lib.hid hrun, Lib.hid hv2.cell, Lib.hid hv2.frozen, Lib.hid (hv2.set _), Lib.hid ho3, Lib.hid (fun k hk h0 hr => ?_), Lib.hid ?_, Lib.hid hat, Lib.hid hfr⟩
  · exact (hg3.block k (Nat.lt_of_lt_of_le hk hg.size) (fun e => h0 (by injection e))).trans (hfr k hk hr)
  · exact ((Below.refl B W).grown hg (Nat.le_trans hBb hbs) (fun k e => Nat.le_trans hBb (ho.lt k e).1)).grown hg3 (Nat.le_trans (Nat.le_trans hBb hbs) hg.size) (fun k e => by cases e; exact hB0)

abbrev StK : Type := {x : Stp // stpR x}
theorem typesPosS : ∃ m, Tryd.prog.types.size = m + 1 := ⟨Tryd.prog.types.size - 1, by have : 0 < Tryd.prog.types.size := of_decide_eq_true (by kernel_rfl); omega⟩
def atF (p : List Stp) (x : StK) : Option Value := if x.1 ∈ p then some (.int .i64 (p.idxOf x.1 : Nat)) else none
theorem atF_new {p : List Stp} {x : StK} (h : x.1 ∉ p) : (fun z => if z = x then some (.int .i64 (p.length : Nat)) else atF p z) = atF (p ++ [x.1]) := by
  funext z
  unfold atF
  by_cases hz : z = x
  · subst hz
    rw [if_pos rfl, if_pos (by simp), List.idxOf_append, if_neg h]; simp
  · rw [if_neg hz]
    have hne : z.1 ≠ x.1 := fun e => hz (Subtype.ext e)
    by_cases hm : z.1 ∈ p
    · rw [if_pos hm, if_pos (by simp [hm]), List.idxOf_append, if_pos hm]
    · rw [if_neg hm, if_neg (by simp [hm, hne])]
section
variable {B : Nat} {W W' : World} {q p : List Stp} {dn op : List Int} {vO : Value}
theorem own_types {E F : Type} {A : Enc E} {C : Enc F} {e f : TypeId} {v u : Value} {l : List E} {m : List F} {S T : Nat → Prop} {b b' : Nat} (h : OwnL A S W b e v l) (k : OwnL C T W b' f u m) (hef : e ≠ f) : ∀ j, v.ownBlock = some j → u.ownBlock ≠ some j := fun j hj hk => by
  obtain ⟨c1, e1⟩ := OwnL.rowCells h j hj
  obtain ⟨c2, e2⟩ := OwnL.rowCells k j hk
  rw [e1] at e2
  simp only [Option.some.injEq, Obj.cells.injEq] at e2
  exact hef e2.2.1
end
theorem atF_old {p : List Stp} {x : StK} (h : x.1 ∈ p) : atF p x = some (.int .i64 (p.idxOf x.1 : Nat)) := by unfold atF; rw [if_pos h]
theorem atF_last {p : List Stp} {x : StK} (h : x.1 ∉ p) : atF (p ++ [x.1]) x = some (.int .i64 (p.length : Nat)) := by
  rw [← atF_new h]; simp
end Go.Proofs.YtnhaoalcpbefoaaDoor

/- Walks: kernel.Untree. -/
namespace Go.Proofs.YtnhaoalcpbefoaaDoor
open Go Go.RowKit Go.Maps Go.WideMaps

theorem OwnI.takeN {w : World} {base g n cap k : Nat} {l : List Int} (h : OwnI w base (.slice (some ⟨g, 0, none⟩) n cap) l) (hn : n = l.length) (hk : k ≤ n) : OwnI w base (.slice (some ⟨g, 0, none⟩) k cap) (l.take k) := by
  subst hn
  obtain ⟨ho, hr⟩ := OwnL.row h
  refine OwnL.of_row ?_ (fun x hx => hr x (List.mem_of_mem_take hx))
  have hlk : (l.take k).length = k := by rw [List.length_take]; omega
  rw [hlk, List.map_take]
  obtain ⟨e1, e2⟩ := ho
  refine ⟨by rw [List.length_take, e1]; omega, ?_⟩
  rcases e2 with ⟨e2, -⟩ | ⟨g', cap', cur, e3, e4, e5, e6, e7, e8, e9⟩
  · cases e2
  · cases e3
    refine .inr ⟨g, cap, cur, rfl, e4, e5, by omega, e7, e8, ?_⟩
    rw [← e9, List.take_take, Nat.mul_one, Nat.mul_one, Nat.min_eq_left hk]
def opOf : List (Option Nat) → List Int
  | [] => []
  | none :: st => opOf st ++ [2]
  | some _ :: st => opOf st ++ [1]
def dnOf : List (Option Nat) → List Int
  | [] => []
  | none :: st => dnOf st
  | some m :: st => dnOf st ++ [(m : Int)]
def dnW (st : List (Option Nat)) : Option Nat → List Int
  | none => dnOf st
  | some k => dnOf st ++ [(k : Int)]
theorem opOf_len : ∀ st : List (Option Nat), (opOf st).length = st.length
  | [] => rfl
  | none :: st => by rw [opOf, List.length_append, opOf_len st]; rfl
  | some _ :: st => by rw [opOf, List.length_append, opOf_len st]; rfl
theorem dnOf_len : ∀ st : List (Option Nat), (dnOf st).length ≤ st.length
  | [] => Nat.le_refl _
  | none :: st => by have := dnOf_len st; rw [dnOf, List.length_cons]; omega
  | some _ :: st => by have := dnOf_len st; rw [dnOf, List.length_append, List.length_cons]; simp; omega
section
variable {B : Nat} {W : World} {q p : List Stp} {dn op : List Int} {vO : Value}
end
theorem atoi2 {a b : UInt8} (ha : isDig a = true) (hb : isDig b = true) {s : ByteArray} (hs : s.data.toList = [a, b]) : Lib.atoi s.data.toList = some (numOf a b : Int) := by
  simp only [isDig, Bool.and_eq_true, decide_eq_true_eq] at ha hb
  have h45 : (a == 45) = false := by rw [beq_eq_false_iff_ne]; intro e; rw [e] at ha; simp at ha
  have h43 : (a == 43) = false := by rw [beq_eq_false_iff_ne]; intro e; rw [e] at ha; simp at ha
  rw [hs, Lib.atoi, h45, h43]
  simp only [Bool.false_eq_true, if_false, Lib.decNat, List.isEmpty_cons, Lib.decFrom, Lib.digitVal, if_pos ha, if_pos hb, Option.map_some]
  unfold numOf
  congr 2; omega
def lenV (v : Value) : Nat := match v with | .slice _ n _ => n | _ => 0
theorem below4 (w : World) (o1 o2 o3 o4 : Obj) : Below w.heap.size w ((((w.alloc o1).alloc o2).alloc o3).alloc o4) := bcall (below3 w o1 o2 o3) (below1 _ o4)
theorem drop_cons {t : ByteArray} {k : Nat} (h : k < t.size) : t.data.toList.drop k = t[k] :: t.data.toList.drop (k + 1) := by
  rw [List.drop_eq_getElem_cons (by simpa using h)]; rfl
theorem take_cons {t : ByteArray} {k : Nat} (h : k < t.size) : t.data.toList.take (k + 1) = t.data.toList.take k ++ [t[k]] := by
  rw [List.take_succ_eq_append_getElem (by simpa using h)]; rfl
theorem u8_int_eq {b : UInt8} {n : Nat} (hn : n < 256) : ((b.toNat : Int) == (n : Int)) = decide (b = UInt8.ofNat n) := by
  rw [Bool.eq_iff_iff]
  simp only [beq_iff_eq, decide_eq_true_eq]
  constructor
  · intro h; have : b.toNat = n := by omega
    rw [← this]; simp
  · intro h; rw [h, UInt8.toNat_ofNat_of_lt' hn]
theorem extract2 {t : ByteArray} {k : Nat} (h : k + 3 ≤ t.size) : (t.extract (k + 1) (k + 3)).data.toList = [t[k + 1], t[k + 2]] ∧ (t.extract (k + 1) (k + 3)).size ≤ 18 := by
  have hs : (t.extract (k + 1) (k + 3)).size = 2 := by rw [ByteArray.size_extract]; omega
  refine ⟨?_, by omega⟩
  apply List.ext_getElem
  · rw [Array.length_toList]; exact hs
  · intro i h1 h2
    have hi : i < (t.extract (k + 1) (k + 3)).size := by rw [Array.length_toList] at h1; exact h1
    have e : (t.extract (k + 1) (k + 3)).data.toList[i] = (t.extract (k + 1) (k + 3))[i] := rfl
    rw [e, ByteArray.getElem_extract]
    match i, hi with
    | 0, _ => rfl
    | 1, _ => rfl
    | n + 2, hi => omega
theorem bcall' {B : Nat} {w w1 w2 w3 : World} (h1 : Below B w w1) (h2 : Below w1.heap.size w1 w2) (h3 : Below B w2 w3) (hB : B ≤ w1.heap.size) : Below B w w3 := h1.trans ((h2.mono hB).trans h3)
theorem take_size_le (t : ByteArray) (k : Nat) : (t.data.toList.take k).length ≤ t.size := by
  rw [List.length_take, Array.length_toList]; exact Nat.min_le_right _ _
theorem numOf_le {a b : UInt8} (ha : isDig a = true) (hb : isDig b = true) : numOf a b < 100 := by
  simp only [isDig, Bool.and_eq_true, decide_eq_true_eq] at ha hb
  unfold numOf; omega
end Go.Proofs.YtnhaoalcpbefoaaDoor

/- Walks: the closure of kernel.Tree, which writes a step's tree to a builder. -/
namespace Go.Proofs.YtnhaoalcpbefoaaDoor
open Go Go.RowKit

theorem tabAt : ∃ g, Tryd.prog.globalNamed tabName = some g := Option.isSome_iff_exists.1 (by kernel_rfl)
theorem TabW.below {w w' : World} (h : TabW w) (hb : Below w.heap.size w w') : TabW w' := by
  obtain ⟨g, hgn⟩ := tabAt
  unfold TabW Lib.TabIs World.var? at h ⊢
  rw [hgn] at h ⊢
  simp only [Option.bind_some] at h ⊢
  have hlt : g < w.heap.size := by
    rcases Nat.lt_or_ge g w.heap.size with h' | h'
    · exact h'
    · rw [Array.getElem?_eq_none h'] at h; cases h
  rw [hb.block g hlt]
  exact h
theorem itoa3_digs : ∀ n : Nat, n < 60 → Lib.itoa ((100 + n : Nat) : Int) = 49 :: digs n := by
  intro n hn
  rw [Lib.itoa_nonneg]
  have h1 : ∀ u : Nat, u < 10 → Lib.decDigits u = [UInt8.ofNat (48 + u)] := fun u hu => by rw [Lib.decDigits, dif_pos hu]
  have h2 : ∀ u : Nat, ¬ u < 10 → Lib.decDigits u = Lib.decDigits (u / 10) ++ [UInt8.ofNat (48 + u % 10)] := fun u hu => by rw [Lib.decDigits, dif_neg hu]
  rw [h2 _ (by omega), h2 _ (by omega), h1 _ (by omega)]
  unfold digs
  have e1 : (100 + n) / 10 / 10 = 1 := by omega
  have e2 : (100 + n) / 10 % 10 = n / 10 := by omega
  have e3 : (100 + n) % 10 = n % 10 := by omega
  rw [e1, e2, e3]
  rfl
theorem cite_text (n : Nat) : (⟨(49 :: digs n).toArray⟩ : ByteArray).size = 3 := rfl
theorem cite_bytes (n : Nat) : ((⟨#[103]⟩ : ByteArray) ++ (⟨(49 :: digs n).toArray⟩ : ByteArray).extract 1 3).data.toList = 103 :: digs n := by
  rw [ByteArray.data_append, ByteArray.data_extract]
  simp [digs]

section
variable {wI W W' : World} {bs b bf : Nat} {l l' : List UInt8}
end
end Go.Proofs.YtnhaoalcpbefoaaDoor

/- Walks: kernel.Tree. -/
namespace Go.Proofs.YtnhaoalcpbefoaaDoor
open Go Go.RowKit

def retTx (r : List UInt8 × Int) (w : World) (e : Ending) (w' : World) : Prop := e = .returned (.tuple #[.string ⟨r.1.toArray⟩, .int .i64 r.2]) ∧ Below w.heap.size w w'
def minT (t : Tr) : Nat := min t.text.length 65537
def lensT (ts : List Tr) : List Int := ts.map fun t => (minT t : Int)
theorem minT_d (a b : Tr) : minT (.d a b) = min (1 + minT a + minT b) 65537 := by unfold minT; simp only [Tr.text, List.length_cons, List.length_append]; omega
theorem minT_g (n : Nat) : minT (.g n) = 3 := rfl
theorem minT_le (t : Tr) : minT t ≤ 65537 := Nat.min_le_right _ _
theorem lensT_len (ts : List Tr) (i : Nat) (h : i ≤ ts.length) : (lensT (ts.take i)).length = i := by unfold lensT; rw [List.length_map, List.length_take]; omega
theorem lensT_succ {ts : List Tr} {i : Nat} (h : i < ts.length) : lensT (ts.take (i + 1)) = lensT (ts.take i) ++ [(minT (ts.getD i (.g 0)) : Int)] := by
  unfold lensT
  rw [List.take_succ_eq_append_getElem h, List.map_append, List.getD_eq_getElem?_getD, List.getElem?_eq_getElem h]
  rfl
theorem lensT_get {ts : List Tr} {i m : Nat} (h : i ≤ ts.length) (hm : m < i) (hl : m < (lensT (ts.take i)).length) : (lensT (ts.take i))[m] = (minT (ts.getD m (.g 0)) : Int) := by
  have e : (lensT (ts.take i))[m]? = some (minT (ts.getD m (.g 0)) : Int) := by
    unfold lensT
    rw [List.getElem?_map, List.getElem?_take_of_lt hm, List.getD_eq_getElem?_getD, List.getElem?_eq_getElem (by omega)]
    rfl
  rw [List.getElem?_eq_getElem hl] at e
  exact Option.some.inj e
def treI (p : List Stp) (w1 : World) (vT vL iV : Value) (wr : World) : Prop :=
  ∃ i : Nat, iV = .int .i64 i ∧ i ≤ p.length ∧ OwnI wr w1.heap.size vL (lensT ((trees p).take i)) ∧ Below w1.heap.size w1 wr ∧ (∀ j, i = j + 1 → vT = .int .i64 (minT ((trees p).getD j (.g 0)) : Nat))
theorem proofB_parts {G : Int} {p : List Stp} (h : proofB G p = true) : 0 ≤ G ∧ G ≤ 60 ∧ 1 ≤ p.length ∧ p.length ≤ 60 ∧ okSteps G 0 p = true := by
  simp only [proofB, validP, Bool.and_eq_true, decide_eq_true_eq] at h
  exact ⟨h.1.1, h.1.2, h.2.2.1, h.2.2.2, h.2.1⟩
end Go.Proofs.YtnhaoalcpbefoaaDoor

/- Walks: lemmaryref04.sums with the lengths of texts. -/
namespace Go.Proofs.YtnhaoalcpbefoaaDoor
open Go Go.RowKit

def sumI (p : List Stp) (w : World) (vL iV : Value) (wr : World) : Prop :=
  ∃ i : Nat, iV = .int .i64 i ∧ i ≤ p.length ∧ OwnI wr w.heap.size vL (lensT ((trees p).take i)) ∧ Below w.heap.size w wr
end Go.Proofs.YtnhaoalcpbefoaaDoor

/- Walks: lemmaryref04.two. -/
namespace Go.Proofs.YtnhaoalcpbefoaaDoor
open Go Go.RowKit

def tens : ByteArray := ⟨#[48, 49, 50, 51, 52, 53, 54, 55, 56, 57]⟩
theorem tens_at : ∀ a : Nat, a < 10 → (tens.extract a (a + 1)).data.toList = [UInt8.ofNat (48 + a)] := by decide
theorem two_bytes (n : Nat) (hn : n < 100) : (tens.extract (n / 10) (n / 10 + 1) ++ tens.extract (n % 10) (n % 10 + 1)).data.toList = digs n := by
  rw [ByteArray.data_append, Array.toList_append, tens_at _ (by omega), tens_at _ (by omega)]
  rfl
end Go.Proofs.YtnhaoalcpbefoaaDoor

/- Walks: lemmaryref01.Digits, Number. -/
namespace Go.Proofs.YtnhaoalcpbefoaaDoor
open Go Go.RowKit

theorem dec_big {n : Nat} (h : ¬ n < 10) : Lib.decDigits n = Lib.decDigits (n / 10) ++ [UInt8.ofNat (48 + n % 10)] := by rw [Lib.decDigits, dif_neg h]
theorem dec_lenR {n : Nat} (h : n < 9223372036854775808) : (Lib.decDigits n).length ≤ 20 := by rw [Lib.decDigits_length]; exact Lib.nDigits_le20 n (by omega)
def dgR (N : Nat) (w : World) (nV sV : Value) (wr : World) : Prop :=
  ∃ (n : Nat) (s : ByteArray), nV = .int .i64 n ∧ sV = .string s ∧ Lib.decDigits N = Lib.decDigits n ++ s.data.toList ∧ n ≤ N ∧ wr = w
set_option maxRecDepth 100000 in
set_option maxHeartbeats 2000000 in
theorem digN_any (N : Nat) (hN : N < 9223372036854775808) (w : World) :
    Calls Tryd.prog 42 #[.int .i64 N] w fun e w' => e = .returned (.string ⟨(Lib.decDigits N).toArray⟩) ∧ w = w' := by
  have hlen := dec_lenR hN
  have h0 : ((N : Int) < 0) = False := eq_false (by omega)
  go_enter Tryd.func42, Tryd.ntmps42
  go_wp2_with fail
  go_loopw [0, 3] (fun nV sV wr => dgR N w nV sV wr) (fun nV _ _ => (intOf nV).toNat)
  case atStart => exact ⟨N, ByteArray.empty, rfl, rfl, by simp, Nat.le_refl _, rfl⟩
  case round =>
    obtain ⟨n, s, rfl, rfl, hd, hn, hw⟩ := hrel
    subst hw
    have hsl : s.size ≤ 20 := by
      have := congrArg List.length hd
      rw [List.length_append] at this
      have h3 : s.data.toList.length = s.data.size := Array.length_toList
      have h2 : s.size = s.data.size := rfl
      omega
    have e1 : Int.tdiv (n : Int) 10 = ((n / 10 : Nat) : Int) := rfl
    have e2 : Int.tmod (n : Int) 10 = ((n % 10 : Nat) : Int) := rfl
    by_cases h9 : 9 < n
    · have h9' : ((9 : Int) < (n : Int)) = True := eq_true (by omega)
      obtain ⟨r, hr⟩ : ∃ r, n % 10 = r := ⟨_, rfl⟩
      obtain ⟨q, hq⟩ : ∃ q, n / 10 = q := ⟨_, rfl⟩
      have hr9 : r < 10 := by omega
      have hq9 : q < n := by omega
      have hdn := dec_big (n := n) (by omega)
      rw [hr, hq] at hdn
      rw [hq] at e1
      rw [hr] at e2
      obtain ⟨D, hD⟩ : ∃ D, tens.extract r (r + 1) = D := ⟨_, rfl⟩
      have hDb : D.data.toList = [UInt8.ofNat (48 + r)] := by rw [← hD]; exact tens_at r hr9
      have hDs : D.size = 1 := by have : D.size = D.data.toList.length := by rw [Array.length_toList]; rfl
                                  rw [this, hDb]; rfl
      have hsz : (9223372036854775807 < (tens.extract r (r + 1)).size + s.size) = False := by rw [hD]; exact eq_false (by omega)
      have hrel : dgR N wr (.int .i64 q) (.string (tens.extract r (r + 1) ++ s)) wr := ⟨q, _, rfl, rfl, by rw [hd, hdn, hD, ByteArray.data_append, Array.toList_append, hDb]; simp, by omega, rfl⟩
      have hrelH := Lib.hid hrel
      have hqm := Lib.hid hq9
      unfold tens at hrelH hsz
      clear hrel hd hdn hr hq hD hDb hDs
      go_wp2_with fail
      all_goals go_roundw
      all_goals first | exact hrelH.out | (have := hqm.out; simp [intOf]; omega)
    · have h9' : ((9 : Int) < (n : Int)) = False := eq_false (by omega)
      have hn9 : n < 10 := by omega
      obtain ⟨D, hD⟩ : ∃ D, tens.extract n (n + 1) = D := ⟨_, rfl⟩
      have hDb : D.data.toList = [UInt8.ofNat (48 + n)] := by rw [← hD]; exact tens_at n hn9
      have hDs : D.size = 1 := by have : D.size = D.data.toList.length := by rw [Array.length_toList]; rfl
                                  rw [this, hDb]; rfl
      have hsz : (9223372036854775807 < (tens.extract n (n + 1)).size + s.size) = False := by rw [hD]; exact eq_false (by omega)
      have hfin : tens.extract n (n + 1) ++ s = ⟨(Lib.decDigits N).toArray⟩ := by
        refine ByteArray.ext (Array.toList_inj.1 ?_)
        rw [hd, Lib.decDigits_one hn9, hD, ByteArray.data_append, Array.toList_append, hDb]
      have hfinH := Lib.hid hfin
      unfold tens at hfinH hsz
      clear hfin hd hD hDb hDs
      go_wp2_with fail
      all_goals go_ret
      all_goals exact ⟨by rw [hfinH.out]; rfl, rfl⟩
set_option maxRecDepth 100000 in
set_option maxHeartbeats 1000000 in
theorem Digits_any (n : Int) (h0 : -9223372036854775808 < n) (h1 : n ≤ 9223372036854775807) (w : World) :
    Calls Tryd.prog 42 #[.int .i64 n] w fun e w' => e = .returned (.string ⟨(Lib.itoa n).toArray⟩) ∧ w = w' := by
  by_cases hn : n < 0
  · have hit : Lib.itoa n = 45 :: Lib.decDigits n.natAbs := by unfold Lib.itoa; rw [if_pos hn]
    obtain ⟨m, hm⟩ : ∃ m : Nat, n.natAbs = m := ⟨_, rfl⟩
    rw [hm] at hit
    have e1 : IntKind.i64.wrap (-n) = (m : Int) := by rw [IntWalk.i64_in _ (by omega)]; omega
    have hn' : (n < 0) = True := eq_true hn
    have hne : (n == (m : Int)) = false := by rw [beq_eq_false_iff_ne]; omega
    have hlen := dec_lenR (n := m) (by omega)
    have ct := digN_any m (by omega) w
    obtain ⟨s, hs⟩ : ∃ s : ByteArray, (⟨(Lib.decDigits m).toArray⟩ : ByteArray) = s := ⟨_, rfl⟩
    have hss : s.size ≤ 20 := by rw [← hs]; simpa [ByteArray.size] using hlen
    rw [hs] at ct
    have hsz : (9223372036854775807 < 1 + s.size) = False := eq_false (by omega)
    have hfin : (⟨#[45]⟩ : ByteArray) ++ s = ⟨(Lib.itoa n).toArray⟩ := by
      refine ByteArray.ext (Array.toList_inj.1 ?_)
      rw [hit, ← hs, ByteArray.data_append, Array.toList_append]; rfl
    have ctH := Lib.hid ct
    have hfinH := Lib.hid hfin
    clear ct hfin hs hit hm hlen hn
    go_enter Tryd.func42, Tryd.ntmps42
    go_wp2_with fail
    refine ctH.out.mono ?_
    rintro e w1 ⟨rfl, rfl⟩
    go_wp2_with fail
    go_ret
    exact ⟨by rw [hfinH.out]; rfl, rfl⟩
  · obtain ⟨m, rfl⟩ : ∃ m : Nat, n = m := ⟨n.toNat, by omega⟩
    have hit : Lib.itoa (m : Int) = Lib.decDigits m := by unfold Lib.itoa; rw [if_neg hn]; simp
    rw [hit]
    exact digN_any m (by omega) w
/-! ### Number -/
def nbR (b : ByteArray) (w : World) (nV iV : Value) (wr : World) : Prop :=
  ∃ (k m : Nat), iV = .int .i64 k ∧ nV = .int .i64 m ∧ k ≤ b.size ∧ Lib.decFrom 0 (b.data.toList.take k) = some m ∧ m < 10 ^ k ∧ wr = w
theorem decFrom_bad : ∀ (l : List UInt8) (acc k : Nat) (b : UInt8), l[k]? = some b → Lib.digitVal b = none → Lib.decFrom acc l = none
  | [], _, _, _, h, _ => by simp at h
  | c :: l, acc, 0, b, h, hb => by
    simp at h; subst h
    rw [Lib.decFrom, hb]
  | c :: l, acc, k + 1, b, h, hb => by
    rw [Lib.decFrom]
    cases hc : Lib.digitVal c with
    | none => rfl
    | some d => exact decFrom_bad l _ k b (by simpa using h) hb
theorem digitVal_yes {b : UInt8} (h0 : 48 ≤ b.toNat) (h1 : b.toNat ≤ 57) : Lib.digitVal b = some (b.toNat - 48) := by unfold Lib.digitVal; rw [if_pos ⟨h0, h1⟩]
theorem digitVal_no {b : UInt8} (h : b.toNat < 48 ∨ 57 < b.toNat) : Lib.digitVal b = none := by unfold Lib.digitVal; rw [if_neg (by omega)]
theorem data_get {b : ByteArray} {k : Nat} (h : k < b.size) : b.data.toList[k]? = some (b[k]'h) := by
  have : b.size = b.data.size := rfl
  rw [Array.getElem?_toList, Array.getElem?_eq_getElem (by omega)]; rfl
/-- the number of what stands behind the sign -/
def numOfB (neg : Bool) (m : Nat) : Int := if neg = true then -(m : Int) else m
def retN (l : List UInt8) (w : World) (e : Ending) (w' : World) : Prop := ∃ n : Int, e = .returned (.tuple #[.int .i64 n, .bool (numR l).isSome]) ∧ (∀ m, numR l = some m → n = m) ∧ inRange n ∧ w = w'
end Go.Proofs.YtnhaoalcpbefoaaDoor
