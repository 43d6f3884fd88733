/- The proof of a statement, some of its texts joined in build order: part C. -/
import Derived.Test.YtljkojpooajlhaaDoorShJoin
import Derived.Test.YtljkojpooajlhaaDoorMathText
import Derived.Test.YtljkojpooajlhaaDoorOwn
import Derived.Test.YtljkojpooajlhaaDoorMsB
import Derived.Deep.RegionHeld3
import Derived.Test.YtljkojpooajlhaaDoorMath6
import Derived.Test.YtljkojpooajlhaaDoorRegion
import Derived.Deep.Cut
import Derived.Test.YtljkojpooajlhaaDoorWalkE
import Derived.Laws.Rows
import Derived.Test.YtljkojpooajlhaaDoorMsA
import Derived.Lib.AtoiAll
import Derived.Lib.Atoi
import Derived.Lib.IndexMore
import Derived.Lib.ItoaNum
import Derived.Test.YtljkojpooajlhaaDoorBld
import Derived.BigQuiet
import Derived.Lib.ItoaLen
import Derived.Lib.SplitLaws
import Derived.Test.YtljkojpooajlhaaDoorMathTok
import Derived.BigRegion
/- Walks: tongue.polish, arrows, brackets. -/
namespace Go.Proofs.YtljkojpooajlhaaDoor
open Go Go.RowKit Go.Maps

def toB (l : List UInt8) : ByteArray := ⟨l.toArray⟩
theorem toB_list (l : List UInt8) : (toB l).data.toList = l := rfl
theorem toB_data (b : ByteArray) : toB b.data.toList = b := rfl
theorem toB_append (l m : List UInt8) : toB l ++ toB m = toB (l ++ m) := by
  apply ByteArray.ext
  rw [ByteArray.data_append]
  simp [toB]
theorem toB_map (A : List (List UInt8)) : (A.map toB).map (·.data.toList) = A := by
  rw [List.map_map]
  exact (List.map_congr_left (fun _ _ => rfl)).trans (List.map_id _)
abbrev OwnSt3 (w : World) (base : Nat) (v : Value) (l : List ByteArray) : Prop := OwnL strE (fun _ => False) w base 9 v l
theorem infoStr3 : (Tryd.prog.info? 9).map (fun i => (i.zero, i.size, i.bytes)) = some (some (.string ByteArray.empty), 1, 16) := by kernel_rfl
theorem OwnSt3.one (w : World) (x : ByteArray) (hx : x.size ≤ big) : OwnSt3 (w.alloc (.cells #[.string x] 9)) w.heap.size (.slice (some ⟨w.heap.size, 0, none⟩) 1 1) [x] :=
  ⟨[[.string x]], ⟨by simp [strE], .inr ⟨w.heap.size, 1, #[.string x], rfl, Nat.le_refl _, heap_alloc_new w _, Nat.le_refl _, by decide, rfl, by simp [strE]⟩⟩, rfl, fun i h1 h2 => by
    have : i = 0 := by simp at h1; omega
    subst this
    exact ⟨rfl, hx⟩⟩
/-- a symbol's arguments, as strings -/
structure TArgs (S : Nat → Prop) (w : World) (a : Option Addr) (c : Nat) (A : List (List UInt8)) : Prop where
  sl : Sl strE S w a c (A.map toB)
  ln : A.length ≤ 3
  sz : (A.map (fun x => x.length + 4)).sum ≤ 10000
theorem joinTail_le {sep : List UInt8} (h : sep.length ≤ 4) (A : List (List UInt8)) : (Lib.joinTail sep A).length ≤ (A.map (fun x => x.length + 4)).sum := by
  rw [joinTail_len]
  induction A with
  | nil => simp
  | cons x r ih => simp only [List.map_cons, List.sum_cons]; omega
theorem join_le {sep : List UInt8} (h : sep.length ≤ 4) (A : List (List UInt8)) : (Lib.join A sep).length ≤ (A.map (fun x => x.length + 4)).sum := by
  refine Nat.le_trans (join_len_le sep A) ?_
  induction A with
  | nil => simp
  | cons x r ih => simp only [List.map_cons, List.sum_cons]; omega
theorem nm_cell {s : Sg} {n : Nat} (hn : n < s.length) : s[n].1 = toB (nmL s (n : Int)) := by
  unfold nmL
  rw [Int.toNat_natCast, List.getD_eq_getElem?_getD, List.getElem?_eq_getElem hn]; rfl
theorem keepT1 {W4 w1 w2 : World} {p : Addr} {v : Value} (h : Below W4.heap.size W4 w1 ∧ w1.cell? p = some v) (hb : Below w1.heap.size w1 w2) : Below W4.heap.size W4 w2 ∧ w2.cell? p = some v := ⟨bcall h.1 hb, cell_later hb h.2⟩
end Go.Proofs.YtljkojpooajlhaaDoor

/- Walks: the closure of tongue.written. -/
namespace Go.Proofs.YtljkojpooajlhaaDoor
open Go Go.RowKit Go.Maps

theorem gby_refl' (w : World) (row : Option Nat) : w.grownBy w row := ⟨rfl, rfl, rfl, Nat.le_refl _, fun _ _ _ => rfl⟩
theorem gby_trans' {a w w' : World} {row : Option Nat} (h : a.grownBy w row) (k : w.grownBy w' row) : a.grownBy w' row :=
  ⟨k.os.trans h.os, k.tape.trans h.tape, k.output.trans h.output, Nat.le_trans h.size k.size, fun i hi hr => (k.block i (Nat.lt_of_lt_of_le hi h.size) hr).trans (h.block i hi hr)⟩
theorem gby_below' {w w' : World} {row : Option Nat} (hb : Below w.heap.size w w') : w.grownBy w' row := ⟨hb.os, hb.tape, hb.output, hb.size, fun i hi _ => hb.block i hi⟩
theorem gby_more {W w1 w' : World} {row r : Option Nat} (h : W.grownBy w1 row) (hg : w1.grownBy w' r) (hr : ∀ j, r = some j → W.heap.size ≤ j) : W.grownBy w' row :=
  ⟨hg.os.trans h.os, hg.tape.trans h.tape, hg.output.trans h.output, Nat.le_trans h.size hg.size, fun i hi hn => (hg.block i (Nat.lt_of_lt_of_le hi h.size) (fun e => by have := hr i e.symm; omega)).trans (h.block i hi hn)⟩
theorem gby_cell {W w' : World} {b : Nat} (h : W.grownBy w' (some b)) {p : Addr} {v : Value} (hp : W.cell? p = some v) (hne : p.block ≠ b) : w'.cell? p = some v :=
  (World.cell?_of_block (h.block _ (World.block_lt_of_cell? _ _ hp) (fun e => hne (by injection e with e)))).trans hp
def AtBox (w : World) (ba p : Nat) : Prop := w.heap[ba]? = some (.cells #[.int .i64 (p : Int)] 3 (0, 0))
theorem AtBox.cell {w : World} {ba p : Nat} (h : AtBox w ba p) : w.cell? ⟨ba, 0, none⟩ = some (.int .i64 (p : Int)) := by simp [World.cell?, show w.heap[ba]? = _ from h]
theorem AtBox.frozen {w : World} {ba p : Nat} (h : AtBox w ba p) : w.frozen? ⟨ba, 0, none⟩ = false := by simp [World.frozen?, show w.heap[ba]? = _ from h]
theorem AtBox.lt {w : World} {ba p : Nat} (h : AtBox w ba p) : ba < w.heap.size := (Array.getElem?_eq_some_iff.1 h).1
theorem AtBox.set {w : World} {ba p : Nat} (h : AtBox w ba p) (q : Nat) : AtBox (w.setCell ⟨ba, 0, none⟩ (.int .i64 (q : Int))) ba q := by
  unfold AtBox
  simp [World.setCell, Array.getElem?_modify, show w.heap[ba]? = _ from h]
theorem AtBox.below {w w' : World} {ba p : Nat} (h : AtBox w ba p) (hb : Below w.heap.size w w') : AtBox w' ba p := (hb.block ba h.lt).trans h
theorem AtBox.kept {w w' : World} {ba p : Nat} {r : Option Nat} (h : AtBox w ba p) (hg : w.grownBy w' r) (hr : r ≠ some ba) : AtBox w' ba p := (hg.block ba h.lt (fun e => hr e.symm)).trans h
theorem gby_setAt (w : World) (b : Nat) (v : Value) : w.grownBy (w.setCell ⟨b, 0, none⟩ v) (some b) :=
  ⟨rfl, rfl, rfl, by simp [World.setCell], fun k _ hk => Below.heap_setCell _ _ _ _ (fun e => hk (by simp [e]))⟩
def wrRet (k : Nat) (W : World) (ba p : Nat) (s : Sg) (u : List Int) (e : Ending) (w' : World) : Prop := e = .returned (.string (toB (txt k s u))) ∧ W.grownBy w' (some ba) ∧ AtBox w' ba (p + u.length)
theorem splitK_get {s : Sg} : ∀ {k m : Nat} {l l' : List Int} (_ : skip s k l = some l') (_ : k < m), (splitK s m l)[k]? = some (partAt s l')
  | _, 0, _, _, _, hm => by omega
  | 0, m + 1, l, l', h, _ => by
    rw [skip_zero] at h
    cases h
    simp [splitK]
  | k + 1, m + 1, l, l', h, hm => by
    obtain ⟨x, h1, h2⟩ := skip_one h
    rw [splitK, h1]
    simpa using splitK_get h2 (show k < m by omega)
theorem part_rest {s : Sg} {t r : List Int} {p : Nat} (h : skip s 1 (t.drop p) = some r) (hp : p ≤ t.length) : r = t.drop (p + (partAt s (t.drop p)).length) ∧ p + (partAt s (t.drop p)).length ≤ t.length ∧ 1 ≤ (partAt s (t.drop p)).length := by
  obtain ⟨h1, -, h3⟩ := partAt_eq h
  obtain ⟨u, hu⟩ : ∃ u, partAt s (t.drop p) = u := ⟨_, rfl⟩
  rw [hu] at h1 h3 ⊢
  refine ⟨?_, ?_, h3⟩
  · rw [← List.drop_drop, h1, List.drop_append_of_le_length (Nat.le_refl _), List.drop_length, List.nil_append]
  · have := congrArg List.length h1
    rw [List.length_drop, List.length_append] at this
    omega
theorem skip_stepK {s : Sg} {k m : Nat} {l l' r : List Int} (h : skip s k l = some l') (ht : skip s m l = some r) (hk : k < m) : ∃ l2, skip s 1 l' = some l2 ∧ skip s (k + 1) l = some l2 := by
  rw [show m = k + (m - k) by omega, skip_add, h, Option.bind_some, show m - k = (m - k - 1) + 1 by omega] at ht
  obtain ⟨l2, h1, -⟩ := skip_one ht
  exact ⟨l2, h1, by rw [skip_add, h, Option.bind_some, h1]⟩
def wrRel (k : Nat) (s : Sg) (t : List Int) (p m ba : Nat) (W2 : World) (out i : Value) (wr : World) : Prop :=
  ∃ (j p' : Nat) (A : List (List UInt8)), i = .int .i64 j ∧ j ≤ m ∧ A = ((splitK s m (t.drop (p + 1))).take j).map (txt k s) ∧ skip s j (t.drop (p + 1)) = some (t.drop p') ∧ p + 1 ≤ p' ∧ p' ≤ t.length ∧ OwnSt3 wr W2.heap.size out (A.map toB) ∧ W2.grownBy wr (some ba) ∧ AtBox wr ba p'
end Go.Proofs.YtljkojpooajlhaaDoor

/- Walks: tongue.written, Write; awake of the laws on tongues. -/
namespace Go.Proofs.YtljkojpooajlhaaDoor
open Go Go.RowKit Go.Maps

theorem part_neg {s : Sg} {t r : List Int} {p : Nat} (h : skip s 1 (t.drop p) = some r) (hp : p < t.length) (hn : t[p] < 0) : partAt s (t.drop p) = [t[p]] := by
  obtain ⟨_, hc, hs⟩ := skip_drop (k := 0) h
  rw [ar_neg hn, Nat.zero_add, skip_zero] at hs
  have hr := Option.some.inj hs
  unfold partAt
  rw [h, Option.getD_some, ← hr, List.length_drop, List.length_drop, show t.length - p - (t.length - (p + 1)) = 1 by omega, List.drop_eq_getElem_cons hp]
  rfl
/-- a term written in a tongue -/
def writeE (s : Sg) (k : Int) (t : List Int) : List UInt8 × Int := if okT s t = true then (if (decide (1 ≤ k) && decide (k ≤ 3)) = true then (txt k.toNat s t, 0) else ([], 7)) else ([], 1)
theorem writeE_len {s : Sg} {k : Int} {t : List Int} : (writeE s k t).1.length ≤ 1440 := by
  unfold writeE
  split
  · rename_i h
    split
    · have := txt_len (k := k.toNat) t.length h (Nat.le_refl _)
      have := (okT_parts h).2.2.1
      simp only; omega
    · simp
  · simp
end Go.Proofs.YtljkojpooajlhaaDoor

/- Proofs as texts, in plain words: what Format writes and what Parse reads, of both. No program is named. -/
namespace Go.Proofs.YtljkojpooajlhaaDoor

/-- the parts of a text between single marks -/
def wordsB (m : UInt8) : List UInt8 → List (List UInt8)
  | [] => [[]]
  | c :: r => if c = m then [] :: wordsB m r else match wordsB m r with | [] => [[c]] | w :: ws => (c :: w) :: ws
theorem wordsB_ne (m : UInt8) : ∀ l, wordsB m l ≠ []
  | [] => by simp [wordsB]
  | c :: r => by
    rw [wordsB]
    split
    · simp
    · split <;> simp
theorem wordsB_no {m : UInt8} : ∀ {l : List UInt8}, m ∉ l → wordsB m l = [l]
  | [], _ => rfl
  | c :: r, h => by
    rw [List.mem_cons, not_or] at h
    rw [wordsB, if_neg (fun e => h.1 e.symm), wordsB_no h.2]
theorem wordsB_at {m : UInt8} : ∀ {l r : List UInt8}, m ∉ l → wordsB m (l ++ m :: r) = l :: wordsB m r
  | [], r, _ => by rw [List.nil_append, wordsB, if_pos rfl]
  | c :: l, r, h => by
    rw [List.mem_cons, not_or] at h
    rw [List.cons_append, wordsB, if_neg (fun e => h.1 e.symm), wordsB_at h.2]
/-- put together again -/
def joinM (m : UInt8) : List (List UInt8) → List UInt8
  | [] => []
  | [w] => w
  | w :: v :: ws => w ++ m :: joinM m (v :: ws)
theorem joinM_words (m : UInt8) : ∀ l, joinM m (wordsB m l) = l
  | [] => rfl
  | c :: r => by
    have ih := joinM_words m r
    have hn := wordsB_ne m r
    rw [wordsB]
    by_cases h : c = m
    · rw [if_pos h]
      cases hw : wordsB m r with
      | nil => exact (hn hw).elim
      | cons v ws => rw [hw] at ih; rw [joinM, ih, List.nil_append, h]
    · rw [if_neg h]
      cases hw : wordsB m r with
      | nil => exact (hn hw).elim
      | cons v ws =>
        rw [hw] at ih
        simp only
        cases ws with
        | nil => rw [joinM] at ih ⊢; rw [ih]
        | cons u ws => rw [joinM] at ih ⊢; rw [List.cons_append, ih]
theorem words_no {m : UInt8} : ∀ {l : List UInt8} {w : List UInt8}, w ∈ wordsB m l → m ∉ w
  | [], w, h => by simp [wordsB] at h; subst h; simp
  | c :: r, w, h => by
    rw [wordsB] at h
    by_cases e : c = m
    · rw [if_pos e, List.mem_cons] at h
      rcases h with h | h
      · subst h; simp
      · exact words_no h
    · rw [if_neg e] at h
      cases hw : wordsB m r with
      | nil => exact (wordsB_ne m r hw).elim
      | cons v ws =>
        rw [hw] at h
        simp only [List.mem_cons] at h
        rcases h with h | h
        · subst h
          have := words_no (m := m) (l := r) (w := v) (by rw [hw]; simp)
          rw [List.mem_cons, not_or]; exact ⟨fun e' => e e'.symm, this⟩
        · exact words_no (l := r) (by rw [hw]; simp [h])

/-- a text as a number, as the reference reads it -/
def bodyL (l : List UInt8) : List UInt8 := if l.head? = some 45 then l.tail else l
def sgnL (l : List UInt8) (m : Nat) : Int := if l.head? = some 45 then -(m : Int) else m
def numR (l : List UInt8) : Option Int :=
  if (bodyL l).length < 1 ∨ 18 < (bodyL l).length then none
  else match Lib.decFrom 0 (bodyL l) with
    | none => none
    | some m => if Lib.itoa (sgnL l m) = l then some (sgnL l m) else none
theorem numR_itoa {l : List UInt8} {n : Int} (h : numR l = some n) : Lib.itoa n = l := by
  unfold numR at h
  by_cases h1 : (bodyL l).length < 1 ∨ 18 < (bodyL l).length
  · rw [if_pos h1] at h; cases h
  · rw [if_neg h1] at h
    cases hd : Lib.decFrom 0 (bodyL l) with
    | none => rw [hd] at h; cases h
    | some m =>
      rw [hd] at h
      simp only at h
      by_cases h2 : Lib.itoa (sgnL l m) = l
      · rw [if_pos h2] at h; injection h with h; rw [← h]; exact h2
      · rw [if_neg h2] at h; cases h
def smD (n : Nat) : List UInt8 := if n < 10 then [UInt8.ofNat (48 + n)] else [UInt8.ofNat (48 + n / 10), UInt8.ofNat (48 + n % 10)]
theorem itoa_sm {n : Nat} (h : n < 100) : Lib.itoa (n : Int) = smD n := by
  have : Lib.itoa (n : Int) = Lib.decDigits n := by unfold Lib.itoa; rw [if_neg (by omega)]; simp
  rw [this]
  unfold smD
  by_cases h1 : n < 10
  · rw [if_pos h1, Lib.decDigits_one h1]
  · rw [if_neg h1, Lib.decDigits_two h1 h]
theorem smD_facts : ∀ n : Fin 60, (smD n.1).head? ≠ some 45 ∧ 1 ≤ (smD n.1).length ∧ (smD n.1).length ≤ 2 ∧ Lib.decFrom 0 (smD n.1) = some n.1 ∧ Lib.atoiAll (smD n.1) = .ok (n.1 : Int) ∧ (32 : UInt8) ∉ smD n.1 ∧ (10 : UInt8) ∉ smD n.1 := by decide +kernel
theorem numR_sm {n : Nat} (h : n < 60) : numR (smD n) = some (n : Int) := by
  obtain ⟨h1, h2, h3, h4, -⟩ := smD_facts ⟨n, h⟩
  simp only at h1 h2 h3 h4
  have hb : bodyL (smD n) = smD n := by unfold bodyL; rw [if_neg h1]
  have hs : sgnL (smD n) n = (n : Int) := by unfold sgnL; rw [if_neg h1]
  unfold numR
  rw [hb, if_neg (by omega), h4]
  simp only
  rw [hs, itoa_sm (by omega), if_pos rfl]
/-- what Atoi makes of a text -/
def atoiV (l : List UInt8) : Int := match Lib.atoiAll l with | .ok v => v | .range => Lib.atoiSat l | _ => 0
theorem atoiV_sm {n : Nat} (h : n < 60) : atoiV (smD n) = (n : Int) := by
  unfold atoiV; rw [(smD_facts ⟨n, h⟩).2.2.2.2.1]

def citeW : List UInt8 := [99, 105, 116, 101]
def detW : List UInt8 := [100, 101, 116, 97, 99, 104]
/-- a step's line, without its end -/
def lineB (x : Stp) : List UInt8 := if x.1 = 1 then citeW ++ 32 :: Lib.itoa x.2.1 else detW ++ 32 :: (Lib.itoa x.2.1 ++ 32 :: Lib.itoa x.2.2)
def lineT (x : Stp) : List UInt8 := lineB x ++ [10]
/-- what the reference makes of a line -/
def refX (l : List UInt8) : Stp :=
  match (wordsB 32 l).tail.mapM numR with
  | some [a] => if (wordsB 32 l).headD [] = citeW then (1, a, 0) else (0, 0, 0)
  | some [a, b] => if (wordsB 32 l).headD [] = detW then (2, a, b) else (0, 0, 0)
  | _ => (0, 0, 0)
/-- what the program makes of a line -/
def cut32 (l : List UInt8) : List UInt8 × List UInt8 × Bool := Lib.cut l [32]
def progX (l : List UInt8) : Stp :=
  if (cut32 l).1 = detW ∧ (cut32 (cut32 l).2.1).2.2 = true then (2, atoiV (cut32 (cut32 l).2.1).1, atoiV (cut32 (cut32 l).2.1).2.1) else (1, atoiV (cut32 (cut32 l).2.1).1, 0)
theorem index_no {m : UInt8} : ∀ {l : List UInt8}, m ∉ l → Lib.index l [m] = -1
  | [], _ => rfl
  | c :: r, h => by
    rw [List.mem_cons, not_or] at h
    have hc : (m == c) = false := by rw [beq_eq_false_iff_ne]; exact h.1
    unfold Lib.index
    rw [index_no h.2]
    simp [List.isPrefixOf, hc]
theorem index_at {m : UInt8} : ∀ {l r : List UInt8}, m ∉ l → Lib.index (l ++ m :: r) [m] = l.length
  | [], r, _ => by unfold Lib.index; simp [List.isPrefixOf]
  | c :: l, r, h => by
    rw [List.mem_cons, not_or] at h
    have hc : (m == c) = false := by rw [beq_eq_false_iff_ne]; exact h.1
    rw [List.cons_append]
    unfold Lib.index
    rw [index_at h.2]
    simp [List.isPrefixOf, hc]
    try omega
theorem cut_no {m : UInt8} {l : List UInt8} (h : m ∉ l) : Lib.cut l [m] = (l, [], false) := by
  unfold Lib.cut; rw [index_no h]; rfl
theorem cut_at {m : UInt8} {l r : List UInt8} (h : m ∉ l) : Lib.cut (l ++ m :: r) [m] = (l, r, true) := by
  unfold Lib.cut
  rw [index_at h, if_pos (by omega)]
  simp
theorem right_form {i : Nat} {x : Stp} (h : rightB 60 i x = true) (hi : i ≤ 60) : (∃ a : Nat, a < 60 ∧ x = (1, (a : Int), 0)) ∨ (∃ a b : Nat, a < 60 ∧ b < 60 ∧ x = (2, (a : Int), (b : Int))) := by
  by_cases h1 : x.1 = 1
  · obtain ⟨c1, c2, c3⟩ := rightB_cite h h1
    exact .inl ⟨x.2.1.toNat, by omega, Prod.ext h1 (Prod.ext (by simp only; omega) c3)⟩
  · obtain ⟨d0, d1, d2, d3, d4⟩ := rightB_detach h h1
    exact .inr ⟨x.2.1.toNat, x.2.2.toNat, by omega, by omega, Prod.ext d0 (Prod.ext (by simp only; omega) (by simp only; omega))⟩
theorem lineB_cite {a : Nat} (h : a < 60) : lineB (1, (a : Int), 0) = citeW ++ 32 :: smD a := by
  unfold lineB; rw [if_pos rfl, itoa_sm (by omega)]
theorem lineB_det {a b : Nat} (h : a < 60) (k : b < 60) : lineB (2, (a : Int), (b : Int)) = detW ++ 32 :: (smD a ++ 32 :: smD b) := by
  unfold lineB; rw [if_neg (by simp), itoa_sm (by omega), itoa_sm (by omega)]
theorem refX_line {i : Nat} {x : Stp} (h : rightB 60 i x = true) (hi : i ≤ 60) : refX (lineB x) = x := by
  rcases right_form h hi with ⟨a, ha, rfl⟩ | ⟨a, b, ha, hb, rfl⟩
  · have f := smD_facts ⟨a, ha⟩
    unfold refX
    rw [lineB_cite ha, wordsB_at (by decide), wordsB_no f.2.2.2.2.2.1]
    simp only [List.tail_cons, List.headD_cons, List.mapM_cons, List.mapM_nil, numR_sm ha]
    rfl
  · have f := smD_facts ⟨a, ha⟩
    have g := smD_facts ⟨b, hb⟩
    unfold refX
    rw [lineB_det ha hb, wordsB_at (by decide), wordsB_at f.2.2.2.2.2.1, wordsB_no g.2.2.2.2.2.1]
    simp only [List.tail_cons, List.headD_cons, List.mapM_cons, List.mapM_nil, numR_sm ha, numR_sm hb]
    rfl
theorem progX_line {i : Nat} {x : Stp} (h : rightB 60 i x = true) (hi : i ≤ 60) : progX (lineB x) = x := by
  rcases right_form h hi with ⟨a, ha, rfl⟩ | ⟨a, b, ha, hb, rfl⟩
  · have f := smD_facts ⟨a, ha⟩
    unfold progX cut32
    rw [lineB_cite ha, cut_at (by decide)]
    simp only
    rw [cut_no f.2.2.2.2.2.1, if_neg (by simp), atoiV_sm ha]
  · have f := smD_facts ⟨a, ha⟩
    unfold progX cut32
    rw [lineB_det ha hb, cut_at (by decide)]
    simp only
    rw [cut_at f.2.2.2.2.2.1, if_pos (by simp), atoiV_sm ha, atoiV_sm hb]
theorem mapM_one {a : Int} : ∀ {l : List (List UInt8)}, l.mapM numR = some [a] → ∃ w, l = [w] ∧ numR w = some a
  | [], h => by simp at h
  | w :: l, h => by
    rw [List.mapM_cons] at h
    cases hw : numR w with
    | none => rw [hw] at h; simp at h
    | some v =>
      cases hl : l.mapM numR with
      | none => rw [hw, hl] at h; simp at h
      | some vs =>
        rw [hw, hl] at h
        simp at h
        obtain ⟨rfl, rfl⟩ := h
        cases l with
        | nil => exact ⟨w, rfl, hw⟩
        | cons u l =>
          rw [List.mapM_cons] at hl
          cases hu : numR u with
          | none => rw [hu] at hl; simp at hl
          | some v' =>
            cases hl2 : l.mapM numR with
            | none => rw [hu, hl2] at hl; simp at hl
            | some vs' => rw [hu, hl2] at hl; simp at hl
theorem mapM_two {a b : Int} {l : List (List UInt8)} (h : l.mapM numR = some [a, b]) : ∃ w u, l = [w, u] ∧ numR w = some a ∧ numR u = some b := by
  cases l with
  | nil => simp at h
  | cons w l =>
    rw [List.mapM_cons] at h
    cases hw : numR w with
    | none => rw [hw] at h; simp at h
    | some v =>
      cases hl : l.mapM numR with
      | none => rw [hw, hl] at h; simp at h
      | some vs =>
        rw [hw, hl] at h
        simp at h
        obtain ⟨rfl, rfl⟩ := h
        obtain ⟨u, rfl, hu⟩ := mapM_one hl
        exact ⟨w, u, rfl, hw, hu⟩
theorem refX_back {i : Nat} {l : List UInt8} (h : rightB 60 i (refX l) = true) : lineB (refX l) = l := by
  have hz : rightB 60 i (0, 0, 0) = true → False := fun h => by simp [rightB] at h
  have hj := joinM_words 32 l
  unfold refX at h ⊢
  split
  · rename_i a hm
    rw [hm] at h
    simp only at h
    obtain ⟨w, hw, hn⟩ := mapM_one hm
    split
    · rename_i hc
      cases hwl : wordsB 32 l with
      | nil => exact (wordsB_ne _ _ hwl).elim
      | cons v ws =>
        rw [hwl] at hj hw hc
        simp only [List.tail_cons, List.headD_cons] at hw hc
        subst hw hc
        rw [joinM, joinM] at hj
        unfold lineB
        rw [if_pos rfl, numR_itoa hn]
        exact hj
    · rename_i hc; rw [if_neg hc] at h; exact (hz h).elim
  · rename_i a b hm
    rw [hm] at h
    simp only at h
    obtain ⟨w, u, hw, hn, hu⟩ := mapM_two hm
    split
    · rename_i hc
      cases hwl : wordsB 32 l with
      | nil => exact (wordsB_ne _ _ hwl).elim
      | cons v ws =>
        rw [hwl] at hj hw hc
        simp only [List.tail_cons, List.headD_cons] at hw hc
        subst hw hc
        rw [joinM, joinM, joinM] at hj
        unfold lineB
        rw [if_neg (by simp), numR_itoa hn, numR_itoa hu]
        exact hj
    · rename_i hc; rw [if_neg hc] at h; exact (hz h).elim
  · rename_i h1 h2
    split at h
    · rename_i a hm; exact (h1 a hm).elim
    · rename_i a b hm; exact (h2 a b hm).elim
    · exact (hz h).elim
/-- both take a line alike -/
theorem line_both {i : Nat} {l : List UInt8} (hi : i ≤ 60) : (rightB 60 i (progX l) = true ∧ lineB (progX l) = l) ↔ rightB 60 i (refX l) = true := by
  constructor
  · rintro ⟨h1, h2⟩
    have := refX_line h1 hi
    rw [h2] at this
    rw [this]; exact h1
  · intro h
    have h2 := refX_back h
    have h3 := progX_line h hi
    rw [h2] at h3
    rw [h3]; exact ⟨h, h2⟩
theorem line_same {i : Nat} {l : List UInt8} (hi : i ≤ 60) (h : rightB 60 i (refX l) = true) : progX l = refX l := by
  have h2 := refX_back h
  have h3 := progX_line h hi
  rwa [h2] at h3
/-- the lines, one behind the other -/
def parseL : List (List UInt8) → Nat → List Stp → List Stp × Nat × Int
  | [], i, _ => ([], i, 2)
  | [l], i, acc => if l = [] ∧ acc ≠ [] then (acc, 0, 0) else ([], i, 2)
  | l :: v :: r, i, acc => if i < 60 ∧ rightB 60 i (refX l) = true then parseL (v :: r) (i + 1) (acc ++ [refX l]) else ([], i, 2)
def parseE (t : List UInt8) : List Stp × Nat × Int := if t.length ≤ 65536 then parseL (wordsB 10 t) 0 [] else ([], 0, 3)
def formatE (p : List Stp) : List UInt8 := if validP 60 p = true then p.flatMap lineT else []
end Go.Proofs.YtljkojpooajlhaaDoor

/- A tree's text read back: what the read proof has and says. No program is named. -/
namespace Go.Proofs.YtljkojpooajlhaaDoor

def insT : List Stp → Tr → List Stp × Nat
  | p, .g n => addP p (1, (n : Int), 0)
  | p, .d a b => addP (insT (insT p a).1 b).1 (2, ((insT p a).2 : Int), ((insT (insT p a).1 b).2 : Int))
theorem untR_cite {G : Int} {n : Nat} (hn : (n : Int) < G) (h100 : n < 100) (r : List UInt8) (st : List (Option Nat)) (p : List Stp) :
    untR G ((Tr.g n).text ++ r) st p none = untR G r (closeP st (addP p (1, (n : Int), 0)).1 (addP p (1, (n : Int), 0)).2).1 (closeP st (addP p (1, (n : Int), 0)).1 (addP p (1, (n : Int), 0)).2).2.1 (closeP st (addP p (1, (n : Int), 0)).1 (addP p (1, (n : Int), 0)).2).2.2 := by
  obtain ⟨h1, h2, h3⟩ := num_digs h100
  rw [Tr.text, digs, List.cons_append, List.cons_append, List.cons_append, List.nil_append, untR_g, if_pos ⟨h1, h2, by rw [h3]; exact hn⟩, h3]
theorem untR_text {G : Int} : ∀ (t : Tr), (∀ n ∈ t.leaves, (n : Int) < G ∧ n < 100) → ∀ (r : List UInt8) (st : List (Option Nat)) (p : List Stp),
    untR G (t.text ++ r) st p none = untR G r (closeP st (insT p t).1 (insT p t).2).1 (closeP st (insT p t).1 (insT p t).2).2.1 (closeP st (insT p t).1 (insT p t).2).2.2
  | .g n, h, r, st, p => untR_cite (h n (by simp [Tr.leaves])).1 (h n (by simp [Tr.leaves])).2 r st p
  | .d a b, h, r, st, p => by
    rw [Tr.text, List.cons_append, untR_D, List.append_assoc, untR_text a (fun n hn => h n (by simp [Tr.leaves, hn])), closeP]
    simp only
    rw [untR_text b (fun n hn => h n (by simp [Tr.leaves, hn])), closeP]
    rfl
structure InsT (G : Int) (p : List Stp) (t : Tr) (p' : List Stp) (k : Nat) : Prop where
  nd : p'.Nodup
  ok : okSteps G 0 p' = true
  pre : p <+: p'
  lt : k < p'.length
  tr : (trees p').getD k (.g 0) = t
  all : ∀ u ∈ trees p', u ∈ trees p ∨ u ∈ t.subs
  new : t ∉ trees p → k + 1 = p'.length
theorem Tr.subs_le {u : Tr} : ∀ {t : Tr}, u ∈ t.subs → u.text.length ≤ t.text.length
  | .g n, h => by rw [Tr.subs, List.mem_singleton] at h; rw [h]; exact Nat.le_refl _
  | .d a b, h => by
    rw [Tr.subs, List.mem_cons, List.mem_append] at h
    rcases h with h | h | h
    · rw [h]; exact Nat.le_refl _
    · have := Tr.subs_le h; simp only [Tr.text, List.length_cons, List.length_append]; omega
    · have := Tr.subs_le h; simp only [Tr.text, List.length_cons, List.length_append]; omega
theorem pre_trees {p p' : List Stp} (h : p <+: p') : ∃ us, trees p' = trees p ++ us := by
  obtain ⟨q, rfl⟩ := h
  exact trees_more q p
theorem insT_spec {G : Int} : ∀ (t : Tr) (p : List Stp), (∀ n ∈ t.leaves, (n : Int) < G) → p.Nodup → okSteps G 0 p = true → InsT G p t (insT p t).1 (insT p t).2
  | .g n, p, h, nd, ok => by
    have hS := addP_spec nd ok (right_cite (i := p.length) (h n (by simp [Tr.leaves])))
    have htr := hS.tr
    rw [trS_cite] at htr
    exact ⟨hS.nd, hS.ok, hS.pre, hS.lt, htr, fun u hu => by
      rcases hS.all u hu with k | k
      · exact .inl k
      · rw [trS_cite] at k; exact .inr (by rw [k]; simp [Tr.subs]), fun hn => hS.new fun hm => hn (by have := mem_trees ok hm; rwa [trS_cite] at this)⟩
  | .d a b, p, h, nd, ok => by
    have ha := insT_spec a p (fun n hn => h n (by simp [Tr.leaves, hn])) nd ok
    have hb := insT_spec b (insT p a).1 (fun n hn => h n (by simp [Tr.leaves, hn])) ha.nd ha.ok
    rw [insT]
    have hka : (insT p a).2 < (insT (insT p a).1 b).1.length := Nat.lt_of_lt_of_le ha.lt hb.pre.length_le
    have hS := addP_spec hb.nd hb.ok (right_det (G := G) hka hb.lt)
    obtain ⟨us, hus⟩ := pre_trees hb.pre
    have hta : (trees (insT (insT p a).1 b).1).getD (insT p a).2 (.g 0) = a := by
      rw [hus, getD_more _ (by rw [trees_len]; exact ha.lt)]; exact ha.tr
    have hx : trS (trees (insT (insT p a).1 b).1) (2, ((insT p a).2 : Int), ((insT (insT p a).1 b).2 : Int)) = .d a b := by rw [trS_det, hta, hb.tr]
    have htr := hS.tr
    rw [hx] at htr
    refine ⟨hS.nd, hS.ok, ha.pre.trans (hb.pre.trans hS.pre), hS.lt, htr, fun u hu => ?_, fun hn => hS.new fun hm => ?_⟩
    rotate_left
    · have hm := mem_trees hb.ok hm
      rw [hx] at hm
      rcases hb.all _ hm with k | k
      · rcases ha.all _ k with k | k
        · exact hn k
        · have := Tr.subs_le k; simp only [Tr.text, List.length_cons, List.length_append] at this; omega
      · have := Tr.subs_le k; simp only [Tr.text, List.length_cons, List.length_append] at this; omega
    rcases hS.all u hu with k | k
    · rcases hb.all u k with k | k
      · rcases ha.all u k with k | k
        · exact .inl k
        · right; simp [Tr.subs, k]
      · right; simp [Tr.subs, k]
    · rw [hx] at k; right; rw [k]; exact Tr.sub_self _

/-- the tree's leaves are givens -/
theorem leaves_ok {G : Int} {p : List Stp} (h : okSteps G 0 p = true) : ∀ (k : Nat) (_ : k < p.length), ∀ n ∈ ((trees p).getD k (.g 0)).leaves, (n : Int) < G := by
  intro k
  induction k using Nat.strongRecOn with
  | _ k ih =>
    intro hk n hn
    rw [trees_at h k hk] at hn
    have hr := okS_get p 0 k hk h
    rw [Nat.zero_add] at hr
    unfold trS at hn
    by_cases h2 : p[k].1 = 2
    · obtain ⟨-, d1, d2, d3, d4⟩ := rightB_detach hr (by omega)
      rw [if_pos h2, Tr.leaves, List.mem_append] at hn
      rcases hn with hn | hn
      · exact ih _ (by omega) (by omega) n hn
      · exact ih _ (by omega) (by omega) n hn
    · have h1 : p[k].1 = 1 := by
        rcases Classical.em (p[k].1 = 1) with e | e
        · exact e
        · exact (h2 (rightB_detach hr e).1).elim
      obtain ⟨c1, c2, -⟩ := rightB_cite hr h1
      rw [if_neg h2, Tr.leaves, List.mem_singleton] at hn
      subst hn; omega
/-- which steps are needed by the step k -/
inductive Nd (p : List Stp) : Nat → Nat → Prop where
  | self (k : Nat) : Nd p k k
  | a {k j : Nat} (hk : k < p.length) (h2 : p[k].1 = 2) (h : Nd p p[k].2.1.toNat j) : Nd p k j
  | b {k j : Nat} (hk : k < p.length) (h2 : p[k].1 = 2) (h : Nd p p[k].2.2.toNat j) : Nd p k j
/-- each part of a step's tree is the tree of a step that it needs -/
theorem subs_nd {G : Int} {p : List Stp} (h : okSteps G 0 p = true) : ∀ (k : Nat) (_ : k < p.length), ∀ u ∈ ((trees p).getD k (.g 0)).subs, ∃ j, ∃ _ : j < p.length, Nd p k j ∧ (trees p).getD j (.g 0) = u := by
  intro k
  induction k using Nat.strongRecOn with
  | _ k ih =>
    intro hk u hu
    have ht := trees_at h k hk
    have hr := okS_get p 0 k hk h
    rw [Nat.zero_add] at hr
    unfold trS at ht
    by_cases h2 : p[k].1 = 2
    · obtain ⟨-, d1, d2, d3, d4⟩ := rightB_detach hr (by omega)
      rw [if_pos h2] at ht
      rw [ht, Tr.subs, List.mem_cons, List.mem_append] at hu
      rcases hu with hu | hu | hu
      · exact ⟨k, hk, .self k, by rw [hu, ht]⟩
      · obtain ⟨j, hj, n1, n2⟩ := ih _ (by omega) (by omega) u hu
        exact ⟨j, hj, .a hk h2 n1, n2⟩
      · obtain ⟨j, hj, n1, n2⟩ := ih _ (by omega) (by omega) u hu
        exact ⟨j, hj, .b hk h2 n1, n2⟩
    · rw [if_neg h2] at ht
      rw [ht, Tr.subs, List.mem_singleton] at hu
      exact ⟨k, hk, .self k, by rw [hu, ht]⟩

/-! ### what trees say -/
noncomputable def sayT (s : Sg) (g : List (List Int)) : Tr → List Int × Int
  | .g n => (canon (g.getD n []), 0)
  | .d a b => detE s (sayT s g a).1 (sayT s g b).1
theorem stepE_tree {s : Sg} {g l : List (List Int)} {ts : List Tr} {x : Stp} {G : Int} (hx : rightB G ts.length x = true) (hl : l = ts.map (fun t => (sayT s g t).1)) : stepE s g l x = sayT s g (trS ts x) := by
  unfold stepE trS
  by_cases h1 : x.1 = 1
  · rw [if_pos h1, if_neg (by omega)]; rfl
  · obtain ⟨h2, d1, d2, d3, d4⟩ := rightB_detach hx h1
    rw [if_neg h1, if_pos h2, sayT, hl]
    have e : ∀ n, n < ts.length → (ts.map (fun t => (sayT s g t).1)).getD n [] = (sayT s g (ts.getD n (.g 0))).1 := fun n hn => by
      rw [List.getD_eq_getElem?_getD, List.getD_eq_getElem?_getD, List.getElem?_map, List.getElem?_eq_getElem hn]; rfl
    rw [e _ (by omega), e _ (by omega)]
theorem trL_pre : ∀ (p : List Stp) (ts : List Tr), ts <+: trL p ts
  | [], _ => List.prefix_refl _
  | _ :: p, _ => (List.prefix_append _ _).trans (trL_pre p _)
theorem runL_of {s : Sg} {g : List (List Int)} {G : Int} : ∀ (p : List Stp) (ts : List Tr), okSteps G ts.length p = true → (∀ t ∈ trL p ts, (sayT s g t).2 = 0) → runL s g p (ts.map (fun t => (sayT s g t).1)) = ((trL p ts).map (fun t => (sayT s g t).1), 0)
  | [], ts, _, _ => rfl
  | x :: p, ts, h, ha => by
    simp only [okSteps, Bool.and_eq_true] at h
    have hx : (sayT s g (trS ts x)).2 = 0 := ha _ ((trL_pre p (ts ++ [trS ts x])).subset (by simp))
    rw [runL, trL, stepE_tree h.1 rfl, if_pos hx]
    have ih := runL_of p (ts ++ [trS ts x]) (by rw [List.length_append, List.length_singleton]; exact h.2) ha
    rw [List.map_append, List.map_singleton] at ih
    exact ih
theorem runL_all {s : Sg} {g : List (List Int)} {G : Int} : ∀ (p : List Stp) (ts : List Tr), okSteps G ts.length p = true → (∀ t ∈ ts, (sayT s g t).2 = 0) → (runL s g p (ts.map (fun t => (sayT s g t).1))).2 = 0 → ∀ t ∈ trL p ts, (sayT s g t).2 = 0
  | [], ts, _, ha, _ => ha
  | x :: p, ts, h, ha, hz => by
    simp only [okSteps, Bool.and_eq_true] at h
    rw [runL, stepE_tree h.1 rfl] at hz
    by_cases hx : (sayT s g (trS ts x)).2 = 0
    · rw [if_pos hx] at hz
      rw [trL]
      refine runL_all p (ts ++ [trS ts x]) (by rw [List.length_append, List.length_singleton]; exact h.2) (fun t ht => ?_) (by rw [List.map_append, List.map_singleton]; exact hz)
      rw [List.mem_append, List.mem_singleton] at ht
      rcases ht with ht | ht
      · exact ha t ht
      · rw [ht]; exact hx
    · rw [if_neg hx] at hz; exact (hx hz).elim
/-- different steps have different trees -/
theorem trees_inj {G : Int} {p : List Stp} (h : okSteps G 0 p = true) (nd : p.Nodup) : ∀ (i j : Nat) (_ : i < p.length) (_ : j < p.length), (trees p).getD i (.g 0) = (trees p).getD j (.g 0) → i = j := by
  intro i
  induction i using Nat.strongRecOn with
  | _ i ih =>
    intro j hi hj e
    rw [trees_at h i hi, trees_at h j hj] at e
    have hri := okS_get p 0 i hi h
    have hrj := okS_get p 0 j hj h
    rw [Nat.zero_add] at hri hrj
    have he : p[i] = p[j] := by
      unfold trS at e
      by_cases h2 : p[i].1 = 2
      · obtain ⟨-, d1, d2, d3, d4⟩ := rightB_detach hri (by omega)
        rw [if_pos h2] at e
        by_cases k2 : p[j].1 = 2
        · obtain ⟨-, e1, e2, e3, e4⟩ := rightB_detach hrj (by omega)
          rw [if_pos k2] at e
          simp only [Tr.d.injEq] at e
          have q1 := ih _ (by omega) _ (by omega) (by omega) e.1
          have q2 := ih _ (by omega) _ (by omega) (by omega) e.2
          exact Prod.ext (by omega) (Prod.ext (by omega) (by omega))
        · rw [if_neg k2] at e; cases e
      · rw [if_neg h2] at e
        by_cases k2 : p[j].1 = 2
        · rw [if_pos k2] at e; cases e
        · rw [if_neg k2] at e
          simp only [Tr.g.injEq] at e
          have h1 : p[i].1 = 1 := Classical.byContradiction fun k => h2 (rightB_detach hri k).1
          have k1 : p[j].1 = 1 := Classical.byContradiction fun k => k2 (rightB_detach hrj k).1
          obtain ⟨c1, -, c2⟩ := rightB_cite hri h1
          obtain ⟨c3, -, c4⟩ := rightB_cite hrj k1
          exact Prod.ext (by omega) (Prod.ext (by omega) (by omega))
    exact (List.getElem_inj nd).1 he
theorem trees_nodup {G : Int} {p : List Stp} (h : okSteps G 0 p = true) (nd : p.Nodup) : (trees p).Nodup := by
  unfold List.Nodup
  rw [List.pairwise_iff_getElem]
  intro i j hi hj hij e
  have hi' := hi
  have hj' := hj
  rw [trees_len] at hi' hj'
  have := trees_inj h nd i j hi' hj' (by rw [List.getD_eq_getElem?_getD, List.getD_eq_getElem?_getD, List.getElem?_eq_getElem hi, List.getElem?_eq_getElem hj, e])
  omega
theorem nodup_le {α : Type} [DecidableEq α] : ∀ {l m : List α}, l.Nodup → (∀ x ∈ l, x ∈ m) → l.length ≤ m.length
  | [], m, _, _ => Nat.zero_le _
  | x :: l, m, hn, hs => by
    rw [List.nodup_cons] at hn
    have hx := hs x (by simp)
    have ih := nodup_le (m := m.erase x) hn.2 (fun y hy => (List.mem_erase_of_ne (fun e => hn.1 (by rw [← e]; exact hy))).2 (hs y (by simp [hy])))
    rw [List.length_erase_of_mem hx] at ih
    have := List.length_pos_of_mem hx
    rw [List.length_cons]; omega
theorem last_tree {p : List Stp} (_ : 1 ≤ p.length) : (trees p).getLastD (.g 0) = (trees p).getD (p.length - 1) (.g 0) := by
  rw [List.getLastD_eq_getLast?, List.getLast?_eq_getElem?, trees_len, List.getD_eq_getElem?_getD]
/-- the text of a proof's tree, read back -/
theorem unt_tree {G : Int} {p : List Stp} (hG : G ≤ 100) (h : okSteps G 0 p = true) (h1 : 1 ≤ p.length) (h60 : p.length ≤ 60) :
    ∃ q, untR G ((trees p).getLastD (.g 0)).text [] [] none = (q, 0) ∧ q.Nodup ∧ okSteps G 0 q = true ∧ 1 ≤ q.length ∧ q.length ≤ 60 ∧ (trees q).getLastD (.g 0) = (trees p).getLastD (.g 0) ∧ ∀ u ∈ trees q, u ∈ ((trees p).getLastD (.g 0)).subs := by
  have hl := leaves_ok h (p.length - 1) (by omega)
  have hs := subs_nd h (p.length - 1) (by omega)
  rw [← last_tree h1] at hl hs
  generalize (trees p).getLastD (.g 0) = t at hl hs
  have hI := insT_spec (G := G) t [] hl .nil rfl
  have ht := untR_text (G := G) t (fun n hn => ⟨hl n hn, by have := hl n hn; omega⟩) [] [] []
  rw [List.append_nil, closeP, untR_end] at ht
  have hall : ∀ u ∈ trees (insT [] t).1, u ∈ t.subs := fun u hu => by
    rcases hI.all u hu with k | k
    · cases k
    · exact k
  have hlen : (insT [] t).1.length ≤ 60 := by
    open Classical in
    have := nodup_le (m := trees p) (trees_nodup hI.ok hI.nd) (fun u hu => by
      obtain ⟨j, hj, -, e⟩ := hs u (hall u hu)
      rw [← e, List.getD_eq_getElem?_getD, List.getElem?_eq_getElem (by rw [trees_len]; exact hj)]
      exact List.getElem_mem _)
    rw [trees_len, trees_len] at this; omega
  rw [if_pos hlen] at ht
  have hk := hI.new (by intro h; cases h)
  have h1' : 1 ≤ (insT [] t).1.length := by omega
  refine ⟨_, ht, hI.nd, hI.ok, h1', hlen, ?_, hall⟩
  rw [last_tree h1', ← hk, Nat.add_sub_cancel]; exact hI.tr
/-- a tree read back says what the proof says -/
theorem says_tree {s : Sg} {g : List (List Int)} {p q : List Stp} (hp : (saysE s g p).2 = 0) (hq : okSteps g.length 0 q = true) (h1 : 1 ≤ q.length) (h60 : q.length ≤ 60)
    (hl : (trees q).getLastD (.g 0) = (trees p).getLastD (.g 0)) (ha : ∀ u ∈ trees q, u ∈ ((trees p).getLastD (.g 0)).subs) : saysE s g q = saysE s g p := by
  unfold saysE at hp ⊢
  by_cases hx : askedB s g p = true
  · rw [if_pos hx] at hp ⊢
    by_cases hz : (runL s g p []).2 = 0
    · rw [if_pos hz]
      simp only [askedB, Bool.and_eq_true] at hx
      obtain ⟨ok, p1, p2⟩ := validP_parts hx.2
      have hq' : askedB s g q = true := by
        simp only [askedB, Bool.and_eq_true]
        refine ⟨hx.1, ?_⟩
        unfold validP
        rw [hq, decide_eq_true h1, decide_eq_true h60]; rfl
      have hall := runL_all (s := s) (g := g) p [] ok (fun t h => by cases h) hz
      have hp2 := runL_of (s := s) (g := g) p [] ok hall
      have hsub := subs_nd ok (p.length - 1) (by omega)
      rw [← last_tree p1] at hsub
      have hq2 := runL_of (s := s) (g := g) q [] hq (fun t ht => by
        obtain ⟨j, hj, -, e⟩ := hsub t (ha t ht)
        refine hall t ?_
        rw [← e, List.getD_eq_getElem?_getD]
        change (trees p)[j]?.getD (.g 0) ∈ trees p
        rw [List.getElem?_eq_getElem (by rw [trees_len]; exact hj)]
        exact List.getElem_mem _)
      rw [List.map_nil] at hp2 hq2
      rw [if_pos hq', hq2, hp2]
      simp only [if_true]
      have e : ∀ r : List Stp, 1 ≤ r.length → ((trL r []).map (fun t => (sayT s g t).1)).getLastD [] = (sayT s g ((trees r).getLastD (.g 0))).1 := fun r hr => by
        have hr' : 1 ≤ (trees r).length := by rw [trees_len]; exact hr
        change ((trees r).map (fun t => (sayT s g t).1)).getLastD [] = _
        rw [List.getLastD_eq_getLast?, List.getLastD_eq_getLast?, List.getLast?_map, List.getLast?_eq_getElem?, List.getElem?_eq_getElem (by omega)]
        rfl
      rw [e q h1, e p p1, hl]
    · rw [if_neg hz] at hp; exact (hz hp).elim
  · rw [if_neg hx] at hp; cases hp
/-- what Tree answers -/
def treeE (G : Int) (p : List Stp) : List UInt8 × Int :=
  if proofB G p = true then (if ((trees p).getLastD (.g 0)).text.length ≤ 65536 then (((trees p).getLastD (.g 0)).text, 0) else ([], 3)) else ([], 1)
/-- a text that is read is the tree of what is read -/
theorem tree_unt {G : Int} {t : ByteArray} {q : List Stp} (h : untE G t = (q, 0)) : treeE G q = (t.data.toList, 0) := by
  unfold untE at h
  by_cases hG : 0 ≤ G ∧ G ≤ 60
  · rw [if_pos hG] at h
    by_cases hs : t.size ≤ 65536
    · rw [if_pos hs] at h
      obtain ⟨k, hJ, h60⟩ := untR_ok _ _ _ _ _ _ (Nat.le_refl _) (.start G) h
      obtain ⟨-, k1, k2⟩ := hJ.whole k rfl
      have hp : proofB G q = true := by
        unfold proofB validP
        rw [decide_eq_true hG.1, decide_eq_true hG.2, hJ.ok, decide_eq_true h60, decide_eq_true (show 1 ≤ q.length by omega)]; rfl
      rw [List.nil_append] at k2
      have hl : (trees q).getLastD (.g 0) = (trees q).getD k (.g 0) := by rw [last_tree (by omega), show q.length - 1 = k by omega]
      unfold treeE
      rw [if_pos hp, hl, ← k2, if_pos (by rw [Array.length_toList]; exact hs)]
    · rw [if_neg hs] at h; cases h
  · rw [if_neg hG] at h; cases h
end Go.Proofs.YtljkojpooajlhaaDoor

/- Walks: the closure of kernel.Tree, which writes a step's tree to a builder. -/
namespace Go.Proofs.YtljkojpooajlhaaDoor
open Go Go.RowKit

theorem tabAt : ∃ g, Tryd.prog.globalNamed tabName = some g := Option.isSome_iff_exists.1 (by kernel_rfl)
theorem TabW.below {w w' : World} (h : TabW w) (hb : Below w.heap.size w w') : TabW w' := by
  obtain ⟨g, hgn⟩ := tabAt
  unfold TabW Lib.TabIs World.var? at h ⊢
  rw [hgn] at h ⊢
  simp only [Option.bind_some] at h ⊢
  have hlt : g < w.heap.size := by
    rcases Nat.lt_or_ge g w.heap.size with h' | h'
    · exact h'
    · rw [Array.getElem?_eq_none h'] at h; cases h
  rw [hb.block g hlt]
  exact h
theorem itoa3_digs : ∀ n : Nat, n < 60 → Lib.itoa ((100 + n : Nat) : Int) = 49 :: digs n := by
  intro n hn
  rw [Lib.itoa_nonneg]
  have h1 : ∀ u : Nat, u < 10 → Lib.decDigits u = [UInt8.ofNat (48 + u)] := fun u hu => by rw [Lib.decDigits, dif_pos hu]
  have h2 : ∀ u : Nat, ¬ u < 10 → Lib.decDigits u = Lib.decDigits (u / 10) ++ [UInt8.ofNat (48 + u % 10)] := fun u hu => by rw [Lib.decDigits, dif_neg hu]
  rw [h2 _ (by omega), h2 _ (by omega), h1 _ (by omega)]
  unfold digs
  have e1 : (100 + n) / 10 / 10 = 1 := by omega
  have e2 : (100 + n) / 10 % 10 = n / 10 := by omega
  have e3 : (100 + n) % 10 = n % 10 := by omega
  rw [e1, e2, e3]
  rfl
theorem cite_text (n : Nat) : (⟨(49 :: digs n).toArray⟩ : ByteArray).size = 3 := rfl
theorem cite_bytes (n : Nat) : ((⟨#[103]⟩ : ByteArray) ++ (⟨(49 :: digs n).toArray⟩ : ByteArray).extract 1 3).data.toList = 103 :: digs n := by
  rw [ByteArray.data_append, ByteArray.data_extract]
  simp [digs]

section
variable {wI W W' : World} {bs b bf : Nat} {l l' : List UInt8}
end
end Go.Proofs.YtljkojpooajlhaaDoor

/- Walks: kernel.Tree. -/
namespace Go.Proofs.YtljkojpooajlhaaDoor
open Go Go.RowKit

def retTx (r : List UInt8 × Int) (w : World) (e : Ending) (w' : World) : Prop := e = .returned (.tuple #[.string ⟨r.1.toArray⟩, .int .i64 r.2]) ∧ Below w.heap.size w w'
def minT (t : Tr) : Nat := min t.text.length 65537
def lensT (ts : List Tr) : List Int := ts.map fun t => (minT t : Int)
theorem minT_d (a b : Tr) : minT (.d a b) = min (1 + minT a + minT b) 65537 := by unfold minT; simp only [Tr.text, List.length_cons, List.length_append]; omega
theorem minT_g (n : Nat) : minT (.g n) = 3 := rfl
theorem minT_le (t : Tr) : minT t ≤ 65537 := Nat.min_le_right _ _
theorem lensT_len (ts : List Tr) (i : Nat) (h : i ≤ ts.length) : (lensT (ts.take i)).length = i := by unfold lensT; rw [List.length_map, List.length_take]; omega
theorem lensT_succ {ts : List Tr} {i : Nat} (h : i < ts.length) : lensT (ts.take (i + 1)) = lensT (ts.take i) ++ [(minT (ts.getD i (.g 0)) : Int)] := by
  unfold lensT
  rw [List.take_succ_eq_append_getElem h, List.map_append, List.getD_eq_getElem?_getD, List.getElem?_eq_getElem h]
  rfl
theorem lensT_get {ts : List Tr} {i m : Nat} (h : i ≤ ts.length) (hm : m < i) (hl : m < (lensT (ts.take i)).length) : (lensT (ts.take i))[m] = (minT (ts.getD m (.g 0)) : Int) := by
  have e : (lensT (ts.take i))[m]? = some (minT (ts.getD m (.g 0)) : Int) := by
    unfold lensT
    rw [List.getElem?_map, List.getElem?_take_of_lt hm, List.getD_eq_getElem?_getD, List.getElem?_eq_getElem (by omega)]
    rfl
  rw [List.getElem?_eq_getElem hl] at e
  exact Option.some.inj e
def treI (p : List Stp) (w1 : World) (vT vL iV : Value) (wr : World) : Prop :=
  ∃ i : Nat, iV = .int .i64 i ∧ i ≤ p.length ∧ OwnI wr w1.heap.size vL (lensT ((trees p).take i)) ∧ Below w1.heap.size w1 wr ∧ (∀ j, i = j + 1 → vT = .int .i64 (minT ((trees p).getD j (.g 0)) : Nat))
theorem proofB_parts {G : Int} {p : List Stp} (h : proofB G p = true) : 0 ≤ G ∧ G ≤ 60 ∧ 1 ≤ p.length ∧ p.length ≤ 60 ∧ okSteps G 0 p = true := by
  simp only [proofB, validP, Bool.and_eq_true, decide_eq_true_eq] at h
  exact ⟨h.1.1, h.1.2, h.2.2.1, h.2.2.2, h.2.1⟩
end Go.Proofs.YtljkojpooajlhaaDoor

/- Walks: lemmaryref04.sums with the lengths of texts. -/
namespace Go.Proofs.YtljkojpooajlhaaDoor
open Go Go.RowKit

def sumI (p : List Stp) (w : World) (vL iV : Value) (wr : World) : Prop :=
  ∃ i : Nat, iV = .int .i64 i ∧ i ≤ p.length ∧ OwnI wr w.heap.size vL (lensT ((trees p).take i)) ∧ Below w.heap.size w wr
end Go.Proofs.YtljkojpooajlhaaDoor

/- Walks: lemmaryref04.two. -/
namespace Go.Proofs.YtljkojpooajlhaaDoor
open Go Go.RowKit

def tens : ByteArray := ⟨#[48, 49, 50, 51, 52, 53, 54, 55, 56, 57]⟩
theorem tens_at : ∀ a : Nat, a < 10 → (tens.extract a (a + 1)).data.toList = [UInt8.ofNat (48 + a)] := by decide
theorem two_bytes (n : Nat) (hn : n < 100) : (tens.extract (n / 10) (n / 10 + 1) ++ tens.extract (n % 10) (n % 10 + 1)).data.toList = digs n := by
  rw [ByteArray.data_append, Array.toList_append, tens_at _ (by omega), tens_at _ (by omega)]
  rfl
end Go.Proofs.YtljkojpooajlhaaDoor

/- Walks: lemmaryref01.Digits, Number. -/
namespace Go.Proofs.YtljkojpooajlhaaDoor
open Go Go.RowKit

theorem dec_big {n : Nat} (h : ¬ n < 10) : Lib.decDigits n = Lib.decDigits (n / 10) ++ [UInt8.ofNat (48 + n % 10)] := by rw [Lib.decDigits, dif_neg h]
theorem dec_lenR {n : Nat} (h : n < 9223372036854775808) : (Lib.decDigits n).length ≤ 20 := by rw [Lib.decDigits_length]; exact Lib.nDigits_le20 n (by omega)
def dgR (N : Nat) (w : World) (nV sV : Value) (wr : World) : Prop :=
  ∃ (n : Nat) (s : ByteArray), nV = .int .i64 n ∧ sV = .string s ∧ Lib.decDigits N = Lib.decDigits n ++ s.data.toList ∧ n ≤ N ∧ wr = w
set_option maxRecDepth 100000 in
set_option maxHeartbeats 2000000 in
theorem digN_any (N : Nat) (hN : N < 9223372036854775808) (w : World) :
    Calls Tryd.prog 23 #[.int .i64 N] w fun e w' => e = .returned (.string ⟨(Lib.decDigits N).toArray⟩) ∧ w = w' := by
  have hlen := dec_lenR hN
  have h0 : ((N : Int) < 0) = False := eq_false (by omega)
  go_enter Tryd.func23, Tryd.ntmps23
  go_wp2_with fail
  go_loopw [0, 3] (fun nV sV wr => dgR N w nV sV wr) (fun nV _ _ => (intOf nV).toNat)
  case atStart => exact ⟨N, ByteArray.empty, rfl, rfl, by simp, Nat.le_refl _, rfl⟩
  case round =>
    obtain ⟨n, s, rfl, rfl, hd, hn, hw⟩ := hrel
    subst hw
    have hsl : s.size ≤ 20 := by
      have := congrArg List.length hd
      rw [List.length_append] at this
      have h3 : s.data.toList.length = s.data.size := Array.length_toList
      have h2 : s.size = s.data.size := rfl
      omega
    have e1 : Int.tdiv (n : Int) 10 = ((n / 10 : Nat) : Int) := rfl
    have e2 : Int.tmod (n : Int) 10 = ((n % 10 : Nat) : Int) := rfl
    by_cases h9 : 9 < n
    · have h9' : ((9 : Int) < (n : Int)) = True := eq_true (by omega)
      obtain ⟨r, hr⟩ : ∃ r, n % 10 = r := ⟨_, rfl⟩
      obtain ⟨q, hq⟩ : ∃ q, n / 10 = q := ⟨_, rfl⟩
      have hr9 : r < 10 := by omega
      have hq9 : q < n := by omega
      have hdn := dec_big (n := n) (by omega)
      rw [hr, hq] at hdn
      rw [hq] at e1
      rw [hr] at e2
      obtain ⟨D, hD⟩ : ∃ D, tens.extract r (r + 1) = D := ⟨_, rfl⟩
      have hDb : D.data.toList = [UInt8.ofNat (48 + r)] := by rw [← hD]; exact tens_at r hr9
      have hDs : D.size = 1 := by have : D.size = D.data.toList.length := by rw [Array.length_toList]; rfl
                                  rw [this, hDb]; rfl
      have hsz : (9223372036854775807 < (tens.extract r (r + 1)).size + s.size) = False := by rw [hD]; exact eq_false (by omega)
      have hrel : dgR N wr (.int .i64 q) (.string (tens.extract r (r + 1) ++ s)) wr := ⟨q, _, rfl, rfl, by rw [hd, hdn, hD, ByteArray.data_append, Array.toList_append, hDb]; simp, by omega, rfl⟩
      have hrelH := Lib.hid hrel
      have hqm := Lib.hid hq9
      unfold tens at hrelH hsz
      clear hrel hd hdn hr hq hD hDb hDs
      go_wp2_with fail
      all_goals go_roundw
      all_goals first | exact hrelH.out | (have := hqm.out; simp [intOf]; omega)
    · have h9' : ((9 : Int) < (n : Int)) = False := eq_false (by omega)
      have hn9 : n < 10 := by omega
      obtain ⟨D, hD⟩ : ∃ D, tens.extract n (n + 1) = D := ⟨_, rfl⟩
      have hDb : D.data.toList = [UInt8.ofNat (48 + n)] := by rw [← hD]; exact tens_at n hn9
      have hDs : D.size = 1 := by have : D.size = D.data.toList.length := by rw [Array.length_toList]; rfl
                                  rw [this, hDb]; rfl
      have hsz : (9223372036854775807 < (tens.extract n (n + 1)).size + s.size) = False := by rw [hD]; exact eq_false (by omega)
      have hfin : tens.extract n (n + 1) ++ s = ⟨(Lib.decDigits N).toArray⟩ := by
        refine ByteArray.ext (Array.toList_inj.1 ?_)
        rw [hd, Lib.decDigits_one hn9, hD, ByteArray.data_append, Array.toList_append, hDb]
      have hfinH := Lib.hid hfin
      unfold tens at hfinH hsz
      clear hfin hd hD hDb hDs
      go_wp2_with fail
      all_goals go_ret
      all_goals exact ⟨by rw [hfinH.out]; rfl, rfl⟩
set_option maxRecDepth 100000 in
set_option maxHeartbeats 1000000 in
theorem Digits_any (n : Int) (h0 : -9223372036854775808 < n) (h1 : n ≤ 9223372036854775807) (w : World) :
    Calls Tryd.prog 23 #[.int .i64 n] w fun e w' => e = .returned (.string ⟨(Lib.itoa n).toArray⟩) ∧ w = w' := by
  by_cases hn : n < 0
  · have hit : Lib.itoa n = 45 :: Lib.decDigits n.natAbs := by unfold Lib.itoa; rw [if_pos hn]
    obtain ⟨m, hm⟩ : ∃ m : Nat, n.natAbs = m := ⟨_, rfl⟩
    rw [hm] at hit
    have e1 : IntKind.i64.wrap (-n) = (m : Int) := by rw [IntWalk.i64_in _ (by omega)]; omega
    have hn' : (n < 0) = True := eq_true hn
    have hne : (n == (m : Int)) = false := by rw [beq_eq_false_iff_ne]; omega
    have hlen := dec_lenR (n := m) (by omega)
    have ct := digN_any m (by omega) w
    obtain ⟨s, hs⟩ : ∃ s : ByteArray, (⟨(Lib.decDigits m).toArray⟩ : ByteArray) = s := ⟨_, rfl⟩
    have hss : s.size ≤ 20 := by rw [← hs]; simpa [ByteArray.size] using hlen
    rw [hs] at ct
    have hsz : (9223372036854775807 < 1 + s.size) = False := eq_false (by omega)
    have hfin : (⟨#[45]⟩ : ByteArray) ++ s = ⟨(Lib.itoa n).toArray⟩ := by
      refine ByteArray.ext (Array.toList_inj.1 ?_)
      rw [hit, ← hs, ByteArray.data_append, Array.toList_append]; rfl
    have ctH := Lib.hid ct
    have hfinH := Lib.hid hfin
    clear ct hfin hs hit hm hlen hn
    go_enter Tryd.func23, Tryd.ntmps23
    go_wp2_with fail
    refine ctH.out.mono ?_
    rintro e w1 ⟨rfl, rfl⟩
    go_wp2_with fail
    go_ret
    exact ⟨by rw [hfinH.out]; rfl, rfl⟩
  · obtain ⟨m, rfl⟩ : ∃ m : Nat, n = m := ⟨n.toNat, by omega⟩
    have hit : Lib.itoa (m : Int) = Lib.decDigits m := by unfold Lib.itoa; rw [if_neg hn]; simp
    rw [hit]
    exact digN_any m (by omega) w
/-! ### Number -/
def nbR (b : ByteArray) (w : World) (nV iV : Value) (wr : World) : Prop :=
  ∃ (k m : Nat), iV = .int .i64 k ∧ nV = .int .i64 m ∧ k ≤ b.size ∧ Lib.decFrom 0 (b.data.toList.take k) = some m ∧ m < 10 ^ k ∧ wr = w
theorem decFrom_bad : ∀ (l : List UInt8) (acc k : Nat) (b : UInt8), l[k]? = some b → Lib.digitVal b = none → Lib.decFrom acc l = none
  | [], _, _, _, h, _ => by simp at h
  | c :: l, acc, 0, b, h, hb => by
    simp at h; subst h
    rw [Lib.decFrom, hb]
  | c :: l, acc, k + 1, b, h, hb => by
    rw [Lib.decFrom]
    cases hc : Lib.digitVal c with
    | none => rfl
    | some d => exact decFrom_bad l _ k b (by simpa using h) hb
theorem digitVal_yes {b : UInt8} (h0 : 48 ≤ b.toNat) (h1 : b.toNat ≤ 57) : Lib.digitVal b = some (b.toNat - 48) := by unfold Lib.digitVal; rw [if_pos ⟨h0, h1⟩]
theorem digitVal_no {b : UInt8} (h : b.toNat < 48 ∨ 57 < b.toNat) : Lib.digitVal b = none := by unfold Lib.digitVal; rw [if_neg (by omega)]
theorem data_get {b : ByteArray} {k : Nat} (h : k < b.size) : b.data.toList[k]? = some (b[k]'h) := by
  have : b.size = b.data.size := rfl
  rw [Array.getElem?_toList, Array.getElem?_eq_getElem (by omega)]; rfl
/-- the number of what stands behind the sign -/
def numOfB (neg : Bool) (m : Nat) : Int := if neg = true then -(m : Int) else m
def retN (l : List UInt8) (w : World) (e : Ending) (w' : World) : Prop := ∃ n : Int, e = .returned (.tuple #[.int .i64 n, .bool (numR l).isSome]) ∧ (∀ m, numR l = some m → n = m) ∧ inRange n ∧ w = w'
end Go.Proofs.YtljkojpooajlhaaDoor

/- Walks: lemmaryref03.joined, told, tongues, Write. -/
namespace Go.Proofs.YtljkojpooajlhaaDoor
open Go Go.RowKit Go.Maps

theorem ba_ext3 {x y : ByteArray} (h : x.data.toList = y.data.toList) : x = y := by
  cases x; cases y
  exact congrArg ByteArray.mk (Array.toList_inj.1 h)
theorem toB_size (l : List UInt8) : (toB l).size = l.length := by simp [toB, ByteArray.size]
theorem jt_take {sep : List UInt8} {A : List (List UInt8)} {j : Nat} (hj : j < A.length) : Lib.joinTail sep (A.take (j + 1)) = Lib.joinTail sep (A.take j) ++ (sep ++ A[j]) := by
  rw [List.take_succ_eq_append_getElem hj]
  simp only [Lib.joinTail, List.map_append, List.flatten_append, List.map_cons, List.map_nil, List.flatten_cons, List.flatten_nil, List.append_nil]
theorem jt_part (sep : List UInt8) (A : List (List UInt8)) (j : Nat) (hs : sep.length ≤ 4) : (Lib.joinTail sep (A.take j)).length ≤ (A.map (fun x => x.length + 4)).sum := by
  refine Nat.le_trans (joinTail_le hs _) ?_
  rw [List.map_take]
  have := List.take_append_drop j (A.map (fun x => x.length + 4))
  have h2 := congrArg List.sum this
  rw [List.sum_append] at h2
  omega
theorem elt_le {A : List (List UInt8)} {j : Nat} (hj : j < A.length) : A[j].length ≤ (A.map (fun x => x.length + 4)).sum := by
  have h1 := jt_part [] A (j + 1) (by decide)
  rw [jt_take hj] at h1
  rw [List.length_append, List.nil_append] at h1
  omega
def toldRel (L : List (List UInt8)) (W5 : World) (out i : Value) (wr : World) : Prop :=
  ∃ q : Nat, i = .int .i64 q ∧ q ≤ L.length ∧ OwnSt3 wr W5.heap.size out ((L.take q).map toB) ∧ Below W5.heap.size W5 wr
def toldRet (w : World) (b : List UInt8) (e : Ending) (w' : World) : Prop := e = .returned (.string (toB b)) ∧ Below w.heap.size w w'
end Go.Proofs.YtljkojpooajlhaaDoor
