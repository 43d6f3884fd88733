/- The proof of a statement, some of its texts joined in build order: part C. -/
import Derived.Test.YtljkojpooajlhaaShJoin
import Derived.Test.YtljkojpooajlhaaMathText
import Derived.Test.YtljkojpooajlhaaOwn
import Derived.Test.YtljkojpooajlhaaMsB
import Derived.Deep.RegionHeld3
import Derived.Test.YtljkojpooajlhaaMath6
import Derived.Test.YtljkojpooajlhaaRegion
import Derived.Deep.Cut
import Derived.Test.YtljkojpooajlhaaWalkE
import Derived.Laws.Rows
import Derived.Test.YtljkojpooajlhaaMathRead
import Derived.Test.YtljkojpooajlhaaLit
/- Walks: tongue.polish, arrows, brackets. -/
namespace Go.Proofs.Ytljkojpooajlhaa
open Go Go.RowKit Go.Maps

def toB (l : List UInt8) : ByteArray := ⟨l.toArray⟩
theorem toB_list (l : List UInt8) : (toB l).data.toList = l := rfl
theorem toB_data (b : ByteArray) : toB b.data.toList = b := rfl
theorem toB_append (l m : List UInt8) : toB l ++ toB m = toB (l ++ m) := by
  apply ByteArray.ext
  rw [ByteArray.data_append]
  simp [toB]
theorem toB_map (A : List (List UInt8)) : (A.map toB).map (·.data.toList) = A := by
  rw [List.map_map]
  exact (List.map_congr_left (fun _ _ => rfl)).trans (List.map_id _)
abbrev OwnSt3 (w : World) (base : Nat) (v : Value) (l : List ByteArray) : Prop := OwnL strE (fun _ => False) w base 9 v l
theorem infoStr3 : (Try.prog.info? 9).map (fun i => (i.zero, i.size, i.bytes)) = some (some (.string ByteArray.empty), 1, 16) := by kernel_rfl
theorem OwnSt3.one (w : World) (x : ByteArray) (hx : x.size ≤ big) : OwnSt3 (w.alloc (.cells #[.string x] 9)) w.heap.size (.slice (some ⟨w.heap.size, 0, none⟩) 1 1) [x] :=
  ⟨[[.string x]], ⟨by simp [strE], .inr ⟨w.heap.size, 1, #[.string x], rfl, Nat.le_refl _, heap_alloc_new w _, Nat.le_refl _, by decide, rfl, by simp [strE]⟩⟩, rfl, fun i h1 h2 => by
    have : i = 0 := by simp at h1; omega
    subst this
    exact ⟨rfl, hx⟩⟩
/-- a symbol's arguments, as strings -/
structure TArgs (S : Nat → Prop) (w : World) (a : Option Addr) (c : Nat) (A : List (List UInt8)) : Prop where
  sl : Sl strE S w a c (A.map toB)
  ln : A.length ≤ 3
  sz : (A.map (fun x => x.length + 4)).sum ≤ 10000
theorem joinTail_le {sep : List UInt8} (h : sep.length ≤ 4) (A : List (List UInt8)) : (Lib.joinTail sep A).length ≤ (A.map (fun x => x.length + 4)).sum := by
  rw [joinTail_len]
  induction A with
  | nil => simp
  | cons x r ih => simp only [List.map_cons, List.sum_cons]; omega
theorem join_le {sep : List UInt8} (h : sep.length ≤ 4) (A : List (List UInt8)) : (Lib.join A sep).length ≤ (A.map (fun x => x.length + 4)).sum := by
  refine Nat.le_trans (join_len_le sep A) ?_
  induction A with
  | nil => simp
  | cons x r ih => simp only [List.map_cons, List.sum_cons]; omega
theorem nm_cell {s : Sg} {n : Nat} (hn : n < s.length) : s[n].1 = toB (nmL s (n : Int)) := by
  unfold nmL
  rw [Int.toNat_natCast, List.getD_eq_getElem?_getD, List.getElem?_eq_getElem hn]; rfl
theorem keepT1 {W4 w1 w2 : World} {p : Addr} {v : Value} (h : Below W4.heap.size W4 w1 ∧ w1.cell? p = some v) (hb : Below w1.heap.size w1 w2) : Below W4.heap.size W4 w2 ∧ w2.cell? p = some v := ⟨bcall h.1 hb, cell_later hb h.2⟩
end Go.Proofs.Ytljkojpooajlhaa

/- Walks: the closure of tongue.written. -/
namespace Go.Proofs.Ytljkojpooajlhaa
open Go Go.RowKit Go.Maps

theorem gby_refl' (w : World) (row : Option Nat) : w.grownBy w row := ⟨rfl, rfl, rfl, Nat.le_refl _, fun _ _ _ => rfl⟩
theorem gby_trans' {a w w' : World} {row : Option Nat} (h : a.grownBy w row) (k : w.grownBy w' row) : a.grownBy w' row :=
  ⟨k.os.trans h.os, k.tape.trans h.tape, k.output.trans h.output, Nat.le_trans h.size k.size, fun i hi hr => (k.block i (Nat.lt_of_lt_of_le hi h.size) hr).trans (h.block i hi hr)⟩
theorem gby_below' {w w' : World} {row : Option Nat} (hb : Below w.heap.size w w') : w.grownBy w' row := ⟨hb.os, hb.tape, hb.output, hb.size, fun i hi _ => hb.block i hi⟩
theorem gby_more {W w1 w' : World} {row r : Option Nat} (h : W.grownBy w1 row) (hg : w1.grownBy w' r) (hr : ∀ j, r = some j → W.heap.size ≤ j) : W.grownBy w' row :=
  ⟨hg.os.trans h.os, hg.tape.trans h.tape, hg.output.trans h.output, Nat.le_trans h.size hg.size, fun i hi hn => (hg.block i (Nat.lt_of_lt_of_le hi h.size) (fun e => by have := hr i e.symm; omega)).trans (h.block i hi hn)⟩
theorem gby_cell {W w' : World} {b : Nat} (h : W.grownBy w' (some b)) {p : Addr} {v : Value} (hp : W.cell? p = some v) (hne : p.block ≠ b) : w'.cell? p = some v :=
  (World.cell?_of_block (h.block _ (World.block_lt_of_cell? _ _ hp) (fun e => hne (by injection e with e)))).trans hp
def AtBox (w : World) (ba p : Nat) : Prop := w.heap[ba]? = some (.cells #[.int .i64 (p : Int)] 3 (0, 0))
theorem AtBox.cell {w : World} {ba p : Nat} (h : AtBox w ba p) : w.cell? ⟨ba, 0, none⟩ = some (.int .i64 (p : Int)) := by simp [World.cell?, show w.heap[ba]? = _ from h]
theorem AtBox.frozen {w : World} {ba p : Nat} (h : AtBox w ba p) : w.frozen? ⟨ba, 0, none⟩ = false := by simp [World.frozen?, show w.heap[ba]? = _ from h]
theorem AtBox.lt {w : World} {ba p : Nat} (h : AtBox w ba p) : ba < w.heap.size := (Array.getElem?_eq_some_iff.1 h).1
theorem AtBox.set {w : World} {ba p : Nat} (h : AtBox w ba p) (q : Nat) : AtBox (w.setCell ⟨ba, 0, none⟩ (.int .i64 (q : Int))) ba q := by
  unfold AtBox
  simp [World.setCell, Array.getElem?_modify, show w.heap[ba]? = _ from h]
theorem AtBox.below {w w' : World} {ba p : Nat} (h : AtBox w ba p) (hb : Below w.heap.size w w') : AtBox w' ba p := (hb.block ba h.lt).trans h
theorem AtBox.kept {w w' : World} {ba p : Nat} {r : Option Nat} (h : AtBox w ba p) (hg : w.grownBy w' r) (hr : r ≠ some ba) : AtBox w' ba p := (hg.block ba h.lt (fun e => hr e.symm)).trans h
theorem gby_setAt (w : World) (b : Nat) (v : Value) : w.grownBy (w.setCell ⟨b, 0, none⟩ v) (some b) :=
  ⟨rfl, rfl, rfl, by simp [World.setCell], fun k _ hk => Below.heap_setCell _ _ _ _ (fun e => hk (by simp [e]))⟩
def wrRet (k : Nat) (W : World) (ba p : Nat) (s : Sg) (u : List Int) (e : Ending) (w' : World) : Prop := e = .returned (.string (toB (txt k s u))) ∧ W.grownBy w' (some ba) ∧ AtBox w' ba (p + u.length)
theorem splitK_get {s : Sg} : ∀ {k m : Nat} {l l' : List Int} (_ : skip s k l = some l') (_ : k < m), (splitK s m l)[k]? = some (partAt s l')
  | _, 0, _, _, _, hm => by omega
  | 0, m + 1, l, l', h, _ => by
    rw [skip_zero] at h
    cases h
    simp [splitK]
  | k + 1, m + 1, l, l', h, hm => by
    obtain ⟨x, h1, h2⟩ := skip_one h
    rw [splitK, h1]
    simpa using splitK_get h2 (show k < m by omega)
theorem part_rest {s : Sg} {t r : List Int} {p : Nat} (h : skip s 1 (t.drop p) = some r) (hp : p ≤ t.length) : r = t.drop (p + (partAt s (t.drop p)).length) ∧ p + (partAt s (t.drop p)).length ≤ t.length ∧ 1 ≤ (partAt s (t.drop p)).length := by
  obtain ⟨h1, -, h3⟩ := partAt_eq h
  obtain ⟨u, hu⟩ : ∃ u, partAt s (t.drop p) = u := ⟨_, rfl⟩
  rw [hu] at h1 h3 ⊢
  refine ⟨?_, ?_, h3⟩
  · rw [← List.drop_drop, h1, List.drop_append_of_le_length (Nat.le_refl _), List.drop_length, List.nil_append]
  · have := congrArg List.length h1
    rw [List.length_drop, List.length_append] at this
    omega
theorem skip_stepK {s : Sg} {k m : Nat} {l l' r : List Int} (h : skip s k l = some l') (ht : skip s m l = some r) (hk : k < m) : ∃ l2, skip s 1 l' = some l2 ∧ skip s (k + 1) l = some l2 := by
  rw [show m = k + (m - k) by omega, skip_add, h, Option.bind_some, show m - k = (m - k - 1) + 1 by omega] at ht
  obtain ⟨l2, h1, -⟩ := skip_one ht
  exact ⟨l2, h1, by rw [skip_add, h, Option.bind_some, h1]⟩
def wrRel (k : Nat) (s : Sg) (t : List Int) (p m ba : Nat) (W2 : World) (out i : Value) (wr : World) : Prop :=
  ∃ (j p' : Nat) (A : List (List UInt8)), i = .int .i64 j ∧ j ≤ m ∧ A = ((splitK s m (t.drop (p + 1))).take j).map (txt k s) ∧ skip s j (t.drop (p + 1)) = some (t.drop p') ∧ p + 1 ≤ p' ∧ p' ≤ t.length ∧ OwnSt3 wr W2.heap.size out (A.map toB) ∧ W2.grownBy wr (some ba) ∧ AtBox wr ba p'
end Go.Proofs.Ytljkojpooajlhaa

/- Walks: tongue.written, Write; awake of the laws on tongues. -/
namespace Go.Proofs.Ytljkojpooajlhaa
open Go Go.RowKit Go.Maps

theorem part_neg {s : Sg} {t r : List Int} {p : Nat} (h : skip s 1 (t.drop p) = some r) (hp : p < t.length) (hn : t[p] < 0) : partAt s (t.drop p) = [t[p]] := by
  obtain ⟨_, hc, hs⟩ := skip_drop (k := 0) h
  rw [ar_neg hn, Nat.zero_add, skip_zero] at hs
  have hr := Option.some.inj hs
  unfold partAt
  rw [h, Option.getD_some, ← hr, List.length_drop, List.length_drop, show t.length - p - (t.length - (p + 1)) = 1 by omega, List.drop_eq_getElem_cons hp]
  rfl
theorem twithin_any (n lo hi : Int) (w : World) :
    Calls Try.prog 24 #[.int .i64 n, .int .i64 lo, .int .i64 hi] w fun e w' => e = .returned (.bool (decide (lo ≤ n) && decide (n ≤ hi))) ∧ w = w' := by
  go_enter Try.func24, Try.ntmps24
  go_wp2
  all_goals go_ret
  all_goals exact ⟨ret_bool (by simp; omega), rfl⟩

/-- a term written in a tongue -/
def writeE (s : Sg) (k : Int) (t : List Int) : List UInt8 × Int := if okT s t = true then (if (decide (1 ≤ k) && decide (k ≤ 3)) = true then (txt k.toNat s t, 0) else ([], 7)) else ([], 1)
theorem writeE_len {s : Sg} {k : Int} {t : List Int} : (writeE s k t).1.length ≤ 1440 := by
  unfold writeE
  split
  · rename_i h
    split
    · have := txt_len (k := k.toNat) t.length h (Nat.le_refl _)
      have := (okT_parts h).2.2.1
      simp only; omega
    · simp
  · simp
end Go.Proofs.Ytljkojpooajlhaa

/- Walk: awake of the laws on tongues. -/
namespace Go.Proofs.Ytljkojpooajlhaa
open Go Go.RowKit Go.Maps

def aw3S : Sg := [(⟨#[67]⟩, 2), (⟨#[78]⟩, 1)]
def aw3T : List Int := [0, -1, 1, -2]
def aw3B : List UInt8 := [40, 120, 48, 32, 45, 62, 32, 78, 40, 120, 49, 41, 41]
theorem aw3_ok : okT aw3S aw3T = true := by kernel_rfl
theorem aw3_txt : txt 2 aw3S aw3T = aw3B := by kernel_rfl
theorem aw3_write : writeE aw3S 2 aw3T = (aw3B, 0) := by
  unfold writeE
  rw [if_pos aw3_ok, if_pos (by decide), show (2 : Int).toNat = 2 from rfl, aw3_txt]
end Go.Proofs.Ytljkojpooajlhaa
