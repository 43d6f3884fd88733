/- The proof of a statement, some of its texts joined in build order: part C. -/
import Derived.Test.YtljkojpooajlhaaGreatDoorShJoin
import Derived.Test.YtljkojpooajlhaaGreatDoorMathText
import Derived.Test.YtljkojpooajlhaaGreatDoorOwn
import Derived.Test.YtljkojpooajlhaaGreatDoorMsB
import Derived.Deep.RegionHeld3
import Derived.Test.YtljkojpooajlhaaGreatDoorMath6
import Derived.Test.YtljkojpooajlhaaGreatDoorRegion
import Derived.Deep.Cut
import Derived.Test.YtljkojpooajlhaaGreatDoorWalkE
import Derived.Laws.Rows
import Derived.Test.YtljkojpooajlhaaGreatDoorMathRead
import Derived.Test.YtljkojpooajlhaaGreatDoorLit
/- Walks: tongue.polish, arrows, brackets. -/
namespace Go.Proofs.YtljkojpooajlhaaGreatDoor
open Go Go.RowKit Go.Maps

def toB (l : List UInt8) : ByteArray := ⟨l.toArray⟩
theorem toB_list (l : List UInt8) : (toB l).data.toList = l := rfl
theorem toB_data (b : ByteArray) : toB b.data.toList = b := rfl
theorem toB_append (l m : List UInt8) : toB l ++ toB m = toB (l ++ m) := by
  apply ByteArray.ext
  rw [ByteArray.data_append]
  simp [toB]
theorem toB_map (A : List (List UInt8)) : (A.map toB).map (·.data.toList) = A := by
  rw [List.map_map]
  exact (List.map_congr_left (fun _ _ => rfl)).trans (List.map_id _)
abbrev OwnSt3 (w : World) (base : Nat) (v : Value) (l : List ByteArray) : Prop := OwnL strE (fun _ => False) w base 9 v l
theorem infoStr3 : (Tryz.prog.info? 9).map (fun i => (i.zero, i.size, i.bytes)) = some (some (.string ByteArray.empty), 1, 16) := by kernel_rfl
theorem OwnSt3.one (w : World) (x : ByteArray) (hx : x.size ≤ big) : OwnSt3 (w.alloc (.cells #[.string x] 9)) w.heap.size (.slice (some ⟨w.heap.size, 0, none⟩) 1 1) [x] :=
  ⟨[[.string x]], ⟨by simp [strE], .inr ⟨w.heap.size, 1, #[.string x], rfl, Nat.le_refl _, heap_alloc_new w _, Nat.le_refl _, by decide, rfl, by simp [strE]⟩⟩, rfl, fun i h1 h2 => by
    have : i = 0 := by simp at h1; omega
    subst this
    exact ⟨rfl, hx⟩⟩
/-- a symbol's arguments, as strings -/
structure TArgs (S : Nat → Prop) (w : World) (a : Option Addr) (c : Nat) (A : List (List UInt8)) : Prop where
  sl : Sl strE S w a c (A.map toB)
  ln : A.length ≤ 3
  sz : (A.map (fun x => x.length + 4)).sum ≤ 10000
theorem joinTail_le {sep : List UInt8} (h : sep.length ≤ 4) (A : List (List UInt8)) : (Lib.joinTail sep A).length ≤ (A.map (fun x => x.length + 4)).sum := by
  rw [joinTail_len]
  induction A with
  | nil => simp
  | cons x r ih => simp only [List.map_cons, List.sum_cons]; omega
theorem join_le {sep : List UInt8} (h : sep.length ≤ 4) (A : List (List UInt8)) : (Lib.join A sep).length ≤ (A.map (fun x => x.length + 4)).sum := by
  refine Nat.le_trans (join_len_le sep A) ?_
  induction A with
  | nil => simp
  | cons x r ih => simp only [List.map_cons, List.sum_cons]; omega
theorem nm_cell {s : Sg} {n : Nat} (hn : n < s.length) : s[n].1 = toB (nmL s (n : Int)) := by
  unfold nmL
  rw [Int.toNat_natCast, List.getD_eq_getElem?_getD, List.getElem?_eq_getElem hn]; rfl
set_option maxRecDepth 20000 in
set_option maxHeartbeats 1000000 in
theorem polish_any {S1 S2 : Nat → Prop} (a1 a2 : Option Addr) (c1 c2 : Nat) (s : Sg) (n : Nat) (hn : n < s.length) (A : List (List UInt8)) (w : World) (hok : okSign s = true) (h1 : Sign S1 w a1 c1 s) (h2 : TArgs S2 w a2 c2 A) :
    Calls Tryz.prog 48 #[.slice a1 s.length c1, .int .i64 n, .slice a2 A.length c2] w fun e w' => e = .returned (.string (toB (comb 1 s n A))) ∧ Below w.heap.size w w' := by
  have m1 := h1.le
  obtain ⟨b, o, rfl, -, q0, q1, -⟩ := h1.sym n hn
  rw [nm_cell hn] at q0
  have hnl := nm_len hok (n : Int)
  obtain ⟨N, hN⟩ : ∃ N, nmL s (n : Int) = N := ⟨_, rfl⟩
  rw [hN] at q0 hnl
  have hsz : (toB N).size = N.length := by simp [toB, ByteArray.size]
  obtain ⟨W1, hW1⟩ : ∃ W1, w.alloc (.cells #[.string (toB N)] 9) = W1 := ⟨_, rfl⟩
  have hb1 : Below w.heap.size w W1 := by rw [← hW1]; exact below1 w _
  have ho : OwnSt3 W1 w.heap.size (.slice (some ⟨w.heap.size, 0, none⟩) 1 1) [toB N] := by rw [← hW1]; exact OwnSt3.one w _ (by rw [hsz]; unfold big; omega)
  have hl3 := h2.ln
  obtain ⟨v', w', hrun, ho', hg, -⟩ := ho.append_run (P := Tryz.prog) (t := 50) (ty := 50) Tryz.underlying50 infoStr3 rfl (h2.sl.below hb1) (fun _ _ _ h => h) (by rw [List.length_map, List.length_singleton]; omega) (by rw [List.length_map, List.length_singleton]; unfold big; omega) hb1.size
  have hB' : Below w.heap.size w w' := hb1.grown hg hb1.size (fun k e => by simp [Value.ownBlock] at e; omega)
  obtain ⟨a', c', rfl, hsl⟩ := OwnL.sl ho'
  have hL : ([toB N] ++ A.map toB).map (·.data.toList) = N :: A := by rw [List.map_append, toB_map]; rfl
  have hcomb : Lib.join (N :: A) [32] = comb 1 s n A := by
    rw [Lib.join_cons]; unfold comb; rw [if_pos rfl, hN]
  have hLl : ([toB N] ++ A.map toB).length ≤ 4 := by rw [List.length_append, List.length_map, List.length_singleton]; omega
  obtain ⟨L', hL'⟩ : ∃ L', [toB N] ++ A.map toB = L' := ⟨_, rfl⟩
  rw [hL'] at hL hsl hrun hLl
  have cj := SJoin_any a' c' L' ⟨#[32]⟩ w' hsl (by omega) (by
    rw [hL]
    have h1 := join_le (sep := [32]) (by decide) (N :: A)
    have h2 := h2.sz
    rw [List.map_cons, List.sum_cons] at h1
    show (Lib.join (N :: A) [32]).length ≤ _
    omega)
  rw [hL, show (⟨#[32]⟩ : ByteArray).data.toList = [32] from rfl, hcomb] at cj
  rw [List.length_map] at hrun
  have hrunH := Lib.hid hrun
  have cjH := Lib.hid cj
  have hBH := Lib.hid hB'
  have m2 := h2.sl.le
  rw [List.length_map] at m2
  clear h1 h2 ho hrun ho' hg hB' hsl hL cj hcomb hN hb1 hL'
  go_enter Tryz.func48, Tryz.ntmps48
  go_wp2_with (first
    | (go_at_call 23; (with_reducible refine cjH.out.mono ?_); rintro e w2 ⟨rfl, hb2⟩)
    | (at_builtin; refine wpList_append_run rfl _ _ _ rfl rfl rfl hrunH.out ?_))
  go_ret
  exact ⟨rfl, bcall hBH.out hb2⟩
theorem keepT1 {W4 w1 w2 : World} {p : Addr} {v : Value} (h : Below W4.heap.size W4 w1 ∧ w1.cell? p = some v) (hb : Below w1.heap.size w1 w2) : Below W4.heap.size W4 w2 ∧ w2.cell? p = some v := ⟨bcall h.1 hb, cell_later hb h.2⟩
set_option maxRecDepth 20000 in
set_option maxHeartbeats 1000000 in
theorem arrows_any {S1 S2 : Nat → Prop} (a1 a2 : Option Addr) (c1 c2 : Nat) (s : Sg) (n : Nat) (hn : n < s.length) (A : List (List UInt8)) (w : World) (hok : okSign s = true) (h1 : Sign S1 w a1 c1 s) (h2 : TArgs S2 w a2 c2 A) :
    Calls Tryz.prog 50 #[.slice a1 s.length c1, .int .i64 n, .slice a2 A.length c2] w fun e w' => e = .returned (.string (toB (comb 2 s n A))) ∧ Below w.heap.size w w' := by
  have m1 := h1.le
  have m2 := h2.sl.le
  have hl3 := h2.ln
  rw [List.length_map] at m2
  obtain ⟨b, o, rfl, -, q0, q1, -⟩ := h1.sym n hn
  rw [nm_cell hn] at q0
  have cj := fun W (hb : Below w.heap.size w W) (sep : ByteArray) (hs : sep.data.toList.length ≤ 4) => SJoin_any a2 c2 (A.map toB) sep W (h2.sl.below hb) (by rw [List.length_map]; omega) (by
    rw [toB_map]
    have := join_le hs A
    have h3 := h2.sz
    omega)
  simp only [List.length_map, toB_map] at cj
  by_cases h0 : n = 0
  · subst h0
    have hc : ((⟨#[40]⟩ : ByteArray) ++ ⟨(Lib.join A [32, 45, 62, 32]).toArray⟩) ++ ⟨#[41]⟩ = toB (comb 2 s ((0 : Nat) : Int) A) := by
      have : comb 2 s ((0 : Nat) : Int) A = [40] ++ Lib.join A [32, 45, 62, 32] ++ [41] := rfl
      rw [this, ← toB_append, ← toB_append]; rfl
    have cj0 : Calls Tryz.prog 23 #[.slice a2 A.length c2, .string ⟨#[32, 45, 62, 32]⟩] w fun e w' => e = .returned (.string ⟨(Lib.join A [32, 45, 62, 32]).toArray⟩) ∧ Below w.heap.size w w' := cj w (.refl _ _) ⟨#[32, 45, 62, 32]⟩ (by decide)
    have hJs : (⟨(Lib.join A [32, 45, 62, 32]).toArray⟩ : ByteArray).size ≤ 10000 := Nat.le_trans (join_le (by decide) A) h2.sz
    obtain ⟨J, hJ⟩ : ∃ J : ByteArray, (⟨(Lib.join A [32, 45, 62, 32]).toArray⟩ : ByteArray) = J := ⟨_, rfl⟩
    rw [hJ] at hc cj0 hJs
    have s1 : (9223372036854775807 < 1 + J.size) = False := eq_false (by omega)
    have s2 : (9223372036854775807 < 1 + J.size + 1) = False := eq_false (by omega)
    have hcH := Lib.hid hc
    have cjH := Lib.hid cj0
    clear h1 h2 cj hc q0 q1 cj0 hJ
    go_enter Tryz.func50, Tryz.ntmps50
    go_wp2_with (go_at_call 23; (with_reducible refine cjH.out.mono ?_); rintro e w2 ⟨rfl, hb2⟩)
    go_ret
    exact ⟨congrArg (fun b => Ending.returned (.string b)) hcH.out, hb2⟩
  have hne : (((n : Nat) : Int) == 0) = false := by simp; omega
  by_cases hA : A = []
  · subst hA
    have hc : nmL s (n : Int) = comb 2 s n [] := by
      unfold comb
      rw [if_neg (by decide), if_pos rfl, if_neg (by omega), if_pos rfl]
    have hcH := Lib.hid hc
    clear h1 h2 cj hc
    go_enter Tryz.func50, Tryz.ntmps50
    go_wp2_with fail
    go_ret
    rw [← hcH.out]
    exact ⟨rfl, .refl _ _⟩
  · have hAl : ((A.length : Int) == 0) = false := by
      cases A with
      | nil => exact (hA rfl).elim
      | cons _ _ => simp; omega
    have hc : ((toB (nmL s (n : Int)) ++ (⟨#[40]⟩ : ByteArray)) ++ ⟨(Lib.join A [44, 32]).toArray⟩) ++ ⟨#[41]⟩ = toB (comb 2 s n A) := by
      have : comb 2 s n A = nmL s n ++ [40] ++ Lib.join A [44, 32] ++ [41] := by
        unfold comb
        rw [if_neg (by decide), if_pos rfl, if_neg (by omega), if_neg hA]
        simp
      rw [this, ← toB_append, ← toB_append, ← toB_append]; rfl
    have cj0 : ∀ W, Below w.heap.size w W → Calls Tryz.prog 23 #[.slice a2 A.length c2, .string ⟨#[44, 32]⟩] W fun e w' => e = .returned (.string ⟨(Lib.join A [44, 32]).toArray⟩) ∧ Below W.heap.size W w' := fun W hb => cj W hb ⟨#[44, 32]⟩ (by decide)
    have hJs : (⟨(Lib.join A [44, 32]).toArray⟩ : ByteArray).size ≤ 10000 := Nat.le_trans (join_le (by decide) A) h2.sz
    obtain ⟨J, hJ⟩ : ∃ J : ByteArray, (⟨(Lib.join A [44, 32]).toArray⟩ : ByteArray) = J := ⟨_, rfl⟩
    rw [hJ] at hc hJs
    simp only [hJ] at cj0
    have hNs : (toB (nmL s (n : Int))).size ≤ 8 := by
      have := nm_len hok (n : Int)
      simpa [toB, ByteArray.size] using this
    obtain ⟨N, hN⟩ : ∃ N, toB (nmL s (n : Int)) = N := ⟨_, rfl⟩
    rw [hN] at q0 hc hNs
    have s1 : (9223372036854775807 < N.size + 1) = False := eq_false (by omega)
    have s2 : (9223372036854775807 < N.size + 1 + J.size) = False := eq_false (by omega)
    have s3 : (9223372036854775807 < N.size + 1 + J.size + 1) = False := eq_false (by omega)
    have hcH := Lib.hid hc
    have cjH := Lib.hid cj0
    have hbd : Below w.heap.size w w.drew := Below.drew (.refl w.heap.size _)
    have hk0 : Below w.heap.size w w.drew ∧ w.drew.cell? ⟨b, o + n * 2, none⟩ = some (.string N) := ⟨hbd, cell_later hbd q0⟩
    clear h1 h2 cj hc q1 hN hbd cj0 hJ
    go_enter Tryz.func50, Tryz.ntmps50
    go_wp2_with fail
    clear q0
    go_region_held3 (fun w' => Below w.heap.size w w' ∧ w'.cell? ⟨b, o + n * 2, none⟩ = some (.string N))
      ((first | exact hk0 | exact keepT1 ‹_› hbJ))
      ((go_at_call 23; (with_reducible refine (cjH.out _ ?_).mono ?_); exact (And.left ‹_›); rintro e w2 ⟨rfl, hbJ⟩))
    have hB2 := And.left (‹Below w.heap.size w w2 ∧ _›)
    go_wp2_with fail
    go_ret
    exact ⟨congrArg (fun b => Ending.returned (.string b)) hcH.out, hB2⟩
theorem brackets_any {S1 S2 : Nat → Prop} (a1 a2 : Option Addr) (c1 c2 : Nat) (s : Sg) (n : Nat) (hn : n < s.length) (A : List (List UInt8)) (w : World) (hok : okSign s = true) (h1 : Sign S1 w a1 c1 s) (h2 : TArgs S2 w a2 c2 A) :
    Calls Tryz.prog 52 #[.slice a1 s.length c1, .int .i64 n, .slice a2 A.length c2] w fun e w' => e = .returned (.string (toB (comb 3 s n A))) ∧ Below w.heap.size w w' := by
  have m1 := h1.le
  have m2 := h2.sl.le
  rw [List.length_map] at m2
  have cp := polish_any a1 a2 c1 c2 s n hn A w hok h1 h2
  obtain ⟨b, o, rfl, -, q0, q1, -⟩ := h1.sym n hn
  rw [nm_cell hn] at q0
  by_cases hA : A = []
  · subst hA
    have hc : nmL s (n : Int) = comb 3 s n [] := by
      unfold comb
      rw [if_neg (by decide), if_neg (by decide), if_pos rfl]
    have hcH := Lib.hid hc
    clear h1 h2 cp hc
    go_enter Tryz.func52, Tryz.ntmps52
    go_wp2_with fail
    go_ret
    rw [← hcH.out]
    exact ⟨rfl, .refl _ _⟩
  · have hAl : ((A.length : Int) == 0) = false := by
      cases A with
      | nil => exact (hA rfl).elim
      | cons _ _ => simp; omega
    have hc : ((⟨#[91]⟩ : ByteArray) ++ toB (comb 1 s n A)) ++ ⟨#[93]⟩ = toB (comb 3 s n A) := by
      have : comb 3 s n A = [91] ++ comb 1 s n A ++ [93] := by
        unfold comb
        rw [if_neg (by decide), if_neg (by decide), if_neg hA, if_pos rfl]
        simp
      rw [this, ← toB_append, ← toB_append]; rfl
    have hPs : (toB (comb 1 s n A)).size ≤ 10010 := by
      have h3 := comb_len (k := 1) hok (n : Int) A
      have h4 := h2.sz
      show (comb 1 s n A).length ≤ _
      omega
    obtain ⟨J, hJ⟩ : ∃ J : ByteArray, toB (comb 1 s n A) = J := ⟨_, rfl⟩
    rw [hJ] at hc cp hPs
    have s1 : (9223372036854775807 < 1 + J.size) = False := eq_false (by omega)
    have s2 : (9223372036854775807 < 1 + J.size + 1) = False := eq_false (by omega)
    have hcH := Lib.hid hc
    have cpH := Lib.hid cp
    clear h1 h2 cp hc q0 q1
    go_enter Tryz.func52, Tryz.ntmps52
    go_wp2_with (go_at_call 48; (with_reducible refine cpH.out.mono ?_); rintro e w2 ⟨rfl, hb2⟩)
    go_ret
    exact ⟨congrArg (fun b => Ending.returned (.string b)) hcH.out, hb2⟩
end Go.Proofs.YtljkojpooajlhaaGreatDoor

/- Walks: the closure of tongue.written. -/
namespace Go.Proofs.YtljkojpooajlhaaGreatDoor
open Go Go.RowKit Go.Maps

theorem gby_refl' (w : World) (row : Option Nat) : w.grownBy w row := ⟨rfl, rfl, rfl, Nat.le_refl _, fun _ _ _ => rfl⟩
theorem gby_trans' {a w w' : World} {row : Option Nat} (h : a.grownBy w row) (k : w.grownBy w' row) : a.grownBy w' row :=
  ⟨k.os.trans h.os, k.tape.trans h.tape, k.output.trans h.output, Nat.le_trans h.size k.size, fun i hi hr => (k.block i (Nat.lt_of_lt_of_le hi h.size) hr).trans (h.block i hi hr)⟩
theorem gby_below' {w w' : World} {row : Option Nat} (hb : Below w.heap.size w w') : w.grownBy w' row := ⟨hb.os, hb.tape, hb.output, hb.size, fun i hi _ => hb.block i hi⟩
theorem gby_more {W w1 w' : World} {row r : Option Nat} (h : W.grownBy w1 row) (hg : w1.grownBy w' r) (hr : ∀ j, r = some j → W.heap.size ≤ j) : W.grownBy w' row :=
  ⟨hg.os.trans h.os, hg.tape.trans h.tape, hg.output.trans h.output, Nat.le_trans h.size hg.size, fun i hi hn => (hg.block i (Nat.lt_of_lt_of_le hi h.size) (fun e => by have := hr i e.symm; omega)).trans (h.block i hi hn)⟩
theorem gby_cell {W w' : World} {b : Nat} (h : W.grownBy w' (some b)) {p : Addr} {v : Value} (hp : W.cell? p = some v) (hne : p.block ≠ b) : w'.cell? p = some v :=
  (World.cell?_of_block (h.block _ (World.block_lt_of_cell? _ _ hp) (fun e => hne (by injection e with e)))).trans hp
def AtBox (w : World) (ba p : Nat) : Prop := w.heap[ba]? = some (.cells #[.int .i64 (p : Int)] 3 (0, 0))
theorem AtBox.cell {w : World} {ba p : Nat} (h : AtBox w ba p) : w.cell? ⟨ba, 0, none⟩ = some (.int .i64 (p : Int)) := by simp [World.cell?, show w.heap[ba]? = _ from h]
theorem AtBox.frozen {w : World} {ba p : Nat} (h : AtBox w ba p) : w.frozen? ⟨ba, 0, none⟩ = false := by simp [World.frozen?, show w.heap[ba]? = _ from h]
theorem AtBox.lt {w : World} {ba p : Nat} (h : AtBox w ba p) : ba < w.heap.size := (Array.getElem?_eq_some_iff.1 h).1
theorem AtBox.set {w : World} {ba p : Nat} (h : AtBox w ba p) (q : Nat) : AtBox (w.setCell ⟨ba, 0, none⟩ (.int .i64 (q : Int))) ba q := by
  unfold AtBox
  simp [World.setCell, Array.getElem?_modify, show w.heap[ba]? = _ from h]
theorem AtBox.below {w w' : World} {ba p : Nat} (h : AtBox w ba p) (hb : Below w.heap.size w w') : AtBox w' ba p := (hb.block ba h.lt).trans h
theorem AtBox.kept {w w' : World} {ba p : Nat} {r : Option Nat} (h : AtBox w ba p) (hg : w.grownBy w' r) (hr : r ≠ some ba) : AtBox w' ba p := (hg.block ba h.lt (fun e => hr e.symm)).trans h
theorem gby_setAt (w : World) (b : Nat) (v : Value) : w.grownBy (w.setCell ⟨b, 0, none⟩ v) (some b) :=
  ⟨rfl, rfl, rfl, by simp [World.setCell], fun k _ hk => Below.heap_setCell _ _ _ _ (fun e => hk (by simp [e]))⟩
abbrev wrV (bt ba bs bw bx : Nat) : Value := .func (.func 47) #[] #[.pointer (some ⟨bt, 0, none⟩), .pointer (some ⟨ba, 0, none⟩), .pointer (some ⟨bs, 0, none⟩), .pointer (some ⟨bw, 0, none⟩), .pointer (some ⟨bx, 0, none⟩)]
/-- the boxes of a call of written -/
structure WBox (wI : World) (bt ba bs bw bx F : Nat) (a1 a2 : Option Addr) (c1 c2 : Nat) (s : Sg) (t : List Int) : Prop where
  ct : wI.cell? ⟨bt, 0, none⟩ = some (.slice a2 t.length c2)
  cs : wI.cell? ⟨bs, 0, none⟩ = some (.slice a1 s.length c1)
  cw : wI.cell? ⟨bw, 0, none⟩ = some (wrV bt ba bs bw bx)
  cx : wI.cell? ⟨bx, 0, none⟩ = some (.func (.func F) #[] #[])
  nt : bt ≠ ba
  ns : bs ≠ ba
  nw : bw ≠ ba
  nx : bx ≠ ba
  sg : Sign (fun b => b ≠ ba) wI a1 c1 s
  tm : Ints (fun b => b ≠ ba) wI a2 c2 t
def wrRet (k : Nat) (W : World) (ba p : Nat) (s : Sg) (u : List Int) (e : Ending) (w' : World) : Prop := e = .returned (.string (toB (txt k s u))) ∧ W.grownBy w' (some ba) ∧ AtBox w' ba (p + u.length)
def WrAt (k : Nat) (wI : World) (bt ba bs bw bx : Nat) (s : Sg) (p : Nat) (u : List Int) : Prop :=
  ∀ W, wI.grownBy W (some ba) → AtBox W ba p → Calls Tryz.prog 47 #[.pointer (some ⟨bt, 0, none⟩), .pointer (some ⟨ba, 0, none⟩), .pointer (some ⟨bs, 0, none⟩), .pointer (some ⟨bw, 0, none⟩), .pointer (some ⟨bx, 0, none⟩)] W (wrRet k W ba p s u)
set_option maxRecDepth 20000 in
set_option maxHeartbeats 2000000 in
/-- a variable is written -/
theorem wr_var {k : Nat} {wI : World} {bt ba bs bw bx F : Nat} {a1 a2 : Option Addr} {c1 c2 : Nat} {s : Sg} {t : List Int} (hb : WBox wI bt ba bs bw bx F a1 a2 c1 c2 s t) (hl : t.length ≤ 60) {p : Nat} (hp : p < t.length) (hc : codeOk s t[p] = true) (hn : t[p] < 0) :
    WrAt k wI bt ba bs bw bx s p [t[p]] := by
  intro W hg hA
  have hAg : Agree (fun b => b ≠ ba) wI W := .of_grown hg (fun b hb e => hb (by cases e; rfl))
  obtain ⟨b2, o2, rfl, hb2, q2, -⟩ := (hb.tm.same hAg).int p hp
  have qt := gby_cell hg hb.ct hb.nt
  have qa := hA.cell
  have fa := hA.frozen
  obtain ⟨x, hx⟩ : ∃ x, t[p] = x := ⟨_, rfl⟩
  rw [hx] at q2 hc hn ⊢
  have h12 : -12 ≤ x := by
    simp only [codeOk, Bool.or_eq_true, decide_eq_true_eq] at hc
    omega
  obtain ⟨n, hxn⟩ : ∃ n : Nat, x = -(n : Int) - 1 := ⟨(-x - 1).toNat, by omega⟩
  have htx : txt k s [x] = 120 :: Lib.decDigits n := by rw [txt_neg hn, show (-x - 1).toNat = n by omega]
  have hds := dec_len (v := n) (by omega)
  have hcc : (⟨#[120]⟩ : ByteArray) ++ ⟨(Lib.decDigits n).toArray⟩ = toB (txt k s [x]) := by rw [htx]; exact toB_append [120] (Lib.decDigits n)
  have ci := fun W => Itoa_small n (by omega) W
  have hJs : (⟨(Lib.decDigits n).toArray⟩ : ByteArray).size ≤ 2 := hds
  obtain ⟨J, hJ⟩ : ∃ J : ByteArray, (⟨(Lib.decDigits n).toArray⟩ : ByteArray) = J := ⟨_, rfl⟩
  rw [hJ] at hcc hJs
  simp only [hJ] at ci
  have s1 : (9223372036854775807 < 1 + J.size) = False := eq_false (by omega)
  subst hxn
  have hw0 : IntKind.i64.wrap ((p : Int) + 1) = (p : Int) + 1 := by rw [IntWalk.i64_in _ (by omega)]
  have e1 : ((p + 1 : Nat) : Int) = (p : Int) + 1 := by omega
  have hw1 : IntKind.i64.wrap (-(-(n : Int) - 1)) = (n : Int) + 1 := by rw [IntWalk.i64_in _ (by omega)]; omega
  have hw2 : IntKind.i64.wrap ((n : Int) + 1 - 1) = (n : Int) := by rw [IntWalk.i64_in _ (by omega)]; omega
  have hw3 : wrap64 (n : Int) = (n : Int) := by unfold wrap64; omega
  have hdv : decide (-(n : Int) - 1 < 0) = true := by simp; omega
  have m2 := hb.tm.le
  obtain ⟨W2, hW2⟩ : ∃ W2, W.setCell ⟨ba, 0, none⟩ (.int .i64 ((p : Int) + 1)) = W2 := ⟨_, rfl⟩
  have hA2 : AtBox W2 ba (p + 1) := by rw [← hW2, ← e1]; exact hA.set (p + 1)
  have hg2 : W.grownBy W2 (some ba) := by rw [← hW2]; exact gby_setAt _ _ _
  have hccH := Lib.hid hcc
  have ciH := Lib.hid ci
  have hA2H := Lib.hid hA2
  have hg2H := Lib.hid hg2
  have hW2H := Lib.hid hW2
  clear hb hg hA hAg hc hn htx hcc hds ci hJ hA2 hg2 hW2 hx h12 e1
  go_enter Tryz.func47, Tryz.ntmps47
  go_upto_region 3 with fail
  rw [hW2H.out]
  go_wp2_with (go_at_call 22; (with_reducible refine (ciH.out _).mono ?_); rintro e w2 ⟨rfl, rfl⟩)
  go_ret
  exact ⟨congrArg (fun b => Ending.returned (.string b)) hccH.out, hg2H.out, hA2H.out⟩
theorem splitK_get {s : Sg} : ∀ {k m : Nat} {l l' : List Int} (_ : skip s k l = some l') (_ : k < m), (splitK s m l)[k]? = some (partAt s l')
  | _, 0, _, _, _, hm => by omega
  | 0, m + 1, l, l', h, _ => by
    rw [skip_zero] at h
    cases h
    simp [splitK]
  | k + 1, m + 1, l, l', h, hm => by
    obtain ⟨x, h1, h2⟩ := skip_one h
    rw [splitK, h1]
    simpa using splitK_get h2 (show k < m by omega)
theorem part_rest {s : Sg} {t r : List Int} {p : Nat} (h : skip s 1 (t.drop p) = some r) (hp : p ≤ t.length) : r = t.drop (p + (partAt s (t.drop p)).length) ∧ p + (partAt s (t.drop p)).length ≤ t.length ∧ 1 ≤ (partAt s (t.drop p)).length := by
  obtain ⟨h1, -, h3⟩ := partAt_eq h
  obtain ⟨u, hu⟩ : ∃ u, partAt s (t.drop p) = u := ⟨_, rfl⟩
  rw [hu] at h1 h3 ⊢
  refine ⟨?_, ?_, h3⟩
  · rw [← List.drop_drop, h1, List.drop_append_of_le_length (Nat.le_refl _), List.drop_length, List.nil_append]
  · have := congrArg List.length h1
    rw [List.length_drop, List.length_append] at this
    omega
theorem skip_stepK {s : Sg} {k m : Nat} {l l' r : List Int} (h : skip s k l = some l') (ht : skip s m l = some r) (hk : k < m) : ∃ l2, skip s 1 l' = some l2 ∧ skip s (k + 1) l = some l2 := by
  rw [show m = k + (m - k) by omega, skip_add, h, Option.bind_some, show m - k = (m - k - 1) + 1 by omega] at ht
  obtain ⟨l2, h1, -⟩ := skip_one ht
  exact ⟨l2, h1, by rw [skip_add, h, Option.bind_some, h1]⟩
def wrRel (k : Nat) (s : Sg) (t : List Int) (p m ba : Nat) (W2 : World) (out i : Value) (wr : World) : Prop :=
  ∃ (j p' : Nat) (A : List (List UInt8)), i = .int .i64 j ∧ j ≤ m ∧ A = ((splitK s m (t.drop (p + 1))).take j).map (txt k s) ∧ skip s j (t.drop (p + 1)) = some (t.drop p') ∧ p + 1 ≤ p' ∧ p' ≤ t.length ∧ OwnSt3 wr W2.heap.size out (A.map toB) ∧ W2.grownBy wr (some ba) ∧ AtBox wr ba p'
set_option maxRecDepth 20000 in
set_option maxHeartbeats 4000000 in
/-- a symbol is written -/
theorem wr_node {k : Nat} {wI : World} {bt ba bs bw bx F : Nat} {a1 a2 : Option Addr} {c1 c2 : Nat} {s : Sg} {t : List Int} (hb : WBox wI bt ba bs bw bx F a1 a2 c1 c2 s t) (hok : okSign s = true) (hl : t.length ≤ 60)
    (eF : ∀ args W, (callFunc F args).run Tryz.prog W = .ok (.enter F args) W)
    (cF : ∀ (S1 S2 : Nat → Prop) (b1 b2 : Option Addr) (d1 d2 n : Nat) (A : List (List UInt8)) (W : World), n < s.length → Sign S1 W b1 d1 s → TArgs S2 W b2 d2 A → Calls Tryz.prog F #[.slice b1 s.length d1, .int .i64 n, .slice b2 A.length d2] W fun e w' => e = .returned (.string (toB (comb k s n A))) ∧ Below W.heap.size W w')
    {p : Nat} {r : List Int} (hsk : skip s 1 (t.drop p) = some r) (hp : p < t.length) (hn : ¬ t[p] < 0)
    (hrec : ∀ p' r', p < p' → skip s 1 (t.drop p') = some r' → WrAt k wI bt ba bs bw bx s p' (partAt s (t.drop p'))) : WrAt k wI bt ba bs bw bx s p (partAt s (t.drop p)) := by
  intro W hg hA
  have hAg : Agree (fun b => b ≠ ba) wI W := .of_grown hg (fun b hb e => hb (by cases e; rfl))
  obtain ⟨b2, o2, rfl, hb2, q2, -⟩ := (hb.tm.same hAg).int p hp
  obtain ⟨hp', hc, hss⟩ := skip_drop (k := 0) hsk
  rw [Nat.zero_add] at hss
  obtain ⟨g1, -, -, -⟩ := part_args hsk
  rw [List.getD_eq_getElem?_getD, List.getElem?_eq_getElem hp, Option.getD_some] at g1
  obtain ⟨pr1, pr2, pr3⟩ := part_rest hsk (by omega)
  have hpe := partAt_eq hsk
  obtain ⟨u, hu⟩ : ∃ u, partAt s (t.drop p) = u := ⟨_, rfl⟩
  rw [hu] at g1 pr1 pr2 pr3 hpe ⊢
  have huok : okT s u = true := okT_of_skip hok hpe.2.1 (by omega)
  have hhead : u.headD 0 = t[p] := by
    have h1 := hpe.1
    rw [List.drop_eq_getElem_cons hp] at h1
    cases hu2 : u with
    | nil => rw [hu2] at pr3; simp at pr3
    | cons y z => rw [hu2, List.cons_append] at h1; rw [List.headD_cons]; exact (List.cons.inj h1).1.symm
  obtain ⟨x, hx⟩ : ∃ x, t[p] = x := ⟨_, rfl⟩
  rw [hx] at q2 hn hc hss g1 hhead
  obtain ⟨n, rfl⟩ : ∃ n : Nat, x = (n : Int) := ⟨x.toNat, by omega⟩
  have hns : n < s.length := by
    simp only [codeOk, Bool.or_eq_true, decide_eq_true_eq] at hc
    omega
  have har3 := (arC_ok hok hc).2
  have harc := (arC_ok hok hc).1
  have hari : s[n].2 = ((ar s (n : Int) : Nat) : Int) := by
    rw [← harc]
    unfold arC
    rw [if_neg (by omega), if_pos ⟨by omega, by omega⟩, Int.toNat_natCast, List.getD_eq_getElem?_getD, List.getElem?_eq_getElem hns]; rfl
  obtain ⟨m, hm⟩ : ∃ m, ar s (n : Int) = m := ⟨_, rfl⟩
  rw [hm] at hss g1 har3 hari
  have htx : txt k s u = comb k s (n : Int) ((splitK s m (t.drop (p + 1))).map (txt k s)) := by
    rw [txt_node huok (by rw [hhead]; omega), hhead, g1]
  have hsz : (((splitK s m (t.drop (p + 1))).map (txt k s)).map (fun x => x.length + 4)).sum ≤ 10000 := by
    obtain ⟨f1, f2, f3⟩ := argsT_spec huok
    rw [g1] at f1 f2 f3
    have hfl := congrArg List.length f2
    rw [List.length_cons] at hfl
    have h2 := sum_le (L := (splitK s m (t.drop (p + 1))).map (txt k s)) (c := 4) (M := splitK s m (t.drop (p + 1))) (by simp) (fun i h3 h4 => by
      rw [List.getElem_map]
      exact txt_len _ (f3 _ (List.getElem_mem h4)) (Nat.le_refl _))
    have : (splitK s m (t.drop (p + 1))).length = m := by rw [f1, hhead, hm]
    omega
  have hspl : (splitK s m (t.drop (p + 1))).length = m := by
    obtain ⟨f1, -, -⟩ := argsT_spec huok
    rw [g1] at f1; rw [f1, hhead, hm]
  have qt := gby_cell hg hb.ct hb.nt
  have qa := hA.cell
  have fa := hA.frozen
  have m2 := hb.tm.le
  have hw0 : IntKind.i64.wrap ((p : Int) + 1) = (p : Int) + 1 := by rw [IntWalk.i64_in _ (by omega)]
  have e1 : ((p + 1 : Nat) : Int) = (p : Int) + 1 := by omega
  have hdv : decide ((n : Int) < 0) = false := by simp
  obtain ⟨W2, hW2⟩ : ∃ W2, W.setCell ⟨ba, 0, none⟩ (.int .i64 ((p : Int) + 1)) = W2 := ⟨_, rfl⟩
  have hA2 : AtBox W2 ba (p + 1) := by rw [← hW2, ← e1]; exact hA.set (p + 1)
  have hg2 : W.grownBy W2 (some ba) := by rw [← hW2]; exact gby_setAt _ _ _
  have hI2 := gby_trans' hg hg2
  have hAg2 : Agree (fun b => b ≠ ba) wI W2 := .of_grown hI2 (fun b hb e => hb (by cases e; rfl))
  have qs2 := gby_cell hI2 hb.cs hb.ns
  obtain ⟨bS, oS, rfl, hbS, -, r1, -⟩ := (hb.sg.same hAg2).sym n hns
  rw [hari] at r1
  have hbaI : ba < W2.heap.size := hA2.lt
  have hcx : ∀ w', wI.grownBy w' (some ba) → w'.cell? ⟨bx, 0, none⟩ = some (.func (.func F) #[] #[]) ∧ w'.cell? ⟨bs, 0, none⟩ = some (.slice (some ⟨bS, oS, none⟩) s.length c1) ∧ w'.cell? ⟨bw, 0, none⟩ = some (wrV bt ba bs bw bx) ∧ Sign (fun b => b ≠ ba) w' (some ⟨bS, oS, none⟩) c1 s := fun w' h =>
    ⟨gby_cell h hb.cx hb.nx, gby_cell h hb.cs hb.ns, gby_cell h hb.cw hb.nw, hb.sg.same (.of_grown h (fun b hb e => hb (by cases e; rfl)))⟩
  have hcxH := Lib.hid hcx
  have hI2H := Lib.hid hI2
  have hg2H := Lib.hid hg2
  have hA2H := Lib.hid hA2
  have hW2H := Lib.hid hW2
  have hrecH := Lib.hid hrec
  have hssH := Lib.hid hss
  have hszH := Lib.hid hsz
  have hsplH := Lib.hid hspl
  have htxH := Lib.hid htx
  have prH := Lib.hid pr1
  have hskH := Lib.hid hsk
  have cFH := Lib.hid cF
  have eFH := Lib.hid eF
  have m3 := hb.sg.le
  clear hb hg hA hAg hc hn hrec hss g1 hpe huok hhead hx hm htx hsz hspl hari harc hA2 hg2 hI2 hAg2 hcx hW2 hu pr1 hsk cF eF e1 hp'
  go_enter Tryz.func47, Tryz.ntmps47
  go_upto_region 3 with fail
  rw [hW2H.out]
  clear qt qa fa q2 hb2
  go_wp2_with fail
  go_loopw [7, 26] (fun out i wr => wrRel k s t p m ba W2 out i wr) (fun _ i _ => m - (intOf i).toNat)
  case atStart => exact ⟨0, p + 1, [], rfl, Nat.zero_le _, rfl, skip_zero _ _, Nat.le_refl _, hp, .nil _ _ _ _ _, gby_refl' _ _, hA2H.out⟩
  case round =>
    obtain ⟨j, p', A, rfl, hj, hA, hs, hp1, hp2, ho, hg, hAt⟩ := hrel
    have hIr := gby_trans' hI2H.out hg
    have hAl : A.length = j := by rw [hA, List.length_map, List.length_take, hsplH.out]; omega
    have hol := OwnL.lt ho
    by_cases hjm : j < m
    · obtain ⟨l2, n1, n2⟩ := skip_stepK hs hssH.out hjm
      have hcall := hrecH.out p' l2 (by omega) n1
      obtain ⟨y1, y2, y3⟩ := part_rest n1 hp2
      rw [y1] at n2
      have hel := splitK_get hs hjm
      have hpv := partAt_eq n1
      obtain ⟨v, hv⟩ : ∃ v, partAt s (t.drop p') = v := ⟨_, rfl⟩
      rw [hv] at hcall y2 y3 n2 hel hpv
      have hvok : okT s v = true := okT_of_skip hok hpv.2.1 (by omega)
      have hvl := txt_len (k := k) v.length hvok (Nat.le_refl _)
      have hA2 : A ++ [txt k s v] = ((splitK s m (t.drop (p + 1))).take (j + 1)).map (txt k s) := by
        rw [List.take_add_one, hel, List.map_append, ← hA]; rfl
      have qw := (hcxH.out wr hIr).2.2.1
      have hc0 : Calls _ _ _ _ fun e w' => e = .returned (.string (toB (txt k s v))) ∧ wr.grownBy w' (some ba) ∧ AtBox w' ba (p' + v.length) := hcall wr hIr hAt
      obtain ⟨X, hX⟩ : ∃ X, txt k s v = X := ⟨_, rfl⟩
      have hXs : (toB X).size ≤ big := by
        rw [← hX]
        show (txt k s v).length ≤ big
        unfold big; omega
      have hpush : ∀ w1, wr.grownBy w1 (some ba) → AtBox w1 ba (p' + v.length) → ∃ v' w', RowKit.Hid ((Builtin.append_ #[50, 50] 50 #[_, .slice (some ⟨w1.heap.size, 0, none⟩) 1 1]).run Tryz.prog (w1.alloc (.cells #[.string (toB X)] 9)) = .ok v' w') ∧ RowKit.Hid (wrRel k s t p m ba W2 v' (.int .i64 ((j + 1 : Nat) : Int)) w') := fun w1 h1 h2 => by
        have ho1 : OwnSt3 w1 W2.heap.size _ (A.map toB) := OwnL.grown ho h1 (fun k hk e => by
          injection e with e
          have := (hol k hk).1
          omega) (fun _ h => h.elim)
        have hW2 : W2.heap.size ≤ w1.heap.size := Nat.le_trans hg.size h1.size
        obtain ⟨v', w', f1, f2, f3, -⟩ := ho1.push (P := Tryz.prog) (t := 50) (ty := 50) Tryz.underlying50 infoStr3 rfl (vs := [.string (toB X)]) (x := toB X) ⟨rfl, hXs⟩ (by rw [List.length_map]; omega) (by rw [List.length_map]; unfold big; omega) hW2
        have hlt1 := OwnL.lt ho1
        refine ⟨v', w', Lib.hid f1, Lib.hid ⟨j + 1, p' + v.length, A ++ [X], rfl, hjm, by rw [← hX]; exact hA2, n2, by omega, y2, by rw [List.map_append]; exact f2, gby_more (gby_trans' hg h1) f3 (fun i e => (hlt1 i e).1), h2.kept f3 (fun e => ?_)⟩⟩
        have := (hlt1 ba e).1
        omega
      rw [hX] at hc0
      have hc := Lib.hid hc0
      have hpushH := Lib.hid hpush
      clear hc0 hA hs ho hg hAt hIr hol n1 n2 hcall hel hpv hvok hvl hA2 hXs hpush hv
      go_wp2_with (first
        | (go_at_call 47; (with_reducible refine hc.out.mono ?_); rintro e w1 ⟨rfl, hg1, hA1⟩; obtain ⟨v', w', hrun', hrel'⟩ := hpushH.out w1 hg1 hA1)
        | (at_builtin; refine wpList_append_run rfl _ _ _ rfl rfl rfl hrun'.out ?_))
      go_roundw
      case rel => exact hrel'.out
      case measure => simp [intOf]; omega
    · have hjm' : j = m := by omega
      subst hjm'
      have hA' : A = (splitK s j (t.drop (p + 1))).map (txt k s) := by rw [hA, List.take_of_length_le (by rw [hsplH.out]; exact Nat.le_refl _)]
      have hpp : p' = p + u.length := by
        have h1 := Option.some.inj (hs.symm.trans hssH.out)
        rw [prH.out] at h1
        have h2 := congrArg List.length h1
        rw [List.length_drop, List.length_drop] at h2
        omega
      obtain ⟨aL, cL, hout, hsl⟩ := OwnL.sl ho
      rw [List.length_map] at hout
      subst hout
      obtain ⟨qx, qs, -, hsg⟩ := hcxH.out wr hIr
      have hT : TArgs _ wr aL cL A := ⟨hsl, by omega, by rw [hA']; exact hszH.out⟩
      have cc := cFH.out _ _ _ aL c1 cL n A wr hns hsg hT
      rw [hA', ← htxH.out, ← hA'] at cc
      rw [hpp] at hAt
      have eF2 := eFH.out
      have ccH := Lib.hid cc
      have hgH := Lib.hid (gby_trans' hg2H.out hg)
      have hAtH := Lib.hid hAt
      have mA := hsl.le
      rw [List.length_map] at mA
      clear hA hA' hs ho hg hAt hIr hol hsl hT cc hsg hpp hA2H hI2H hg2H hAl
      go_wp2_with fail
      (with_reducible refine ccH.out.mono ?_)
      rintro e w1 ⟨rfl, hb1⟩
      go_wp2_with fail
      go_ret
      exact ⟨rfl, gby_trans' hgH.out (gby_below' hb1), hAtH.out.below hb1⟩
end Go.Proofs.YtljkojpooajlhaaGreatDoor

/- Walks: tongue.written, Write; awake of the laws on tongues. -/
namespace Go.Proofs.YtljkojpooajlhaaGreatDoor
open Go Go.RowKit Go.Maps

theorem part_neg {s : Sg} {t r : List Int} {p : Nat} (h : skip s 1 (t.drop p) = some r) (hp : p < t.length) (hn : t[p] < 0) : partAt s (t.drop p) = [t[p]] := by
  obtain ⟨_, hc, hs⟩ := skip_drop (k := 0) h
  rw [ar_neg hn, Nat.zero_add, skip_zero] at hs
  have hr := Option.some.inj hs
  unfold partAt
  rw [h, Option.getD_some, ← hr, List.length_drop, List.length_drop, show t.length - p - (t.length - (p + 1)) = 1 by omega, List.drop_eq_getElem_cons hp]
  rfl
theorem wr_any {k : Nat} {wI : World} {bt ba bs bw bx F : Nat} {a1 a2 : Option Addr} {c1 c2 : Nat} {s : Sg} {t : List Int} (hb : WBox wI bt ba bs bw bx F a1 a2 c1 c2 s t) (hok : okSign s = true) (hl : t.length ≤ 60)
    (eF : ∀ args W, (callFunc F args).run Tryz.prog W = .ok (.enter F args) W)
    (cF : ∀ (S1 S2 : Nat → Prop) (b1 b2 : Option Addr) (d1 d2 n : Nat) (A : List (List UInt8)) (W : World), n < s.length → Sign S1 W b1 d1 s → TArgs S2 W b2 d2 A → Calls Tryz.prog F #[.slice b1 s.length d1, .int .i64 n, .slice b2 A.length d2] W fun e w' => e = .returned (.string (toB (comb k s n A))) ∧ Below W.heap.size W w') :
    ∀ (N p : Nat) (r : List Int), t.length - p ≤ N → skip s 1 (t.drop p) = some r → WrAt k wI bt ba bs bw bx s p (partAt s (t.drop p)) := by
  intro N
  induction N with
  | zero =>
    intro p r hN h
    obtain ⟨hp, -, -⟩ := skip_drop (k := 0) h
    omega
  | succ N ih =>
    intro p r hN h
    obtain ⟨hp, hc, -⟩ := skip_drop (k := 0) h
    by_cases hn : t[p] < 0
    · rw [part_neg h hp hn]
      exact wr_var hb hl hp hc hn
    · exact wr_node hb hok hl eF cF h hp hn (fun p' r' h1 h2 => ih p' r' (by omega) h2)
set_option maxRecDepth 20000 in
set_option maxHeartbeats 1000000 in
theorem twritten_any {k F R : Nat} {S1 S2 : Nat → Prop} (a1 a2 : Option Addr) (c1 c2 : Nat) (s : Sg) (t : List Int) (w : World) (h1 : Sign S1 w a1 c1 s) (h2 : Ints S2 w a2 c2 t) (hok : okT s t = true)
    (eF : ∀ args W, (callFunc F args).run Tryz.prog W = .ok (.enter F args) W)
    (cF : ∀ (S1 S2 : Nat → Prop) (b1 b2 : Option Addr) (d1 d2 n : Nat) (A : List (List UInt8)) (W : World), n < s.length → Sign S1 W b1 d1 s → TArgs S2 W b2 d2 A → Calls Tryz.prog F #[.slice b1 s.length d1, .int .i64 n, .slice b2 A.length d2] W fun e w' => e = .returned (.string (toB (comb k s n A))) ∧ Below W.heap.size W w') :
    Calls Tryz.prog 30 #[.slice a1 s.length c1, .agg #[.func (.func F) #[] #[], .func (.func R) #[] #[]], .slice a2 t.length c2] w fun e w' => e = .returned (.string (toB (txt k s t))) ∧ Below w.heap.size w w' := by
  have m1 := h1.le
  have m2 := h2.le
  obtain ⟨w3, hw3⟩ : ∃ w3, ((w.alloc (.cells #[.slice a1 s.length c1] 39)).alloc (.cells #[.func (.func F) #[] #[], .func (.func R) #[] #[]] 66)).alloc (.cells #[.slice a2 t.length c2] 40) = w3 := ⟨_, rfl⟩
  have hz3 : w3.heap.size = w.heap.size + 1 + 1 + 1 := by rw [← hw3]; simp
  obtain ⟨wI, hwI⟩ : ∃ wI, (w3.alloc (.cells #[.int .i64 0] 3)).alloc (.cells #[wrV (w.heap.size + 1 + 1) (w.heap.size + 1 + 1 + 1) w.heap.size (w.heap.size + 1 + 1 + 1 + 1) (w.heap.size + 1)] 79) = wI := ⟨_, rfl⟩
  have hb3 : Below w.heap.size w w3 := by rw [← hw3]; exact below3 _ _ _ _
  have hbI : Below w.heap.size w wI := by rw [← hwI]; exact bcall hb3 (below2 _ _ _)
  have hzI : wI.heap.size = w.heap.size + 1 + 1 + 1 + 1 + 1 := by rw [← hwI]; simp [hz3]
  have hA0 : AtBox wI (w.heap.size + 1 + 1 + 1) 0 := by
    have h0 : AtBox (w3.alloc (.cells #[.int .i64 0] 3)) w3.heap.size 0 := heap_alloc_new w3 _
    rw [hz3] at h0
    rw [← hwI]
    exact h0.below (below1 _ _)
  have ct : wI.cell? ⟨w.heap.size + 1 + 1, 0, none⟩ = some (.slice a2 t.length c2) := by rw [← hwI, ← hw3]; clear hwI hw3; go_simp
  have cs : wI.cell? ⟨w.heap.size, 0, none⟩ = some (.slice a1 s.length c1) := by rw [← hwI, ← hw3]; clear hwI hw3; go_simp
  have cx : wI.cell? ⟨w.heap.size + 1, 0, none⟩ = some (.func (.func F) #[] #[]) := by rw [← hwI, ← hw3]; clear hwI hw3; go_simp
  have cw : wI.cell? ⟨w.heap.size + 1 + 1 + 1 + 1, 0, none⟩ = some (wrV (w.heap.size + 1 + 1) (w.heap.size + 1 + 1 + 1) w.heap.size (w.heap.size + 1 + 1 + 1 + 1) (w.heap.size + 1)) := by rw [← hwI, ← hw3]; clear hwI hw3; go_simp
  have hbox : WBox wI (w.heap.size + 1 + 1) (w.heap.size + 1 + 1 + 1) w.heap.size (w.heap.size + 1 + 1 + 1 + 1) (w.heap.size + 1) F a1 a2 c1 c2 s t :=
    ⟨ct, cs, cw, cx, by omega, by omega, by omega, by omega, (h1.lt.below hbI).weak (fun b hb => by have := hb.2; omega), (h2.lt.below hbI).weak (fun b hb => by have := hb.2; omega)⟩
  obtain ⟨hs, -, hl, hsk⟩ := okT_parts hok
  have hc := wr_any hbox hs hl eF cF t.length 0 [] (Nat.sub_le _ _) hsk wI (gby_refl' _ _) hA0
  have hpt : partAt s (t.drop 0) = t := by
    rw [List.drop_zero]; unfold partAt; rw [hsk]; simp
  rw [hpt] at hc
  have hc0 : Calls _ _ _ _ fun e w' => e = .returned (.string (toB (txt k s t))) ∧ Below w.heap.size w w' := hc.mono fun e w' h => ⟨h.1, hbI.grown h.2.1 hbI.size (fun j e => by injection e with e; omega)⟩
  have hcH := Lib.hid hc0
  have hwIH := Lib.hid hwI
  rw [← hw3] at hwIH
  clear h1 h2 hok eF cF hw3 hz3 hwI hb3 hbI hzI hA0 ct cs hbox hc hc0 hpt cx hs hsk
  go_enter Tryz.func30, Tryz.ntmps30
  go_upto_region 4 with fail
  rw [hwIH.out]
  go_wp2_with fail
  (with_reducible refine hcH.out.mono ?_)
  rintro e w2 ⟨rfl, hb2⟩
  go_wp2_with fail
  go_ret
  exact ⟨rfl, hb2⟩
theorem styles_any (w : World) : Calls Tryz.prog 31 #[] w fun e w' => e = .returned (.agg #[.func (.func 48) #[] #[], .func (.func 49) #[] #[], .func (.func 50) #[] #[], .func (.func 51) #[] #[], .func (.func 52) #[] #[], .func (.func 53) #[] #[]]) ∧ Below w.heap.size w w' := by
  go_enter Tryz.func31, Tryz.ntmps31
  go_wp2_with fail
  exact bodyPost_ret (results_cell_row rfl _ _ w.heap.size _ _ _ _ rfl (heap_alloc_new w _) Tryz.underlying67 rfl (by kernel_rfl)) rfl ⟨rfl, below1 w _⟩
theorem style_at0 (W : World) : (Instr.index 67 (.agg #[.func (.func 48) #[] #[], .func (.func 49) #[] #[], .func (.func 50) #[] #[], .func (.func 51) #[] #[], .func (.func 52) #[] #[], .func (.func 53) #[] #[]]) (.int .i64 0)).run Tryz.prog W = .ok (.agg #[.func (.func 48) #[] #[], .func (.func 49) #[] #[]]) W := by kernel_rfl
theorem style_at1 (W : World) : (Instr.index 67 (.agg #[.func (.func 48) #[] #[], .func (.func 49) #[] #[], .func (.func 50) #[] #[], .func (.func 51) #[] #[], .func (.func 52) #[] #[], .func (.func 53) #[] #[]]) (.int .i64 1)).run Tryz.prog W = .ok (.agg #[.func (.func 50) #[] #[], .func (.func 51) #[] #[]]) W := by kernel_rfl
theorem style_at2 (W : World) : (Instr.index 67 (.agg #[.func (.func 48) #[] #[], .func (.func 49) #[] #[], .func (.func 50) #[] #[], .func (.func 51) #[] #[], .func (.func 52) #[] #[], .func (.func 53) #[] #[]]) (.int .i64 2)).run Tryz.prog W = .ok (.agg #[.func (.func 52) #[] #[], .func (.func 53) #[] #[]]) W := by kernel_rfl
theorem twithin_any (n lo hi : Int) (w : World) :
    Calls Tryz.prog 20 #[.int .i64 n, .int .i64 lo, .int .i64 hi] w fun e w' => e = .returned (.bool (decide (lo ≤ n) && decide (n ≤ hi))) ∧ w = w' := by
  go_enter Tryz.func20, Tryz.ntmps20
  go_wp2
  all_goals go_ret
  all_goals exact ⟨ret_bool (by simp; omega), rfl⟩

/-- a term written in a tongue -/
def writeE (s : Sg) (k : Int) (t : List Int) : List UInt8 × Int := if okT s t = true then (if (decide (1 ≤ k) && decide (k ≤ 3)) = true then (txt k.toNat s t, 0) else ([], 7)) else ([], 1)
theorem writeE_len {s : Sg} {k : Int} {t : List Int} : (writeE s k t).1.length ≤ 1440 := by
  unfold writeE
  split
  · rename_i h
    split
    · have := txt_len (k := k.toNat) t.length h (Nat.le_refl _)
      have := (okT_parts h).2.2.1
      simp only; omega
    · simp
  · simp
set_option maxRecDepth 20000 in
set_option maxHeartbeats 1000000 in
theorem Write_any {S1 S2 : Nat → Prop} (a1 a2 : Option Addr) (c1 c2 : Nat) (s : Sg) (k : Int) (t : List Int) (w : World) (h1 : Sign S1 w a1 c1 s) (h2 : Ints S2 w a2 c2 t) :
    Calls Tryz.prog 12 #[.slice a1 s.length c1, .int .i64 k, .slice a2 t.length c2] w fun e w' => e = .returned (.tuple #[.string (toB (writeE s k t).1), .int .i64 (writeE s k t).2]) ∧ Below w.heap.size w w' := by
  have m1 := h1.le
  have m2 := h2.le
  have v1 := Lib.hid (Valid_any a1 a2 c1 c2 s t w h1 h2)
  cases hx : okT s t with
  | false =>
    rw [hx] at v1
    have hR := Lib.hid (show writeE s k t = ([], 1) by rw [writeE, if_neg (by simp [hx])])
    clear h1 h2 hx
    go_enter Tryz.func12, Tryz.ntmps12
    go_wp2_with fail
    refine v1.out.mono ?_
    rintro e w1 ⟨rfl, hb1⟩
    go_wp2_with fail
    go_ret2
    rw [hR.out]
    exact ⟨rfl, hb1⟩
  | true =>
  rw [hx] at v1
  have v2 := Lib.hid (fun W => twithin_any k 1 3 W)
  cases hm : (decide (1 ≤ k) && decide (k ≤ 3)) with
  | false =>
    rw [hm] at v2
    have hR := Lib.hid (show writeE s k t = ([], 7) by rw [writeE, if_pos hx, if_neg (by simp [hm])])
    clear h1 h2 hx hm
    go_enter Tryz.func12, Tryz.ntmps12
    go_wp2_with fail
    refine v1.out.mono ?_
    rintro e w1 ⟨rfl, hb1⟩
    go_wp2_with fail
    refine (v2.out _).mono ?_
    rintro e w2 ⟨rfl, rfl⟩
    go_wp2_with fail
    go_ret2
    rw [hR.out]
    exact ⟨rfl, hb1⟩
  | true =>
  rw [hm] at v2
  have hR : writeE s k t = (txt k.toNat s t, 0) := by rw [writeE, if_pos hx, if_pos hm]
  have hk : 1 ≤ k ∧ k ≤ 3 := by simpa using hm
  have hok := (okT_parts hx).1
  rw [hR]
  have cs := Lib.hid styles_any
  have hkk : k = 1 ∨ k = 2 ∨ k = 3 := by omega
  rcases hkk with rfl | rfl | rfl
  · have cw := Lib.hid (fun W (hb : Below w.heap.size w W) => twritten_any (k := 1) (F := 48) (R := 49) a1 a2 c1 c2 s t W (h1.below hb) (h2.below hb) hx (enters_of Tryz.func48 (by kernel_rfl) rfl)
      (fun S1 S2 b1 b2 d1 d2 n A W hn h1 h2 => polish_any b1 b2 d1 d2 s n hn A W hok h1 h2))
    have hix := style_at0
    clear h1 h2 hx hm hR hk hok
    go_enter Tryz.func12, Tryz.ntmps12
    go_wp2_with fail
    refine v1.out.mono ?_
    rintro e w1 ⟨rfl, hb1⟩
    go_wp2_with fail
    refine (v2.out _).mono ?_
    rintro e w2 ⟨rfl, rfl⟩
    go_wp2_with fail
    refine (cs.out _).mono ?_
    rintro e w2 ⟨rfl, hb2⟩
    have hB2 := Lib.hid (bcall hb1 hb2)
    clear hb1 hb2
    go_wp2_with fail
    (with_reducible refine (cw.out _ hB2.out).mono ?_)
    rintro e w3 ⟨rfl, hb3⟩
    go_wp2_with fail
    go_ret2
    exact ⟨rfl, bcall hB2.out hb3⟩
  · have cw := Lib.hid (fun W (hb : Below w.heap.size w W) => twritten_any (k := 2) (F := 50) (R := 51) a1 a2 c1 c2 s t W (h1.below hb) (h2.below hb) hx (enters_of Tryz.func50 (by kernel_rfl) rfl)
      (fun S1 S2 b1 b2 d1 d2 n A W hn h1 h2 => arrows_any b1 b2 d1 d2 s n hn A W hok h1 h2))
    have hix := style_at1
    clear h1 h2 hx hm hR hk hok
    go_enter Tryz.func12, Tryz.ntmps12
    go_wp2_with fail
    refine v1.out.mono ?_
    rintro e w1 ⟨rfl, hb1⟩
    go_wp2_with fail
    refine (v2.out _).mono ?_
    rintro e w2 ⟨rfl, rfl⟩
    go_wp2_with fail
    refine (cs.out _).mono ?_
    rintro e w2 ⟨rfl, hb2⟩
    have hB2 := Lib.hid (bcall hb1 hb2)
    clear hb1 hb2
    go_wp2_with fail
    (with_reducible refine (cw.out _ hB2.out).mono ?_)
    rintro e w3 ⟨rfl, hb3⟩
    go_wp2_with fail
    go_ret2
    exact ⟨rfl, bcall hB2.out hb3⟩
  · have cw := Lib.hid (fun W (hb : Below w.heap.size w W) => twritten_any (k := 3) (F := 52) (R := 53) a1 a2 c1 c2 s t W (h1.below hb) (h2.below hb) hx (enters_of Tryz.func52 (by kernel_rfl) rfl)
      (fun S1 S2 b1 b2 d1 d2 n A W hn h1 h2 => brackets_any b1 b2 d1 d2 s n hn A W hok h1 h2))
    have hix := style_at2
    clear h1 h2 hx hm hR hk hok
    go_enter Tryz.func12, Tryz.ntmps12
    go_wp2_with fail
    refine v1.out.mono ?_
    rintro e w1 ⟨rfl, hb1⟩
    go_wp2_with fail
    refine (v2.out _).mono ?_
    rintro e w2 ⟨rfl, rfl⟩
    go_wp2_with fail
    refine (cs.out _).mono ?_
    rintro e w2 ⟨rfl, hb2⟩
    have hB2 := Lib.hid (bcall hb1 hb2)
    clear hb1 hb2
    go_wp2_with fail
    (with_reducible refine (cw.out _ hB2.out).mono ?_)
    rintro e w3 ⟨rfl, hb3⟩
    go_wp2_with fail
    go_ret2
    exact ⟨rfl, bcall hB2.out hb3⟩
end Go.Proofs.YtljkojpooajlhaaGreatDoor

/- Walk: awake of the laws on tongues. -/
namespace Go.Proofs.YtljkojpooajlhaaGreatDoor
open Go Go.RowKit Go.Maps

def aw3S : Sg := [(⟨#[67]⟩, 2), (⟨#[78]⟩, 1)]
def aw3T : List Int := [0, -1, 1, -2]
def aw3B : List UInt8 := [40, 120, 48, 32, 45, 62, 32, 78, 40, 120, 49, 41, 41]
theorem aw3_ok : okT aw3S aw3T = true := by kernel_rfl
theorem aw3_txt : txt 2 aw3S aw3T = aw3B := by kernel_rfl
theorem aw3_write : writeE aw3S 2 aw3T = (aw3B, 0) := by
  unfold writeE
  rw [if_pos aw3_ok, if_pos (by decide), show (2 : Int).toNat = 2 from rfl, aw3_txt]
set_option maxHeartbeats 2000000 in
theorem awake3_any (w : World) :
    Calls Tryz.prog 5 #[] w fun e w' => e = .returned (.bool true) ∧ Below w.heap.size w w' := by
  have hS := Sl.new (E := symE) (S := fun _ => False) w [[.string ⟨#[67]⟩, .int .i64 2], [.string ⟨#[78]⟩, .int .i64 1]] aw3S 37 rfl (by decide) (fun i h1 h2 => by
    match i, h1 with
    | 0, _ => exact ⟨[_], [_], rfl, ⟨rfl, (by decide : 1 ≤ big)⟩, ⟨rfl, (by unfold inRange; decide : inRange 2)⟩⟩
    | 1, _ => exact ⟨[_], [_], rfl, ⟨rfl, (by decide : 1 ≤ big)⟩, ⟨rfl, (by unfold inRange; decide : inRange 1)⟩⟩)
  obtain ⟨W1, hW1⟩ : ∃ W, w.alloc (.cells #[.string ⟨#[67]⟩, .int .i64 2, .string ⟨#[78]⟩, .int .i64 1] 37) = W := ⟨_, rfl⟩
  have hS1 : Sign (fun _ => True) W1 (some ⟨w.heap.size, 0, none⟩) 2 aw3S := by rw [← hW1]; exact Sl.any hS
  have hz1 : W1.heap.size = w.heap.size + 1 := by rw [← hW1]; simp
  have hB1 : Below w.heap.size w W1 := by rw [← hW1]; exact below1 w _
  have hK := Ints.new W1 aw3T 3 (by decide) (by unfold inRange; decide)
  obtain ⟨W2, hW2⟩ : ∃ W, W1.alloc (.cells #[.int .i64 0, .int .i64 (-1), .int .i64 1, .int .i64 (-2)] 3) = W := ⟨_, rfl⟩
  have hK2 : Ints (fun _ => True) W2 (some ⟨w.heap.size + 1, 0, none⟩) 4 aw3T := by rw [← hz1, ← hW2]; exact Sl.any hK
  have hB2 : Below W1.heap.size W1 W2 := by rw [← hW2]; exact below1 W1 _
  have cw := Write_any (some ⟨w.heap.size, 0, none⟩) (some ⟨w.heap.size + 1, 0, none⟩) 2 4 aw3S 2 aw3T W2 (hS1.below hB2) hK2
  rw [aw3_write] at cw
  have cw0 : Calls Tryz.prog 12 #[.slice (some ⟨w.heap.size, 0, none⟩) 2 2, .int .i64 2, .slice (some ⟨w.heap.size + 1, 0, none⟩) 4 4] W2 fun e w' => e = .returned (.tuple #[.string ⟨#[40, 120, 48, 32, 45, 62, 32, 78, 40, 120, 49, 41, 41]⟩, .int .i64 0]) ∧ Below W2.heap.size W2 w' := cw
  have cwH := Lib.hid cw0
  have hBH := Lib.hid (bcall hB1 hB2)
  clear hS hS1 hK hK2 cw cw0 hB1 hB2
  go_enter Tryz.func5, Tryz.ntmps5
  go_wp2_with (go_at_call 12; (with_reducible refine cwH.out.mono ?_); rintro e w1 ⟨rfl, hb1⟩)
  go_ret
  exact ⟨rfl, bcall hBH.out hb1⟩
theorem aw3_from {B : Nat} {W W' : World} (hb : Below B W W') (hB : B ≤ W.heap.size) : Calls Tryz.prog 5 #[] W' fun e w' => e = .returned (.bool true) ∧ Below B W w' :=
  (awake3_any W').mono fun _ _ h => ⟨h.1, hb.trans (h.2.mono (Nat.le_trans hB hb.size))⟩
end Go.Proofs.YtljkojpooajlhaaGreatDoor
