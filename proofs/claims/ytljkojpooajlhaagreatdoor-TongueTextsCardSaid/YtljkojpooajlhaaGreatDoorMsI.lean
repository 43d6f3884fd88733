/- The proof of a statement, some of its texts joined in build order: part I. -/
import Derived.Test.YtljkojpooajlhaaGreatDoorMsB
import Derived.Test.YtljkojpooajlhaaGreatDoorMath6
import Derived.RangeFuncBox
import Derived.RangeFuncNested
import Derived.RangeFuncBound
import Derived.RangeFuncCalls
import Derived.RangeFuncLeaves
import Derived.Shelf.Abstract
import Derived.Shelf.RegionOpen
import Derived.OwnWalkIn
import Derived.TacticsInMore
import Derived.LoopNIn
import Derived.LoopIn
import Derived.Maps.AppendAt
import Derived.Test.YtljkojpooajlhaaGreatDoorMath8
import Derived.Lib.AtoiAll
import Derived.Lib.Atoi
import Derived.Lib.IndexMore
import Derived.Lib.ItoaNum
import Derived.Lib.IndexLaws
import Derived.Lib.Join
import Derived.Test.YtljkojpooajlhaaGreatDoorRegion
import Derived.Test.YtljkojpooajlhaaGreatDoorShCut
import Derived.Test.YtljkojpooajlhaaGreatDoorShAtoi
import Derived.Shelf.Strings.Search2
import Derived.Lib.CutLaws
import Derived.BigQuiet
import Derived.Test.YtljkojpooajlhaaGreatDoorLeaves
import Derived.Test.YtljkojpooajlhaaGreatDoorMath9
import Derived.Test.YtljkojpooajlhaaGreatDoorRangeB
import Derived.Test.YtljkojpooajlhaaGreatDoorBoxB
/- Walks: At, of both; lists of terms alike; all valid. -/
namespace Go.Proofs.YtljkojpooajlhaaGreatDoor
open Go Go.RowKit Go.Maps

def spanV (s : Sg) (t p : List Int) : Value := match place s t p 0 with
  | some z => .tuple #[.int .i64 z, .int .i64 (z + (partAt s (t.drop z)).length : Nat), .bool true]
  | none => .tuple #[.int .i64 0, .int .i64 0, .bool false]
def spanRel (s : Sg) (t p : List Int) (w : World) (fr to i : Value) (wr : World) : Prop :=
  ∃ (j a : Nat) (rest : List Int), i = .int .i64 j ∧ fr = .int .i64 a ∧ to = .int .i64 (t.length - rest.length : Nat) ∧ j ≤ p.length ∧ skip s 1 (t.drop a) = some rest ∧ place s t (p.drop j) a = place s t p 0 ∧ Below w.heap.size w wr
def sumRel (L : List (List Int)) (a k : Nat) (w1 : World) (fr i : Value) (wr : World) : Prop :=
  ∃ q : Nat, i = .int .i64 q ∧ q ≤ k ∧ fr = .int .i64 (a + 1 + (L.take q).flatten.length : Nat) ∧ wr = w1
theorem len_take_flatten {L : List (List Int)} {q : Nat} : (L.take q).flatten.length ≤ L.flatten.length := by
  have : L.flatten.length = (L.take q).flatten.length + (L.drop q).flatten.length := by rw [← List.length_append, ← List.flatten_append, List.take_append_drop]
  omega
theorem take_flatten_succ {L : List (List Int)} {q : Nat} (h : q < L.length) : (L.take (q + 1)).flatten.length = (L.take q).flatten.length + L[q].length := by
  rw [List.take_succ_eq_append_getElem h, List.flatten_append, List.length_append]; simp
end Go.Proofs.YtljkojpooajlhaaGreatDoor

/- Walks: Depth of the reference, Vars of the reference. -/
namespace Go.Proofs.YtljkojpooajlhaaGreatDoor
open Go Go.RowKit Go.Maps

def depRel (s : Sg) (t r : List Int) (p m F : Nat) (w : World) (most i : Value) (wr : World) : Prop :=
  ∃ j q D : Nat, i = .int .i64 j ∧ most = .int .i64 D ∧ j ≤ m ∧ q ≤ t.length ∧ p < q ∧ skip s j (t.drop (p + 1)) = some (t.drop q) ∧ skip s (m - j) (t.drop q) = some r ∧
    D ≤ F ∧ max D (depArgs (dep s F) s (m - j) (t.drop q)) = depArgs (dep s F) s m (t.drop (p + 1)) ∧ Below w.heap.size w wr
def depE (s : Sg) (t : List Int) : Int × Int := if okT s t = true then (((depth s t : Nat) : Int), 0) else (0, 1)
theorem depE_eq (s : Sg) (t : List Int) : (if okT s t then #[Value.int .i64 (depth s t : Nat), .int .i64 0] else #[.int .i64 0, .int .i64 1]) = #[.int .i64 (depE s t).1, .int .i64 (depE s t).2] := by
  unfold depE; split <;> rfl
end Go.Proofs.YtljkojpooajlhaaGreatDoor

/- Walks: lists of terms alike. -/
namespace Go.Proofs.YtljkojpooajlhaaGreatDoor
open Go Go.RowKit Go.Maps

end Go.Proofs.YtljkojpooajlhaaGreatDoor

/- Walks: Counts, of both; Vars of the reference; slices.Contains. -/
namespace Go.Proofs.YtljkojpooajlhaaGreatDoor
open Go Go.RowKit Go.Maps

def varsE (s : Sg) (t : List Int) : List Int × Int := errE s t (varsV t)
/-! ### Counts -/
def cntL (n : Nat) (t : List Int) : List Int := (List.range n).map (fun (j : Nat) => ((t.count ((j : Nat) : Int) : Nat) : Int))
theorem cntL_length (n : Nat) (t : List Int) : (cntL n t).length = n := by simp [cntL]
theorem cntL_nil (n : Nat) : cntL n [] = List.replicate n 0 := by
  apply List.ext_getElem
  · simp [cntL]
  · intro i h1 h2; simp [cntL]
theorem cntL_get {n k : Nat} {t : List Int} (h : k < n) : (cntL n t)[k]'(by rw [cntL_length]; exact h) = ((t.count (k : Int) : Nat) : Int) := by simp [cntL]
theorem cntL_pos {n x k : Nat} {t : List Int} (hk : k < t.length) (hx : t[k] = (x : Int)) (_hn : x < n) : (cntL n (t.take k)).set x (((t.take k).count (x : Int) : Nat) + 1) = cntL n (t.take (k + 1)) := by
  rw [List.take_succ_eq_append_getElem hk]
  apply List.ext_getElem
  · simp [cntL]
  · intro i h1 h2
    rw [List.length_set, cntL_length] at h1
    rw [List.getElem_set, cntL_get h1, cntL_get h1]
    by_cases hi : x = i
    · subst hi
      rw [if_pos rfl, List.count_append, hx]; simp
    · rw [if_neg hi, List.count_append, hx]
      have : ([(x : Int)] : List Int).count (i : Int) = 0 := by rw [List.count_eq_zero]; simp; omega
      rw [this]; simp
theorem cntL_neg {n k : Nat} {t : List Int} (hk : k < t.length) (hx : t[k] < 0) : cntL n (t.take (k + 1)) = cntL n (t.take k) := by
  rw [List.take_succ_eq_append_getElem hk]
  apply List.ext_getElem
  · simp [cntL]
  · intro i h1 h2
    rw [cntL_length] at h1
    rw [cntL_get h1, cntL_get h1, List.count_append]
    have : ([t[k]] : List Int).count (i : Int) = 0 := by rw [List.count_eq_zero]; simp; omega
    rw [this]; simp
theorem okT_codes {s : Sg} {t : List Int} (h : okT s t = true) : ∀ x ∈ t, x < 0 ∨ (0 ≤ x ∧ x < s.length) := by
  intro x hx
  have := skip_codes s 1 t (okT_parts h).2.2.2 x hx
  simp [codeOk] at this
  omega
def cntE (s : Sg) (t : List Int) : List Int × Int := errE s t (cntL s.length t)
def cntRel (n : Nat) (t : List Int) (w : World) (B g cap : Nat) (i : Value) (wr : World) : Prop := ∃ k : Nat, i = .int .i64 k ∧ k ≤ t.length ∧ OwnI wr B (.slice (some ⟨g, 0, none⟩) n cap) (cntL n (t.take k)) ∧ Below B w wr
theorem makeZeros {W : World} (n : Nat) (hn : n ≤ 100) : (Instr.makeSlice 31 (.int .i64 (n : Int)) (.int .i64 (n : Int))).run Tryz.prog W = .ok (.slice (some ⟨W.heap.size, 0, none⟩) n n) (W.alloc (.cells (Array.replicate n (.int .i64 0)) 3)) := by
  obtain ⟨i, hi, hz0, hz1, hz2⟩ := info_parts infoInt
  have := run_make (P := Tryz.prog) W 31 3 i (.int .i64 0) Tryz.underlying31 hi hz0 .i64 .i64 n n (by omega) (by omega) (by rw [hz2]; omega) (by omega)
  rw [this, hz1, Int.toNat_natCast, Nat.mul_one]
  have hm : madeCells (Value.int .i64 0).cells n = Array.replicate n (.int .i64 0) := by
    apply Array.ext
    · simp [madeCells]
    · intro i h1 h2; simp [madeCells, Value.cells, Nat.mod_one]
  rw [hm]
end Go.Proofs.YtljkojpooajlhaaGreatDoor

/- Walks: Vars: a range over a function. -/
namespace Go.Proofs.YtljkojpooajlhaaGreatDoor
open Go Go.RowKit Go.Shelf

attribute [local go_sem] Oper.semAt_some

abbrev I64 := { x : Int // inRange x }
/-- the variables of a list as they come -/
def yl (t : List Int) : List Int := (t.filter (fun x => decide (x < 0))).map vnum
theorem yl_neg {t : List Int} {k : Nat} (hk : k < t.length) (hx : t[k] < 0) : yl (t.take (k + 1)) = yl (t.take k) ++ [vnum t[k]] := by
  rw [List.take_succ_eq_append_getElem hk]
  unfold yl
  rw [List.filter_append, List.map_append, List.filter_cons_of_pos (by simpa using hx)]; rfl
theorem yl_pos {t : List Int} {k : Nat} (hk : k < t.length) (hx : ¬ t[k] < 0) : yl (t.take (k + 1)) = yl (t.take k) := by
  rw [List.take_succ_eq_append_getElem hk]
  unfold yl
  rw [List.filter_append, List.map_append, List.filter_cons_of_neg (by simpa using hx)]; simp
theorem yl_len (t : List Int) : (yl t).length ≤ t.length := by unfold yl; rw [List.length_map]; exact List.length_filter_le _ _

/-- each number once -/
def ddA (acc : List Int) (x : Int) : List Int := if x ∈ acc then acc else acc ++ [x]
def ddp (l : List I64) : List Int := (l.map (·.1)).foldl ddA []
theorem ddp_snoc (l : List I64) (x : I64) : ddp (l ++ [x]) = ddA (ddp l) x.1 := by simp [ddp]
theorem ddA_len (acc : List Int) (x : Int) : (ddA acc x).length ≤ acc.length + 1 := by unfold ddA; split <;> simp
theorem ddp_len (l : List I64) : (ddp l).length ≤ l.length := by
  have : ∀ (m : List Int) (acc : List Int), (m.foldl ddA acc).length ≤ acc.length + m.length := by
    intro m
    induction m with
    | nil => intro acc; simp
    | cons x r ih => intro acc; rw [List.foldl_cons]; have := ih (ddA acc x); have := ddA_len acc x; simp; omega
  have := this (l.map (·.1)) []
  simpa [ddp] using this
theorem foldl_yl : ∀ (t : List Int) (acc : List Int), (yl t).foldl ddA (acc.map vnum) = (t.foldl addV acc).map vnum
  | [], acc => rfl
  | x :: r, acc => by
    by_cases hx : x < 0
    · have h1 : yl (x :: r) = vnum x :: yl r := by unfold yl; rw [List.filter_cons_of_pos (by simpa using hx)]; rfl
      rw [h1, List.foldl_cons, List.foldl_cons]
      have h2 : ddA (acc.map vnum) (vnum x) = (addV acc x).map vnum := by
        unfold ddA addV
        by_cases hm : x ∈ acc
        · rw [if_pos (mem_map_vnum.2 hm), if_neg (fun e => e.2 hm)]
        · rw [if_neg (fun e => hm (mem_map_vnum.1 e)), if_pos ⟨hx, hm⟩, List.map_append]; rfl
      rw [h2]; exact foldl_yl r _
    · have h1 : yl (x :: r) = yl r := by unfold yl; rw [List.filter_cons_of_neg (by simpa using hx)]
      have h2 : addV acc x = acc := by unfold addV; rw [if_neg (fun e => hx e.1)]
      rw [h1, List.foldl_cons, h2]; exact foldl_yl r _
theorem ddp_yl {ys : List I64} {t : List Int} (h : ys.map (·.1) = yl t) : ddp ys = varsV t := by
  unfold ddp; rw [h]; exact foldl_yl t []
theorem ddA_range {acc : List Int} {x : Int} (h : ∀ y ∈ acc, inRange y) (hx : inRange x) : ∀ y ∈ ddA acc x, inRange y := by
  intro y hy
  unfold ddA at hy
  split at hy
  · exact h y hy
  · rcases List.mem_append.1 hy with h' | h'
    · exact h y h'
    · simp at h'; rw [h']; exact hx

end Go.Proofs.YtljkojpooajlhaaGreatDoor

/- Walks: lists of paths. -/
namespace Go.Proofs.YtljkojpooajlhaaGreatDoor
open Go Go.RowKit Go.Maps

abbrev OwnPs (S : Nat → Prop) (w : World) (base : Nat) (v : Value) (l : List (List Int)) : Prop := OwnL (slE intE) S w base 31 v l
theorem infoPath : (Tryz.prog.info? 31).map (fun i => (i.zero, i.size, i.bytes)) = some (some (.slice none 0 0), 1, 24) := by kernel_rfl
section
variable {S : Nat → Prop} {w : World} {base g n cap : Nat} {l : List (List Int)}
theorem OwnPs.ones {xs : List (List Value)} {T : Nat → Prop} (hl : xs.length = l.length) (hx : ∀ i (h1 : i < xs.length) (h2 : i < l.length), (slE intE).R T w xs[i] l[i]) : ∀ x ∈ xs, x.length = 1 := by
  intro x hxm
  obtain ⟨i, hi, rfl⟩ := List.getElem_of_mem hxm
  exact (slE intE).len (hx i hi (by omega))
theorem OwnPs.cell (h : OwnPs S w base (.slice (some ⟨g, 0, none⟩) n cap) l) (hn : n = l.length) (i : Nat) (hi : i < l.length) :
    ∃ a c, w.cell? ⟨g, i, none⟩ = some (.slice a l[i].length c) ∧ Ints (Off S (.slice (some ⟨g, 0, none⟩) n cap)) w a c l[i] ∧ w.frozen? ⟨g, i, none⟩ = false := by
  subst hn
  obtain ⟨xs, ho, hl, hx⟩ := h
  have hi' : i < xs.length := by omega
  obtain ⟨a, c, he, hI⟩ := hx i hi' hi
  have h1 := OwnPs.ones hl hx
  refine ⟨a, c, ?_, hI, ho.frozenAt i⟩
  rw [ho.cellAt i (by show i < l.length * 1; omega)]
  have := flatten_get h1 i hi' 0 (by rw [he]; simp)
  rw [Nat.mul_one, Nat.add_zero] at this
  rw [this]; simp [he]
theorem OwnPs.set (h : OwnPs S w base (.slice (some ⟨g, 0, none⟩) n cap) l) (hn : n = l.length) (i : Nat) {a : Option Addr} {c : Nat} {u : List Int} (hu : Ints (Off S (.slice (some ⟨g, 0, none⟩) n cap)) w a c u) :
    OwnPs S (w.setCell ⟨g, i, none⟩ (.slice a u.length c)) base (.slice (some ⟨g, 0, none⟩) n cap) (l.set i u) ∧ w.grownBy (w.setCell ⟨g, i, none⟩ (.slice a u.length c)) (some g) := by
  subst hn
  obtain ⟨xs, ho, hl, hx⟩ := h
  have h1 := OwnPs.ones hl hx
  obtain ⟨r1, r2⟩ := ho.stored i (.slice a u.length c)
  have hA : Agree (Off S (.slice (some ⟨g, 0, none⟩) l.length cap)) w (w.setCell ⟨g, i, none⟩ (.slice a u.length c)) := .of_grown r2 (fun b hb e => hb.2 (by rw [e]; rfl))
  refine ⟨⟨xs.set i [.slice a u.length c], by rw [List.length_set, flatten_set1 h1]; exact r1, by simp [hl], fun j h1 h2 => ?_⟩, r2⟩
  by_cases hj : i = j
  · subst hj
    simp only [List.getElem_set_self]
    exact (slE intE).mono (w := w) (S := Off S (.slice (some ⟨g, 0, none⟩) l.length cap)) ⟨a, c, rfl, hu⟩ (fun _ _ h => h) hA
  · rw [List.getElem_set_ne hj, List.getElem_set_ne hj]
    exact (slE intE).mono (hx j (by simpa using h1) (by simpa using h2)) (fun _ _ h => h) hA
end

end Go.Proofs.YtljkojpooajlhaaGreatDoor

/- Detachment and proofs step by step, in plain words. No program is named. -/
namespace Go.Proofs.YtljkojpooajlhaaGreatDoor

abbrev Stp := Int × Int × Int
/-- the detachment of a major and a minor -/
noncomputable def detE (s : Sg) (m n : List Int) : List Int × Int :=
  if okT s m = true ∧ okT s n = true then (if m.headD 0 = 0 then uniE s ((argsT s m).getD 0 []) (apartT n) ((argsT s m).getD 1 []) else ([], 10)) else ([], 1)
theorem ar_zero {s : Sg} (hok : okSign s = true) : ar s 0 = 2 := by
  have hl := (okSign_len hok).1
  unfold okSign at hok
  simp only [Bool.and_eq_true, decide_eq_true_eq] at hok
  unfold ar arC
  rw [if_neg (by omega), if_pos ⟨by omega, by omega⟩]
  have := hok.2
  simp only [Int.toNat_zero] at *
  rw [this]; rfl
theorem halves {s : Sg} {m : List Int} (h : okT s m = true) (h0 : m.headD 0 = 0) : ∃ A B, argsT s m = [A, B] ∧ m = 0 :: (A ++ B) ∧ okT s A = true ∧ okT s B = true := by
  obtain ⟨h1, h2, h3⟩ := argsT_spec h
  rw [h0] at h1 h2
  rw [ar_zero (okT_parts h).1] at h1
  obtain ⟨L, hL⟩ : ∃ L, argsT s m = L := ⟨_, rfl⟩
  rw [hL] at h1 h2 h3
  match L, h1 with
  | [A, B], _ =>
    refine ⟨A, B, hL, ?_, h3 A (by simp), h3 B (by simp)⟩
    rw [h2]; simp
theorem halves_of {s : Sg} {m A B : List Int} (h : okT s m = true) (e : m = 0 :: (A ++ B)) (hA : W1 s A) : argsT s m = [A, B] ∧ okT s A = true ∧ okT s B = true := by
  obtain ⟨A', B', h1, h2, h3, h4⟩ := halves h (by rw [e]; rfl)
  rw [e] at h2
  obtain ⟨e1, e2⟩ := W1.uniq hA (okT_w1 h3) (List.cons.inj h2).2
  subst e1 e2
  exact ⟨h1, h3, h4⟩
theorem detE_at {s : Sg} {m n A B : List Int} (h : okT s m = true) (hn : okT s n = true) (e : m = 0 :: (A ++ B)) (hA : W1 s A) : detE s m n = uniE s A (apartT n) B := by
  unfold detE
  rw [if_pos ⟨h, hn⟩, if_pos (by rw [e]; rfl), (halves_of h e hA).1]; rfl
theorem detE_state {s : Sg} {m n : List Int} (h : okT s m = true) (hn : okT s n = true) (h0 : m.headD 0 ≠ 0) : detE s m n = ([], 10) := by
  unfold detE
  rw [if_pos ⟨h, hn⟩, if_neg h0]
theorem det_cases {s : Sg} {m n : List Int} (h : okT s m = true) (hn : okT s n = true) :
    (m.headD 0 ≠ 0 ∧ detE s m n = ([], 10)) ∨ ∃ A B, argsT s m = [A, B] ∧ m = 0 :: (A ++ B) ∧ okT s A = true ∧ okT s B = true ∧
      ((∃ θ, IsMgu s A (apartT n) θ ∧ detE s m n = madeE θ B ∧ uniB s A (apartT n) = true) ∨ ((∀ η, Wsub s η → ap η A ≠ ap η (apartT n)) ∧ detE s m n = ([], 8) ∧ uniB s A (apartT n) = false)) := by
  by_cases h0 : m.headD 0 = 0
  · obtain ⟨A, B, h1, h2, h3, h4⟩ := halves h h0
    refine .inr ⟨A, B, h1, h2, h3, h4, ?_⟩
    rw [detE_at h hn h2 (okT_w1 h3)]
    rcases uni_cases (okT_parts h).1 (okT_w1 h3) (apartT_w (okT_w1 hn)) (okT_Rg h3) (apartT_rg hn) with ⟨θ, hθ⟩ | ⟨k1, k2, k3⟩
    · exact .inl ⟨θ, hθ, uniE_some hθ B, uniB_some hθ⟩
    · exact .inr ⟨k1, k3 B, k2⟩
  · exact .inl ⟨h0, detE_state h hn h0⟩
theorem det_ok {s : Sg} {m n : List Int} (h : (detE s m n).2 = 0) : okT s m = true ∧ okT s n = true ∧ okT s (detE s m n).1 = true := by
  by_cases hk : okT s m = true ∧ okT s n = true
  · refine ⟨hk.1, hk.2, ?_⟩
    rcases det_cases hk.1 hk.2 with ⟨-, e⟩ | ⟨A, B, -, -, -, hB, (⟨θ, hθ, e, -⟩ | ⟨-, e, -⟩)⟩
    · rw [e] at h; cases h
    · rw [e] at h ⊢; exact (madeE_ok (okT_parts hk.1).1 hθ.th (okT_w1 hB) h).1
    · rw [e] at h; cases h
  · unfold detE at h; rw [if_neg hk] at h; cases h
theorem det_err {s : Sg} {m n : List Int} (hm : okT s m = true) (hn : okT s n = true) : (detE s m n).2 = 0 ∨ ((detE s m n).1 = [] ∧ ((detE s m n).2 = 4 ∨ (detE s m n).2 = 8 ∨ (detE s m n).2 = 10)) := by
  rcases det_cases hm hn with ⟨-, e⟩ | ⟨A, B, -, -, -, hB, (⟨θ, hθ, e, -⟩ | ⟨-, e, -⟩)⟩
  · rw [e]; exact .inr ⟨rfl, .inr (.inr rfl)⟩
  · rw [e]; unfold madeE; split
    · exact .inl rfl
    · exact .inr ⟨rfl, .inl rfl⟩
  · rw [e]; exact .inr ⟨rfl, .inr (.inl rfl)⟩
/-- b is an instance of a -/
def Ins (s : Sg) (a b : List Int) : Prop := ∃ η, Wsub s η ∧ ap η a = b
theorem Ins.canon {s : Sg} {a b : List Int} (h : Ins s a b) : Ins s (canon a) (canon b) := by
  obtain ⟨η, hw, he⟩ := h
  obtain ⟨τ, ht, hb⟩ := canon_back (s := s) a
  refine ⟨fun n => ap (fun n => [canonW (varsC b) n]) (ap η (τ n)), fun n hn => ((ht n hn).ap hw).ap (fun m hm => W1.var (canonW_lt hm)), ?_⟩
  rw [← ap_ap (fun n => ap η (τ n)), ← ap_ap τ η, hb, he, ← canon_ap]
/-- more general ones say more -/
theorem det_mono {s : Sg} {M N M' N' : List Int} (hM : okT s M = true) (hN : okT s N = true) (iM : Ins s M M') (iN : Ins s N N') (h : (detE s M' N').2 = 0) :
    (detE s M N).2 = 4 ∨ (detE s M N).2 = 10 ∨ ((detE s M N).2 = 0 ∧ Ins s (detE s M N).1 (detE s M' N').1) := by
  obtain ⟨hM', hN', -⟩ := det_ok h
  obtain ⟨η, hη, rfl⟩ := iM
  obtain ⟨ζ, hζ, rfl⟩ := iN
  rcases det_cases hM hN with ⟨-, e⟩ | ⟨A, B, -, eM, hA, hB, hU⟩
  · rw [e]; exact .inr (.inl rfl)
  · have eM' : ap η M = 0 :: (ap η A ++ ap η B) := by rw [eM, ap_pos (by decide), ap_append]
    have hd := detE_at hM' hN' eM' ((okT_w1 hA).ap hη)
    have hok := (okT_parts hM).1
    have hA' := (halves_of hM' eM' ((okT_w1 hA).ap hη)).2.1
    have hB' := (halves_of hM' eM' ((okT_w1 hA).ap hη)).2.2
    rcases uni_cases hok (okT_w1 hA') (apartT_w (okT_w1 hN')) (okT_Rg hA') (apartT_rg hN') with ⟨θ', hθ'⟩ | ⟨-, -, k3⟩
    · rw [hd, uniE_some hθ'] at h ⊢
      have hξ : Wsub s (fun n => if n < -12 then ap θ' (apartT (ζ (n + 12))) else ap θ' (η n)) := fun n hn => by
        show W1 s (if n < -12 then ap θ' (apartT (ζ (n + 12))) else ap θ' (η n))
        split
        · exact (apartT_w (hζ _ (by omega))).ap hθ'.th
        · exact (hη n hn).ap hθ'.th
      have low : ∀ t : List Int, okT s t = true → ap (fun n => if n < -12 then ap θ' (apartT (ζ (n + 12))) else ap θ' (η n)) t = ap θ' (ap η t) := fun t ht => by
        rw [ap_ap]
        refine ap_congr (fun n hn h0 => if_neg ?_)
        have := okT_rg ht n hn h0; omega
      have hi : ap (fun n => if n < -12 then ap θ' (apartT (ζ (n + 12))) else ap θ' (η n)) (apartT N) = ap θ' (apartT (ap ζ N)) := by
        rw [ap_apart, apartT_eq (ap ζ N), ap_ap ζ, ap_ap]
        refine ap_congr (fun n hn h0 => ?_)
        rw [if_pos (by omega), show n - 12 + 12 = n by omega, apartT_eq]
      have heq := (low A hA).trans (hθ'.eq.trans hi.symm)
      rcases hU with ⟨θ, hθ, e, -⟩ | ⟨k1, -, -⟩
      · rw [e]
        by_cases hz : (madeE θ B).2 = 0
        · refine .inr (.inr ⟨hz, ?_⟩)
          rw [(madeE_ok hok hθ.th (okT_w1 hB) hz).2, (madeE_ok hok hθ'.th (okT_w1 hB') h).2]
          refine Ins.canon ⟨_, hξ, ?_⟩
          rw [hθ.most hξ heq B, low B hB]
        · refine .inl ?_
          unfold madeE at hz ⊢
          split
          · rename_i hc; rw [if_pos hc] at hz; exact (hz rfl).elim
          · rfl
      · exact (k1 _ hξ heq).elim
    · rw [hd, k3] at h; cases h

/-! ### proofs -/
def rightB (G : Int) (n : Nat) (x : Stp) : Bool := (decide (x.1 = 1) && (decide (0 ≤ x.2.1) && decide (x.2.1 ≤ G - 1)) && decide (x.2.2 = 0)) || (decide (x.1 = 2) && (decide (0 ≤ x.2.1) && decide (x.2.1 ≤ (n : Int) - 1)) && (decide (0 ≤ x.2.2) && decide (x.2.2 ≤ (n : Int) - 1)))
def okSteps (G : Int) : Nat → List Stp → Bool
  | _, [] => true
  | n, x :: p => rightB G n x && okSteps G (n + 1) p
def validP (G : Int) (p : List Stp) : Bool := okSteps G 0 p && (decide (1 ≤ p.length) && decide (p.length ≤ 60))
def proofB (G : Int) (p : List Stp) : Bool := (decide (0 ≤ G) && decide (G ≤ 60)) && validP G p
def givensB (s : Sg) (g : List (List Int)) : Bool := okSign s && decide (g.length ≤ 60) && g.all (okT s)
noncomputable def stepE (s : Sg) (g l : List (List Int)) (x : Stp) : List Int × Int :=
  if x.1 = 1 then (canon (g.getD x.2.1.toNat []), 0) else detE s (l.getD x.2.1.toNat []) (l.getD x.2.2.toNat [])
noncomputable def runL (s : Sg) (g : List (List Int)) : List Stp → List (List Int) → List (List Int) × Int
  | [], l => (l, 0)
  | x :: p, l => if (stepE s g l x).2 = 0 then runL s g p (l ++ [(stepE s g l x).1]) else (l, (stepE s g l x).2)
def askedB (s : Sg) (g : List (List Int)) (p : List Stp) : Bool := givensB s g && validP g.length p
noncomputable def runR (s : Sg) (g : List (List Int)) (p : List Stp) : List (List Int) × Int × Int :=
  if askedB s g p = true then (if (runL s g p []).2 = 0 then ((runL s g p []).1, -1, 0) else ((runL s g p []).1, ((runL s g p []).1.length : Int), (runL s g p []).2)) else ([], 0, 1)
noncomputable def saysE (s : Sg) (g : List (List Int)) (p : List Stp) : List Int × Int :=
  if askedB s g p = true then (if (runL s g p []).2 = 0 then ((runL s g p []).1.getLastD [], 0) else ([], (runL s g p []).2)) else ([], 1)
theorem rightB_cite {G : Int} {n : Nat} {x : Stp} (h : rightB G n x = true) (h1 : x.1 = 1) : 0 ≤ x.2.1 ∧ x.2.1 < G ∧ x.2.2 = 0 := by
  simp only [rightB, Bool.or_eq_true, Bool.and_eq_true, decide_eq_true_eq] at h; omega
theorem rightB_detach {G : Int} {n : Nat} {x : Stp} (h : rightB G n x = true) (h1 : x.1 ≠ 1) : x.1 = 2 ∧ 0 ≤ x.2.1 ∧ x.2.1 < n ∧ 0 ≤ x.2.2 ∧ x.2.2 < n := by
  simp only [rightB, Bool.or_eq_true, Bool.and_eq_true, decide_eq_true_eq] at h; omega
theorem givensB_parts {s : Sg} {g : List (List Int)} (h : givensB s g = true) : okSign s = true ∧ g.length ≤ 60 ∧ ∀ t ∈ g, okT s t = true := by
  simp only [givensB, Bool.and_eq_true, decide_eq_true_eq, List.all_eq_true] at h
  exact ⟨h.1.1, h.1.2, h.2⟩
theorem getD_mem {α : Type} {l : List α} {n : Nat} (d : α) (h : n < l.length) : l.getD n d ∈ l := by
  rw [List.getD_eq_getElem?_getD, List.getElem?_eq_getElem h]; exact List.getElem_mem h
/-- what a right step says is valid -/
theorem step_okT {s : Sg} {g l : List (List Int)} {x : Stp} (hg : ∀ t ∈ g, okT s t = true) (hr : rightB g.length l.length x = true) (h : (stepE s g l x).2 = 0) : okT s (stepE s g l x).1 = true := by
  unfold stepE at h ⊢
  by_cases h1 : x.1 = 1
  · rw [if_pos h1]
    obtain ⟨g1, g2, -⟩ := rightB_cite hr h1
    exact okT_canon (hg _ (getD_mem [] (by omega)))
  · rw [if_neg h1] at h ⊢
    exact (det_ok h).2.2
theorem runL_okT {s : Sg} {g : List (List Int)} (hg : ∀ t ∈ g, okT s t = true) : ∀ (p : List Stp) (l : List (List Int)), (∀ t ∈ l, okT s t = true) → okSteps g.length l.length p = true → (∀ t ∈ (runL s g p l).1, okT s t = true) ∧ ((runL s g p l).2 = 0 → (runL s g p l).1.length = l.length + p.length) ∧ (runL s g p l).1.length ≤ l.length + p.length
  | [], l, hl, _ => ⟨hl, fun _ => rfl, Nat.le_refl _⟩
  | x :: p, l, hl, ho => by
    simp only [okSteps, Bool.and_eq_true] at ho
    rw [runL]
    split
    · rename_i hz
      have hx := step_okT hg ho.1 hz
      have hl' : ∀ t ∈ l ++ [(stepE s g l x).1], okT s t = true := fun t ht => by
        rcases List.mem_append.1 ht with h | h
        · exact hl t h
        · rw [List.mem_singleton] at h; rw [h]; exact hx
      have ih := runL_okT hg p (l ++ [(stepE s g l x).1]) hl' (by rw [List.length_append, List.length_singleton]; exact ho.2)
      rw [List.length_append, List.length_singleton] at ih
      refine ⟨ih.1, fun h => ?_, ?_⟩
      · rw [ih.2.1 h, List.length_cons]; omega
      · rw [List.length_cons]; omega
    · rename_i hz
      exact ⟨hl, fun h => (hz h).elim, by simp⟩
theorem runL_append {s : Sg} {g : List (List Int)} : ∀ (p q : List Stp) (l : List (List Int)), runL s g (p ++ q) l = if (runL s g p l).2 = 0 then runL s g q (runL s g p l).1 else runL s g p l
  | [], q, l => by simp [runL]
  | x :: p, q, l => by
    rw [List.cons_append, runL, runL]
    split
    · exact runL_append p q _
    · rfl
theorem runL_more {s : Sg} {g : List (List Int)} : ∀ (p : List Stp) (l : List (List Int)), l <+: (runL s g p l).1
  | [], l => List.prefix_refl _
  | x :: p, l => by
    rw [runL]
    split
    · exact (List.prefix_append _ _).trans (runL_more p _)
    · exact List.prefix_refl _
/-- P4.3 -/
theorem run_mono {s : Sg} {g g' : List (List Int)} (hg : ∀ t ∈ g, okT s t = true) (hg' : ∀ t ∈ g', okT s t = true) (hlen : g.length = g'.length) (hi : ∀ i, i < g.length → Ins s (g.getD i []) (g'.getD i [])) :
    ∀ (p : List Stp) (l l' : List (List Int)), (∀ t ∈ l, okT s t = true) → (∀ t ∈ l', okT s t = true) → l.length = l'.length → (∀ i, i < l.length → Ins s (l.getD i []) (l'.getD i [])) → okSteps g.length l.length p = true → (runL s g' p l').2 = 0 →
      (runL s g p l).2 = 4 ∨ (runL s g p l).2 = 10 ∨ ((runL s g p l).2 = 0 ∧ (runL s g p l).1.length = (runL s g' p l').1.length ∧ ∀ i, i < (runL s g p l).1.length → Ins s ((runL s g p l).1.getD i []) ((runL s g' p l').1.getD i []))
  | [], l, l', hl, hl', hll, hii, _, _ => .inr (.inr ⟨rfl, hll, hii⟩)
  | x :: p, l, l', hl, hl', hll, hii, ho, hz => by
    simp only [okSteps, Bool.and_eq_true] at ho
    rw [runL] at hz
    by_cases hx' : (stepE s g' l' x).2 = 0
    · rw [if_pos hx'] at hz
      have hs : (stepE s g l x).2 = 4 ∨ (stepE s g l x).2 = 10 ∨ ((stepE s g l x).2 = 0 ∧ Ins s (stepE s g l x).1 (stepE s g' l' x).1) := by
        unfold stepE at hx' ⊢
        by_cases h1 : x.1 = 1
        · simp only [if_pos h1]
          obtain ⟨g1, g2, -⟩ := rightB_cite ho.1 h1
          exact .inr (.inr ⟨trivial, (hi _ (by omega)).canon⟩)
        · simp only [if_neg h1] at hx' ⊢
          obtain ⟨-, d1, d2, d3, d4⟩ := rightB_detach ho.1 h1
          exact det_mono (hl _ (getD_mem [] (by omega))) (hl _ (getD_mem [] (by omega))) (hii _ (by omega)) (hii _ (by omega)) hx'
      rw [runL, runL, if_pos hx']
      rcases hs with h | h | ⟨h, hI⟩
      · rw [if_neg (by omega)]; exact .inl h
      · rw [if_neg (by omega)]; exact .inr (.inl h)
      · rw [if_pos h]
        have o1 := step_okT hg ho.1 h
        have o2 := step_okT hg' (by rw [← hlen, ← hll]; exact ho.1) hx'
        refine run_mono hg hg' hlen hi p _ _ (fun t ht => ?_) (fun t ht => ?_) (by simp [hll]) (fun i hil => ?_) (by rw [List.length_append, List.length_singleton]; exact ho.2) hz
        · rcases List.mem_append.1 ht with k | k
          · exact hl t k
          · rw [List.mem_singleton] at k; rw [k]; exact o1
        · rcases List.mem_append.1 ht with k | k
          · exact hl' t k
          · rw [List.mem_singleton] at k; rw [k]; exact o2
        · rw [List.length_append, List.length_singleton] at hil
          by_cases hlt : i < l.length
          · rw [List.getD_eq_getElem?_getD, List.getD_eq_getElem?_getD, List.getElem?_append_left hlt, List.getElem?_append_left (by omega), ← List.getD_eq_getElem?_getD, ← List.getD_eq_getElem?_getD]
            exact hii i hlt
          · obtain rfl : i = l.length := by omega
            rw [List.getD_eq_getElem?_getD, List.getD_eq_getElem?_getD, List.getElem?_append_right (Nat.le_refl _), List.getElem?_append_right (by omega), hll]
            simpa using hI
    · rw [if_neg hx'] at hz; exact (hx' hz).elim
end Go.Proofs.YtljkojpooajlhaaGreatDoor

/- Proofs as texts, in plain words: what Format writes and what Parse reads, of both. No program is named. -/
namespace Go.Proofs.YtljkojpooajlhaaGreatDoor

/-- the parts of a text between single marks -/
def wordsB (m : UInt8) : List UInt8 → List (List UInt8)
  | [] => [[]]
  | c :: r => if c = m then [] :: wordsB m r else match wordsB m r with | [] => [[c]] | w :: ws => (c :: w) :: ws
theorem wordsB_ne (m : UInt8) : ∀ l, wordsB m l ≠ []
  | [] => by simp [wordsB]
  | c :: r => by
    rw [wordsB]
    split
    · simp
    · split <;> simp
theorem wordsB_no {m : UInt8} : ∀ {l : List UInt8}, m ∉ l → wordsB m l = [l]
  | [], _ => rfl
  | c :: r, h => by
    rw [List.mem_cons, not_or] at h
    rw [wordsB, if_neg (fun e => h.1 e.symm), wordsB_no h.2]
theorem wordsB_at {m : UInt8} : ∀ {l r : List UInt8}, m ∉ l → wordsB m (l ++ m :: r) = l :: wordsB m r
  | [], r, _ => by rw [List.nil_append, wordsB, if_pos rfl]
  | c :: l, r, h => by
    rw [List.mem_cons, not_or] at h
    rw [List.cons_append, wordsB, if_neg (fun e => h.1 e.symm), wordsB_at h.2]
/-- put together again -/
def joinM (m : UInt8) : List (List UInt8) → List UInt8
  | [] => []
  | [w] => w
  | w :: v :: ws => w ++ m :: joinM m (v :: ws)
theorem joinM_words (m : UInt8) : ∀ l, joinM m (wordsB m l) = l
  | [] => rfl
  | c :: r => by
    have ih := joinM_words m r
    have hn := wordsB_ne m r
    rw [wordsB]
    by_cases h : c = m
    · rw [if_pos h]
      cases hw : wordsB m r with
      | nil => exact (hn hw).elim
      | cons v ws => rw [hw] at ih; rw [joinM, ih, List.nil_append, h]
    · rw [if_neg h]
      cases hw : wordsB m r with
      | nil => exact (hn hw).elim
      | cons v ws =>
        rw [hw] at ih
        simp only
        cases ws with
        | nil => rw [joinM] at ih ⊢; rw [ih]
        | cons u ws => rw [joinM] at ih ⊢; rw [List.cons_append, ih]
theorem words_no {m : UInt8} : ∀ {l : List UInt8} {w : List UInt8}, w ∈ wordsB m l → m ∉ w
  | [], w, h => by simp [wordsB] at h; subst h; simp
  | c :: r, w, h => by
    rw [wordsB] at h
    by_cases e : c = m
    · rw [if_pos e, List.mem_cons] at h
      rcases h with h | h
      · subst h; simp
      · exact words_no h
    · rw [if_neg e] at h
      cases hw : wordsB m r with
      | nil => exact (wordsB_ne m r hw).elim
      | cons v ws =>
        rw [hw] at h
        simp only [List.mem_cons] at h
        rcases h with h | h
        · subst h
          have := words_no (m := m) (l := r) (w := v) (by rw [hw]; simp)
          rw [List.mem_cons, not_or]; exact ⟨fun e' => e e'.symm, this⟩
        · exact words_no (l := r) (by rw [hw]; simp [h])

/-- a text as a number, as the reference reads it -/
def bodyL (l : List UInt8) : List UInt8 := if l.head? = some 45 then l.tail else l
def sgnL (l : List UInt8) (m : Nat) : Int := if l.head? = some 45 then -(m : Int) else m
def numR (l : List UInt8) : Option Int :=
  if (bodyL l).length < 1 ∨ 18 < (bodyL l).length then none
  else match Lib.decFrom 0 (bodyL l) with
    | none => none
    | some m => if Lib.itoa (sgnL l m) = l then some (sgnL l m) else none
theorem numR_itoa {l : List UInt8} {n : Int} (h : numR l = some n) : Lib.itoa n = l := by
  unfold numR at h
  by_cases h1 : (bodyL l).length < 1 ∨ 18 < (bodyL l).length
  · rw [if_pos h1] at h; cases h
  · rw [if_neg h1] at h
    cases hd : Lib.decFrom 0 (bodyL l) with
    | none => rw [hd] at h; cases h
    | some m =>
      rw [hd] at h
      simp only at h
      by_cases h2 : Lib.itoa (sgnL l m) = l
      · rw [if_pos h2] at h; injection h with h; rw [← h]; exact h2
      · rw [if_neg h2] at h; cases h
def smD (n : Nat) : List UInt8 := if n < 10 then [UInt8.ofNat (48 + n)] else [UInt8.ofNat (48 + n / 10), UInt8.ofNat (48 + n % 10)]
theorem itoa_sm {n : Nat} (h : n < 100) : Lib.itoa (n : Int) = smD n := by
  have : Lib.itoa (n : Int) = Lib.decDigits n := by unfold Lib.itoa; rw [if_neg (by omega)]; simp
  rw [this]
  unfold smD
  by_cases h1 : n < 10
  · rw [if_pos h1, Lib.decDigits_one h1]
  · rw [if_neg h1, Lib.decDigits_two h1 h]
theorem smD_facts : ∀ n : Fin 60, (smD n.1).head? ≠ some 45 ∧ 1 ≤ (smD n.1).length ∧ (smD n.1).length ≤ 2 ∧ Lib.decFrom 0 (smD n.1) = some n.1 ∧ Lib.atoiAll (smD n.1) = .ok (n.1 : Int) ∧ (32 : UInt8) ∉ smD n.1 ∧ (10 : UInt8) ∉ smD n.1 := by decide +kernel
theorem numR_sm {n : Nat} (h : n < 60) : numR (smD n) = some (n : Int) := by
  obtain ⟨h1, h2, h3, h4, -⟩ := smD_facts ⟨n, h⟩
  simp only at h1 h2 h3 h4
  have hb : bodyL (smD n) = smD n := by unfold bodyL; rw [if_neg h1]
  have hs : sgnL (smD n) n = (n : Int) := by unfold sgnL; rw [if_neg h1]
  unfold numR
  rw [hb, if_neg (by omega), h4]
  simp only
  rw [hs, itoa_sm (by omega), if_pos rfl]
/-- what Atoi makes of a text -/
def atoiV (l : List UInt8) : Int := match Lib.atoiAll l with | .ok v => v | .range => Lib.atoiSat l | _ => 0
theorem atoiV_sm {n : Nat} (h : n < 60) : atoiV (smD n) = (n : Int) := by
  unfold atoiV; rw [(smD_facts ⟨n, h⟩).2.2.2.2.1]

def citeW : List UInt8 := [99, 105, 116, 101]
def detW : List UInt8 := [100, 101, 116, 97, 99, 104]
/-- a step's line, without its end -/
def lineB (x : Stp) : List UInt8 := if x.1 = 1 then citeW ++ 32 :: Lib.itoa x.2.1 else detW ++ 32 :: (Lib.itoa x.2.1 ++ 32 :: Lib.itoa x.2.2)
def lineT (x : Stp) : List UInt8 := lineB x ++ [10]
/-- what the reference makes of a line -/
def refX (l : List UInt8) : Stp :=
  match (wordsB 32 l).tail.mapM numR with
  | some [a] => if (wordsB 32 l).headD [] = citeW then (1, a, 0) else (0, 0, 0)
  | some [a, b] => if (wordsB 32 l).headD [] = detW then (2, a, b) else (0, 0, 0)
  | _ => (0, 0, 0)
/-- what the program makes of a line -/
def cut32 (l : List UInt8) : List UInt8 × List UInt8 × Bool := Lib.cut l [32]
def progX (l : List UInt8) : Stp :=
  if (cut32 l).1 = detW ∧ (cut32 (cut32 l).2.1).2.2 = true then (2, atoiV (cut32 (cut32 l).2.1).1, atoiV (cut32 (cut32 l).2.1).2.1) else (1, atoiV (cut32 (cut32 l).2.1).1, 0)
theorem index_no {m : UInt8} : ∀ {l : List UInt8}, m ∉ l → Lib.index l [m] = -1
  | [], _ => rfl
  | c :: r, h => by
    rw [List.mem_cons, not_or] at h
    have hc : (m == c) = false := by rw [beq_eq_false_iff_ne]; exact h.1
    unfold Lib.index
    rw [index_no h.2]
    simp [List.isPrefixOf, hc]
theorem index_at {m : UInt8} : ∀ {l r : List UInt8}, m ∉ l → Lib.index (l ++ m :: r) [m] = l.length
  | [], r, _ => by unfold Lib.index; simp [List.isPrefixOf]
  | c :: l, r, h => by
    rw [List.mem_cons, not_or] at h
    have hc : (m == c) = false := by rw [beq_eq_false_iff_ne]; exact h.1
    rw [List.cons_append]
    unfold Lib.index
    rw [index_at h.2]
    simp [List.isPrefixOf, hc]
    try omega
theorem cut_no {m : UInt8} {l : List UInt8} (h : m ∉ l) : Lib.cut l [m] = (l, [], false) := by
  unfold Lib.cut; rw [index_no h]; rfl
theorem cut_at {m : UInt8} {l r : List UInt8} (h : m ∉ l) : Lib.cut (l ++ m :: r) [m] = (l, r, true) := by
  unfold Lib.cut
  rw [index_at h, if_pos (by omega)]
  simp
theorem right_form {i : Nat} {x : Stp} (h : rightB 60 i x = true) (hi : i ≤ 60) : (∃ a : Nat, a < 60 ∧ x = (1, (a : Int), 0)) ∨ (∃ a b : Nat, a < 60 ∧ b < 60 ∧ x = (2, (a : Int), (b : Int))) := by
  by_cases h1 : x.1 = 1
  · obtain ⟨c1, c2, c3⟩ := rightB_cite h h1
    exact .inl ⟨x.2.1.toNat, by omega, Prod.ext h1 (Prod.ext (by simp only; omega) c3)⟩
  · obtain ⟨d0, d1, d2, d3, d4⟩ := rightB_detach h h1
    exact .inr ⟨x.2.1.toNat, x.2.2.toNat, by omega, by omega, Prod.ext d0 (Prod.ext (by simp only; omega) (by simp only; omega))⟩
theorem lineB_cite {a : Nat} (h : a < 60) : lineB (1, (a : Int), 0) = citeW ++ 32 :: smD a := by
  unfold lineB; rw [if_pos rfl, itoa_sm (by omega)]
theorem lineB_det {a b : Nat} (h : a < 60) (k : b < 60) : lineB (2, (a : Int), (b : Int)) = detW ++ 32 :: (smD a ++ 32 :: smD b) := by
  unfold lineB; rw [if_neg (by simp), itoa_sm (by omega), itoa_sm (by omega)]
theorem refX_line {i : Nat} {x : Stp} (h : rightB 60 i x = true) (hi : i ≤ 60) : refX (lineB x) = x := by
  rcases right_form h hi with ⟨a, ha, rfl⟩ | ⟨a, b, ha, hb, rfl⟩
  · have f := smD_facts ⟨a, ha⟩
    unfold refX
    rw [lineB_cite ha, wordsB_at (by decide), wordsB_no f.2.2.2.2.2.1]
    simp only [List.tail_cons, List.headD_cons, List.mapM_cons, List.mapM_nil, numR_sm ha]
    rfl
  · have f := smD_facts ⟨a, ha⟩
    have g := smD_facts ⟨b, hb⟩
    unfold refX
    rw [lineB_det ha hb, wordsB_at (by decide), wordsB_at f.2.2.2.2.2.1, wordsB_no g.2.2.2.2.2.1]
    simp only [List.tail_cons, List.headD_cons, List.mapM_cons, List.mapM_nil, numR_sm ha, numR_sm hb]
    rfl
theorem progX_line {i : Nat} {x : Stp} (h : rightB 60 i x = true) (hi : i ≤ 60) : progX (lineB x) = x := by
  rcases right_form h hi with ⟨a, ha, rfl⟩ | ⟨a, b, ha, hb, rfl⟩
  · have f := smD_facts ⟨a, ha⟩
    unfold progX cut32
    rw [lineB_cite ha, cut_at (by decide)]
    simp only
    rw [cut_no f.2.2.2.2.2.1, if_neg (by simp), atoiV_sm ha]
  · have f := smD_facts ⟨a, ha⟩
    unfold progX cut32
    rw [lineB_det ha hb, cut_at (by decide)]
    simp only
    rw [cut_at f.2.2.2.2.2.1, if_pos (by simp), atoiV_sm ha, atoiV_sm hb]
theorem mapM_one {a : Int} : ∀ {l : List (List UInt8)}, l.mapM numR = some [a] → ∃ w, l = [w] ∧ numR w = some a
  | [], h => by simp at h
  | w :: l, h => by
    rw [List.mapM_cons] at h
    cases hw : numR w with
    | none => rw [hw] at h; simp at h
    | some v =>
      cases hl : l.mapM numR with
      | none => rw [hw, hl] at h; simp at h
      | some vs =>
        rw [hw, hl] at h
        simp at h
        obtain ⟨rfl, rfl⟩ := h
        cases l with
        | nil => exact ⟨w, rfl, hw⟩
        | cons u l =>
          rw [List.mapM_cons] at hl
          cases hu : numR u with
          | none => rw [hu] at hl; simp at hl
          | some v' =>
            cases hl2 : l.mapM numR with
            | none => rw [hu, hl2] at hl; simp at hl
            | some vs' => rw [hu, hl2] at hl; simp at hl
theorem mapM_two {a b : Int} {l : List (List UInt8)} (h : l.mapM numR = some [a, b]) : ∃ w u, l = [w, u] ∧ numR w = some a ∧ numR u = some b := by
  cases l with
  | nil => simp at h
  | cons w l =>
    rw [List.mapM_cons] at h
    cases hw : numR w with
    | none => rw [hw] at h; simp at h
    | some v =>
      cases hl : l.mapM numR with
      | none => rw [hw, hl] at h; simp at h
      | some vs =>
        rw [hw, hl] at h
        simp at h
        obtain ⟨rfl, rfl⟩ := h
        obtain ⟨u, rfl, hu⟩ := mapM_one hl
        exact ⟨w, u, rfl, hw, hu⟩
theorem refX_back {i : Nat} {l : List UInt8} (h : rightB 60 i (refX l) = true) : lineB (refX l) = l := by
  have hz : rightB 60 i (0, 0, 0) = true → False := fun h => by simp [rightB] at h
  have hj := joinM_words 32 l
  unfold refX at h ⊢
  split
  · rename_i a hm
    rw [hm] at h
    simp only at h
    obtain ⟨w, hw, hn⟩ := mapM_one hm
    split
    · rename_i hc
      cases hwl : wordsB 32 l with
      | nil => exact (wordsB_ne _ _ hwl).elim
      | cons v ws =>
        rw [hwl] at hj hw hc
        simp only [List.tail_cons, List.headD_cons] at hw hc
        subst hw hc
        rw [joinM, joinM] at hj
        unfold lineB
        rw [if_pos rfl, numR_itoa hn]
        exact hj
    · rename_i hc; rw [if_neg hc] at h; exact (hz h).elim
  · rename_i a b hm
    rw [hm] at h
    simp only at h
    obtain ⟨w, u, hw, hn, hu⟩ := mapM_two hm
    split
    · rename_i hc
      cases hwl : wordsB 32 l with
      | nil => exact (wordsB_ne _ _ hwl).elim
      | cons v ws =>
        rw [hwl] at hj hw hc
        simp only [List.tail_cons, List.headD_cons] at hw hc
        subst hw hc
        rw [joinM, joinM, joinM] at hj
        unfold lineB
        rw [if_neg (by simp), numR_itoa hn, numR_itoa hu]
        exact hj
    · rename_i hc; rw [if_neg hc] at h; exact (hz h).elim
  · rename_i h1 h2
    split at h
    · rename_i a hm; exact (h1 a hm).elim
    · rename_i a b hm; exact (h2 a b hm).elim
    · exact (hz h).elim
/-- both take a line alike -/
theorem line_both {i : Nat} {l : List UInt8} (hi : i ≤ 60) : (rightB 60 i (progX l) = true ∧ lineB (progX l) = l) ↔ rightB 60 i (refX l) = true := by
  constructor
  · rintro ⟨h1, h2⟩
    have := refX_line h1 hi
    rw [h2] at this
    rw [this]; exact h1
  · intro h
    have h2 := refX_back h
    have h3 := progX_line h hi
    rw [h2] at h3
    rw [h3]; exact ⟨h, h2⟩
theorem line_same {i : Nat} {l : List UInt8} (hi : i ≤ 60) (h : rightB 60 i (refX l) = true) : progX l = refX l := by
  have h2 := refX_back h
  have h3 := progX_line h hi
  rwa [h2] at h3
/-- the lines, one behind the other -/
def parseL : List (List UInt8) → Nat → List Stp → List Stp × Nat × Int
  | [], i, _ => ([], i, 2)
  | [l], i, acc => if l = [] ∧ acc ≠ [] then (acc, 0, 0) else ([], i, 2)
  | l :: v :: r, i, acc => if i < 60 ∧ rightB 60 i (refX l) = true then parseL (v :: r) (i + 1) (acc ++ [refX l]) else ([], i, 2)
def parseE (t : List UInt8) : List Stp × Nat × Int := if t.length ≤ 65536 then parseL (wordsB 10 t) 0 [] else ([], 0, 3)
def formatE (p : List Stp) : List UInt8 := if validP 60 p = true then p.flatMap lineT else []
end Go.Proofs.YtljkojpooajlhaaGreatDoor

/- A text split at a byte. No program is named. -/
namespace Go.Proofs.YtljkojpooajlhaaGreatDoor
open Go

/-- where the byte first stands in a text, in words -/
theorem split_byte (m : UInt8) : ∀ l : List UInt8, (Lib.indexByte l m = -1 ∧ m ∉ l) ∨ ∃ i : Nat, Lib.indexByte l m = (i : Int) ∧ i < l.length ∧ wordsB m l = l.take i :: wordsB m (l.drop (i + 1))
  | [] => .inl ⟨rfl, by simp⟩
  | c :: r => by
    rw [Lib.indexByte]
    by_cases e : c = m
    · subst e
      exact .inr ⟨0, by simp, by simp, by rw [wordsB, if_pos rfl]; simp⟩
    · rw [if_neg (by simpa using e)]
      rcases split_byte m r with ⟨h1, h2⟩ | ⟨i, h1, h2, h3⟩
      · exact .inl ⟨by rw [h1]; rfl, by rw [List.mem_cons, not_or]; exact ⟨fun h => e h.symm, h2⟩⟩
      · refine .inr ⟨i + 1, ?_, by simpa using h2, ?_⟩
        · rw [h1, if_neg]
          · push_cast; rfl
          · rw [beq_iff_eq]; omega
        · rw [wordsB, if_neg e, h3]; simp
theorem join_joinM (m : UInt8) : ∀ L : List (List UInt8), Lib.join L [m] = joinM m L
  | [] => rfl
  | [w] => Lib.join_one _ _
  | w :: v :: ws => by
    have ih := join_joinM m (v :: ws)
    rw [Lib.join_cons, show joinM m (w :: v :: ws) = w ++ m :: joinM m (v :: ws) from rfl, ← ih, Lib.join_cons]
    unfold Lib.joinTail
    rw [List.map_cons, List.flatten_cons]
    simp
end Go.Proofs.YtljkojpooajlhaaGreatDoor

/- Walks: Ways, Paths of the reference. -/
namespace Go.Proofs.YtljkojpooajlhaaGreatDoor
open Go Go.RowKit Go.Maps

noncomputable abbrev runApp (x y : Value) (w : World) : Result Value := (Builtin.append_ #[31, 31] 31 #[x, y]).run Tryz.prog w
theorem app24 {S2 : Nat → Prop} {w : World} {base : Nat} {v : Value} {l l2 : List Int} {a : Option Addr} {c : Nat} (ho : OwnI w base v l) (h2 : Ints S2 w a c l2) (hl : l.length + l2.length ≤ 10000000) (hb : base ≤ w.heap.size) :
    ∃ v' w', runApp v (.slice a l2.length c) w = .ok v' w' ∧ OwnI w' base v' (l ++ l2) ∧ w.grownBy w' v.ownBlock ∧ Below base w w' := by
  obtain ⟨v', w', hrun, ho', hg, -, -⟩ := ho.append_run (P := Tryz.prog) (t := 31) (ty := 31) Tryz.underlying31 infoInt rfl h2 (fun _ _ _ h => h) (by omega) (by unfold big; omega) hb
  exact ⟨v', w', hrun, ho', hg, (Below.refl _ _).grown hg hb (fun k e => (ho.lt k e).1)⟩
theorem lit1 {w : World} (m : Int) (hm : inRange m) : Ints (fun b => b = w.heap.size) (w.alloc (.cells #[.int .i64 m] 3)) (some ⟨w.heap.size, 0, none⟩) 1 [m] := by
  have := Sl.new (E := intE) (S := fun _ => False) w [[.int .i64 m]] [m] 3 rfl (by unfold big; simp) (fun i g1 g2 => by
    match i, g1 with
    | 0, _ => exact ⟨rfl, hm⟩)
  exact this.weak (fun b h => h.resolve_left (fun h => h))
theorem lit0 {w : World} (base : Nat) (hb : base ≤ w.heap.size) : OwnI (w.alloc (.cells #[] 3)) base (.slice (some ⟨w.heap.size, 0, none⟩) 0 0) [] := OwnL.made intE _ w base 3 hb
/-- the three orders in which a path with one number more is made -/
theorem ways3 {T : Nat → Prop} {w : World} {a : Option Addr} {c : Nat} {u : List Int} (hu : Ints T w a c u) (m : Int) (hm : inRange m) (hl : u.length ≤ 1000) :
    (∃ x1 w2 x2 w4, RowKit.Hid (Below w.heap.size w w2) ∧ RowKit.Hid (runApp (.slice (some ⟨w.heap.size, 0, none⟩) 0 0) (.slice a u.length c) (w.alloc (.cells #[] 3)) = .ok x1 w2) ∧ RowKit.Hid (runApp x1 (.slice (some ⟨w2.heap.size, 0, none⟩) 1 1) (w2.alloc (.cells #[.int .i64 m] 3)) = .ok x2 w4) ∧ RowKit.Hid (OwnI w4 w.heap.size x2 (u ++ [m])) ∧ RowKit.Hid (Below w.heap.size w w4)) ∧
    (∃ x1 w3 x2 w4, RowKit.Hid (Below w.heap.size w w3) ∧ RowKit.Hid (runApp (.slice (some ⟨w.heap.size, 0, none⟩) 0 0) (.slice a u.length c) ((w.alloc (.cells #[] 3)).alloc (.cells #[.int .i64 m] 3)) = .ok x1 w3) ∧ RowKit.Hid (runApp x1 (.slice (some ⟨w.heap.size + 1, 0, none⟩) 1 1) w3 = .ok x2 w4) ∧ RowKit.Hid (OwnI w4 w.heap.size x2 (u ++ [m])) ∧ RowKit.Hid (Below w.heap.size w w4)) ∧
    (∃ x1 w3 x2 w4, RowKit.Hid (Below w.heap.size w w3) ∧ RowKit.Hid (runApp (.slice (some ⟨w.heap.size + 1, 0, none⟩) 0 0) (.slice a u.length c) ((w.alloc (.cells #[.int .i64 m] 3)).alloc (.cells #[] 3)) = .ok x1 w3) ∧ RowKit.Hid (runApp x1 (.slice (some ⟨w.heap.size, 0, none⟩) 1 1) w3 = .ok x2 w4) ∧ RowKit.Hid (OwnI w4 w.heap.size x2 (u ++ [m])) ∧ RowKit.Hid (Below w.heap.size w w4)) := by
  refine ⟨?_, ?_, ?_⟩
  · have hb0 := below1 w (.cells #[] 3)
    obtain ⟨x1, w2, r1, o1, -, b1⟩ := app24 (lit0 (w := w) w.heap.size (Nat.le_refl _)) (hu.below hb0) (by simp; omega) hb0.size
    have B1 := hb0.trans b1
    have hb2 := below1 w2 (.cells #[.int .i64 m] 3)
    obtain ⟨x2, w4, r2, o2, -, b2⟩ := app24 (o1.call hb2) (lit1 m hm) (by simp; omega) (by have := B1.size; simp; omega)
    exact ⟨x1, w2, x2, w4, Lib.hid B1, Lib.hid r1, Lib.hid r2, Lib.hid (by simpa using o2), Lib.hid ((B1.trans (hb2.mono B1.size)).trans b2)⟩
  · have hb0 := below2 w (.cells #[] 3) (.cells #[.int .i64 m] 3)
    have hI := lit1 (w := w.alloc (.cells #[] 3)) m hm
    obtain ⟨x1, w3, r1, o1, g1, b1⟩ := app24 ((lit0 (w := w) w.heap.size (Nat.le_refl _)).call (below1 _ (.cells #[.int .i64 m] 3))) (hu.below hb0) (by simp; omega) hb0.size
    have B1 := hb0.trans b1
    have hI3 := hI.same (.of_grown g1 (fun b hb e => by simp [Value.ownBlock] at e hb; omega))
    obtain ⟨x2, w4, r2, o2, -, b2⟩ := app24 o1 hI3 (by simp; omega) B1.size
    rw [World.size_alloc] at r2
    exact ⟨x1, w3, x2, w4, Lib.hid B1, Lib.hid r1, Lib.hid r2, Lib.hid (by simpa using o2), Lib.hid (B1.trans b2)⟩
  · have hb0 := below2 w (.cells #[.int .i64 m] 3) (.cells #[] 3)
    have hI := (lit1 (w := w) m hm).below (below1 _ (.cells #[] 3))
    have o0 := lit0 (w := w.alloc (.cells #[.int .i64 m] 3)) w.heap.size (by simp)
    rw [World.size_alloc] at o0
    obtain ⟨x1, w3, r1, o1, g1, b1⟩ := app24 o0 (hu.below hb0) (by simp; omega) hb0.size
    have B1 := hb0.trans b1
    have hI3 := hI.same (.of_grown g1 (fun b hb e => by simp [Value.ownBlock] at e hb; omega))
    obtain ⟨x2, w4, r2, o2, -, b2⟩ := app24 o1 hI3 (by simp; omega) B1.size
    exact ⟨x1, w3, x2, w4, Lib.hid B1, Lib.hid r1, Lib.hid r2, Lib.hid (by simpa using o2), Lib.hid (B1.trans b2)⟩

section
variable {P : Program} {Q : Exit → Act → World → Prop} {md : Region.Mode} {S : World → Prop} {l : List Oper} {listed : Array Bool} {fuel : Nat} {a : Act} {w : World}
/-- two operations either of which may come up -/
theorem region_two (i j : Nat) {o o' : Oper} (hi : l[i]? = some o) (hj : l[j]? = some o') (hr : Region.ready md l.toArray listed = [i, j])
    (h : ∀ K' : Act → World → Prop, Shut (∀ a w, S w → (S w → wpAnyH P md l.toArray Q S fuel (listed.setIfInBounds i true) a w) → K' a w) → if Region.wanted o (yielded l.toArray a.tmps) = true then Oper.wp P o a w K' Q else K' (a.put o.dst undef) w)
    (h' : ∀ K' : Act → World → Prop, Shut (∀ a w, S w → (S w → wpAnyH P md l.toArray Q S fuel (listed.setIfInBounds j true) a w) → K' a w) → if Region.wanted o' (yielded l.toArray a.tmps) = true then Oper.wp P o' a w K' Q else K' (a.put o'.dst undef) w) :
    wpAnyH P md l.toArray Q S (fuel + 1) listed a w :=
  wpAnyH_ready hr (by simp) (AllReadyH.cons (by simpa using hi) h (AllReadyH.cons (by simpa using hj) h' AllReadyH.nil))
end

theorem ite_yes {c : Prop} [Decidable c] {p q : Prop} (h : c) (hp : p) : if c then p else q := by rw [if_pos h]; exact hp
theorem place_len {s : Sg} {t : List Int} : ∀ {q : List Int} {a j : Nat} {rest : List Int} (_ : skip s 1 (t.drop a) = some rest) (_ : place s t q a = some j), a + q.length ≤ j
  | [], a, j, rest, h, hp => by
    simp only [place, Option.some.injEq] at hp
    simp; omega
  | k :: ks, a, j, rest, h, hp => by
    rw [place] at hp
    cases hy : stepTo s t a k with
    | none => rw [hy] at hp; cases hp
    | some y =>
      rw [hy, Option.bind_some] at hp
      obtain ⟨n, rfl, hn, h1, h2, h3, ry, h4, h5⟩ := step_skip h hy
      have ih := place_len h4 hp
      rw [List.length_cons]; omega
def waysOk (s : Sg) (t : List Int) (at_ m : Nat) (L : List (List Int)) : Prop :=
  L.length = t.length ∧ ∀ j (hj : j < L.length), (j = 0 ∨ (∃ (p : Nat) (k : Int), p < at_ ∧ stepTo s t p k = some j) ∨ (∃ k : Nat, k < m ∧ stepTo s t at_ k = some j)) → L[j] = way s t j
theorem waysOk_start {s : Sg} {t : List Int} (h : okT s t = true) : waysOk s t 0 0 (List.replicate t.length []) := by
  refine ⟨by simp, fun j hj hc => ?_⟩
  rcases hc with rfl | ⟨p, k, hp, -⟩ | ⟨k, hk, -⟩
  · simp [way_zero h]
  · omega
  · omega
theorem waysOk_next {s : Sg} {t : List Int} {LL : List (List Int)} {at_ M : Nat} (h : waysOk s t at_ M LL) {r : List Int} (hs : skip s 1 (t.drop at_) = some r) (hM : ar s (t.getD at_ 0) = M) : waysOk s t (at_ + 1) 0 LL := by
  refine ⟨h.1, fun j hj hc => h.2 j hj ?_⟩
  rcases hc with rfl | ⟨p, k, hp, hk⟩ | ⟨k, hk, -⟩
  · exact .inl rfl
  · by_cases hp2 : p < at_
    · exact .inr (.inl ⟨p, k, hp2, hk⟩)
    · obtain rfl : p = at_ := by omega
      obtain ⟨n, rfl, hn, -⟩ := step_skip hs hk
      exact .inr (.inr ⟨n, by omega, hk⟩)
  · omega
theorem waysOk_at {s : Sg} {t : List Int} (h : okT s t = true) {LL : List (List Int)} {at_ m : Nat} (ho : waysOk s t at_ m LL) (ha : at_ < LL.length) : LL[at_] = way s t at_ := by
  have hl : at_ < t.length := by rw [← ho.1]; exact ha
  refine ho.2 at_ ha ?_
  rcases Nat.eq_zero_or_pos at_ with h0 | h0
  · exact .inl h0
  · obtain ⟨q0, k, p, -, hp, hk⟩ := place_parent ((way_place h).2 at_ hl).1 h0
    have hpb := place_bound (okT_skip0 h) hp
    obtain ⟨-, hlt, -⟩ := way_step h (by omega) hk
    exact .inr (.inl ⟨p, k, hlt, hk⟩)
theorem waysOk_set {s : Sg} {t : List Int} (h : okT s t = true) {LL : List (List Int)} {at_ m y : Nat} (ho : waysOk s t at_ m LL) (ha : at_ < t.length) (hy : stepTo s t at_ m = some y) : waysOk s t at_ (m + 1) (LL.set y (way s t at_ ++ [(m : Int)])) := by
  refine ⟨by rw [List.length_set]; exact ho.1, fun j hj hc => ?_⟩
  rw [List.length_set] at hj
  rw [List.getElem_set]
  by_cases hjy : y = j
  · subst hjy
    rw [if_pos rfl, (way_step h ha hy).2.2]
  · rw [if_neg hjy]
    refine ho.2 j hj ?_
    rcases hc with h1 | h1 | ⟨k, hk, h1⟩
    · exact .inl h1
    · exact .inr (.inl h1)
    · by_cases hkm : k = m
      · subst hkm; rw [hy] at h1; exact (hjy (Option.some.inj h1)).elim
      · exact .inr (.inr ⟨k, by omega, h1⟩)
def wayRel1 (s : Sg) (t : List Int) (w : World) (B g : Nat) (i : Value) (wr : World) : Prop :=
  ∃ (at_ : Nat) (L : List (List Int)), i = .int .i64 at_ ∧ at_ ≤ t.length ∧ waysOk s t at_ 0 L ∧ OwnPs (fun _ => True) wr B (.slice (some ⟨g, 0, none⟩) t.length t.length) L ∧ Below B w wr
def wayRel2 (s : Sg) (t : List Int) (w : World) (B g at_ M : Nat) (a4 : Option Addr) (c4 : Nat) (P : List Int) (i : Value) (wr : World) : Prop :=
  ∃ (m : Nat) (L : List (List Int)), i = .int .i64 m ∧ m ≤ M ∧ waysOk s t at_ m L ∧ OwnPs (fun _ => True) wr B (.slice (some ⟨g, 0, none⟩) t.length t.length) L ∧ Below B w wr ∧ Ints (fun b => g < b) wr a4 c4 P
end Go.Proofs.YtljkojpooajlhaaGreatDoor

/- strings.Index and strings.Cut at a mark of one byte; strconv.Atoi at whatever text. -/
namespace Go.Proofs.YtljkojpooajlhaaGreatDoor
open Go Go.RowKit Go.Shelf

def SentU (w : World) (g : Nat) : Prop := ∃ ev, w.cell? ⟨g, 0, none⟩ = some ev ∧ (ev = .nilIface ∨ ∃ te pe, ev = .iface te pe)
def LibU (w : World) : Prop := SentU w 1 ∧ SentU w 2
theorem LibU.later {w w' : World} (h : LibU w) (hb : Below w.heap.size w w') : LibU w' := by
  obtain ⟨⟨e1, h3, h4⟩, ⟨e2, h5, h6⟩⟩ := h
  exact ⟨⟨e1, cell_later hb h3, h4⟩, ⟨e2, cell_later hb h5, h6⟩⟩
/-- the number that Atoi gives, whatever the error -/
def avU (l : List UInt8) : Int := match Lib.atoiAll l with | .ok v => v | .range => Lib.atoiSat l | _ => 0
theorem AtoiU_any (s : ByteArray) (hs : s.size ≤ 70000) (w : World) (hL : LibU w) :
    Calls Tryz.prog 15 #[.string s] w fun e w' => ∃ ev, e = .returned (.tuple #[.int .i64 (avU s.data.toList), ev]) ∧ Below w.heap.size w w' := by
  obtain ⟨⟨e1, h3, h4⟩, ⟨e2, h5, h6⟩⟩ := hL
  unfold avU
  cases h : Lib.atoiAll s.data.toList with
  | ok v =>
    refine (Any.strconv_Atoi_ok shC172 s (by omega) v h w).mono fun e w' hh => ⟨_, hh.1, ?_⟩
    rcases hh.2 with rfl | ⟨t, rfl⟩
    · exact .refl _ _
    · exact bytesWorld_low w _ t
  | range =>
    refine (Any.strconv_Atoi_range shC172 s (by omega) h e2 w h5 h6).mono fun e w' hh => ?_
    obtain ⟨N, rfl, -, -, hb⟩ := hh
    exact ⟨_, rfl, hb⟩
  | _ =>
    refine (Any.strconv_Atoi_syntax shC172 s (by omega) h e1 w h3 h4).mono fun e w' hh => ?_
    obtain ⟨N, rfl, -, -, hb⟩ := hh
    exact ⟨_, rfl, hb⟩
theorem sIndex_any (s : ByteArray) (c : UInt8) (w : World) : Calls Tryz.prog 56 #[.string s, .string ⟨#[c]⟩] w fun e w' => e = .returned (.int .i64 (Lib.indexByte s.data.toList c)) ∧ w = w' := by
  have ci := Any.stringslite_Index_one { shM145 with } s c w
  go_enter Tryz.func56, Tryz.ntmps56
  go_wp2_with fail
  refine ci.mono ?_
  rintro e w' ⟨rfl, rfl⟩
  go_wp2_with fail
  go_ret
  exact ⟨rfl, rfl⟩
theorem cut_len (l : List UInt8) (m : UInt8) : (Lib.cut l [m]).1.length ≤ l.length ∧ (Lib.cut l [m]).2.1.length ≤ l.length := by
  unfold Lib.cut
  split
  · simp only [List.length_take, List.length_drop]; omega
  · simp
theorem sliteCutU_any (s : ByteArray) (m : UInt8) (hs : s.size ≤ 70000) (w : World) :
    Calls Tryz.prog 33 #[.string s, .string ⟨#[m]⟩] w fun e w' => e = .returned (.tuple #[.string ⟨(Lib.cut s.data.toList [m]).1.toArray⟩, .string ⟨(Lib.cut s.data.toList [m]).2.1.toArray⟩, .bool (Lib.cut s.data.toList [m]).2.2]) ∧ Drew w w' := by
  have ci := fun W => Any.stringslite_Index_one { shM145 with } s m W
  rcases Lib.indexB_cases s ⟨#[m]⟩ with hix | ⟨i, hix, hroom⟩
  · obtain ⟨e1, e2, e3⟩ := Lib.cutB_miss s ⟨#[m]⟩ hix
    have e1 : (⟨(Lib.cut s.data.toList [m]).1.toArray⟩ : ByteArray) = s := e1
    have e2 : (⟨(Lib.cut s.data.toList [m]).2.1.toArray⟩ : ByteArray) = ByteArray.empty := e2
    have e3 : (Lib.cut s.data.toList [m]).2.2 = false := e3
    rw [e1, e2, e3]
    have hx : Lib.indexByte s.data.toList m = -1 := (Lib.index_one _ _).symm.trans hix
    rw [hx] at ci
    have ciH := Lib.hid ci
    clear ci hx e1 e2 e3 hix
    go_enter Tryz.func33, Tryz.ntmps33
    go_wp2_with fail
    refine (ciH.out _).mono ?_
    rintro e w' ⟨rfl, rfl⟩
    go_wp2_with fail
    go_ret3
    exact ⟨rfl, .refl _⟩
  · obtain ⟨e1, e2, e3⟩ := Lib.cutB_hit s ⟨#[m]⟩ i hix
    have e1 : (⟨(Lib.cut s.data.toList [m]).1.toArray⟩ : ByteArray) = s.extract 0 i := e1
    have e2 : (⟨(Lib.cut s.data.toList [m]).2.1.toArray⟩ : ByteArray) = s.extract (i + 1) s.size := e2
    have e3 : (Lib.cut s.data.toList [m]).2.2 = true := e3
    rw [e1, e2, e3]
    have hx : Lib.indexByte s.data.toList m = (i : Int) := (Lib.index_one _ _).symm.trans hix
    rw [hx] at ci
    have hr : i + 1 ≤ s.size := hroom
    have ciH := Lib.hid ci
    have c1 : (0 : Int) ≤ ↑i := by omega
    have c2 : (↑i : Int) ≤ ↑s.size := by omega
    have c3 : (0 : Int) ≤ ↑i + 1 := by omega
    have c4 : (↑i + 1 : Int) ≤ ↑s.size := by omega
    clear ci hx e1 e2 e3 hix hroom
    go_enter Tryz.func33, Tryz.ntmps33
    go_wp2_with fail
    refine (ciH.out _).mono ?_
    rintro e w' ⟨rfl, rfl⟩
    go_wp2_with fail
    go_quiet (fail)
    all_goals go_wp2_with fail
    all_goals go_ret3
    all_goals exact ⟨by simp, .mk _ _⟩
/-- strings.Cut at a mark of one byte -/
theorem CutU_any (s : ByteArray) (m : UInt8) (hs : s.size ≤ 70000) (w : World) :
    Calls Tryz.prog 14 #[.string s, .string ⟨#[m]⟩] w fun e w' => e = .returned (.tuple #[.string ⟨(Lib.cut s.data.toList [m]).1.toArray⟩, .string ⟨(Lib.cut s.data.toList [m]).2.1.toArray⟩, .bool (Lib.cut s.data.toList [m]).2.2]) ∧ Drew w w' := by
  have c := sliteCutU_any s m hs w
  obtain ⟨x, hx⟩ : ∃ x, Lib.cut s.data.toList [m] = x := ⟨_, rfl⟩
  rw [hx] at c ⊢
  have cH := Lib.hid c
  clear c hx
  go_enter Tryz.func14, Tryz.ntmps14
  go_wp2_with fail
  refine cH.out.mono ?_
  rintro e w' ⟨rfl, hd⟩
  go_wp2_with fail
  go_ret3
  exact ⟨rfl, hd⟩
end Go.Proofs.YtljkojpooajlhaaGreatDoor

/- Walks: the iterator over the parts of a term. -/
namespace Go.Proofs.YtljkojpooajlhaaGreatDoor
open Go Go.RowKit Go.Shelf

attribute [local go_sem] Oper.semAt_some

theorem RoundIn.wideAny {m m' : Nat} {P : Program} {l : Nat} {f : FuncId} {tmps : Array Value} {assign body : Code} {w : World} {R : Ending → World → Prop}
    (h : RoundIn Fence.wide m P l f tmps assign body w R) : RoundIn Fence.wide m' P l f tmps assign body w R := ⟨h.1, fun c cs _ => h.2 c cs (room_wide _)⟩
theorem YieldAt.wideAny {m : Nat} (m' : Nat) {P : Program} {l : Nat} {args : Array Value} {W : World} {R : Ending → World → Prop} (h : YieldAt Fence.wide m P l args W R) : YieldAt Fence.wide m' P l args W R := by
  obtain ⟨fn, tmps, assign, body, hy, hR⟩ := h
  exact ⟨fn, tmps, assign, body, hy, RoundIn.wideAny hR⟩

/-- a path and a part, as they are handed over -/
structure El where
  ap : Option Addr
  cp : Nat
  p : List Int
  au : Option Addr
  cu : Nat
  u : List Int
def El.enc (x : El) : Array Value := #[.slice x.ap x.p.length x.cp, .slice x.au x.u.length x.cu]
def El.pt (x : El) : List Int × List Int := (x.p, x.u)
def ElR (x : El) (W : World) : Prop := Ints (fun _ => True) W x.ap x.cp x.p ∧ Ints (fun _ => True) W x.au x.cu x.u ∧ x.p.length ≤ 60 ∧ x.u.length ≤ 60

/-- append of a number to a list that is full -/
theorem app_full {S : Nat → Prop} {w : World} {a : Option Addr} {l : List Int} (h : Ints S w a l.length l) (hn : l = [] → a = none) (x : Int) (hx : inRange x) (hl : l.length ≤ 1000) :
    ∃ v w', RowKit.Hid (runApp (.slice a l.length l.length) (.slice (some ⟨w.heap.size, 0, none⟩) 1 1) (w.alloc (.cells #[.int .i64 x] 3)) = .ok v w') ∧ RowKit.Hid (OwnI w' w.heap.size v (l ++ [x])) ∧ RowKit.Hid (Below w.heap.size w w') := by
  have hb1 := below1 w (.cells #[.int .i64 x] 3)
  have hI := lit1 (w := w) x hx
  by_cases hne : l = []
  · subst hne
    obtain rfl := hn rfl
    obtain ⟨v, w', r, o, -, b⟩ := app24 (base := w.heap.size) (OwnL.nil intE (fun _ => False) _ _ 3) hI (by simp) hb1.size
    exact ⟨v, w', Lib.hid r, Lib.hid o, Lib.hid (hb1.trans b)⟩
  · obtain ⟨i, hi, hz0, hz1, hz2⟩ := info_parts infoInt
    have h' := h.below hb1
    obtain ⟨b, off, rfl, -, -, hc⟩ := h'.dat hne
    obtain ⟨v, w', r, o, g⟩ := run_append_arg_grows (P := Tryz.prog) (w.alloc (.cells #[.int .i64 x] 3)) 31 31 3 i (.int .i64 0) 1 8 Tryz.underlying31 hi hz0 hz1 hz2 rfl (by decide)
      ⟨b, off, none⟩ l.length l.length (l.map (.int .i64)) (by simp) (fun j u hu => by
        rw [List.getElem?_map] at hu
        cases hj : l[j]? with
        | none => rw [hj] at hu; cases hu
        | some y =>
          rw [hj] at hu
          cases hu
          obtain ⟨hjl, rfl⟩ := List.getElem?_eq_some_iff.1 hj
          obtain ⟨b2, off2, he, -, q, -⟩ := h'.int j hjl
          cases he
          rw [Addr.add_lit]; exact q)
      ⟨w.heap.size, 0, none⟩ 1 1 [.int .i64 x] (by simp) (fun j u hu => by
        cases j with
        | zero => cases hu; rw [Addr.add_lit, World.cell?_alloc_at _ _ _ _ rfl]; rfl
        | succ j => simp at hu) (by omega) (by unfold maxLen; omega) (by omega)
    rw [World.size_alloc] at o
    refine ⟨v, w', Lib.hid r, Lib.hid ((OwnL.of_row (S := fun _ => False) (l := l ++ [x]) (by simpa using o) (fun y hy => ?_)).baseMono (Nat.le_succ _)), Lib.hid (hb1.trans ((Below.refl _ _).grown g (by simp) (fun k e => by cases e)))⟩
    rcases List.mem_append.1 hy with h6 | h6
    · exact h.rng y h6
    · simp at h6; rw [h6]; exact hx

def pwRel (s : Sg) (f : Nat) (p u : List Int) (m B0 : Nat) (J : List El → World → Prop) (pre : List El) (W2 : World) (i : Value) (wr : World) : Prop :=
  ∃ (k : Nat) (ys : List El), i = .int .i64 k ∧ k ≤ m ∧ ys.map El.pt = PK s f p u k ∧ J (pre ++ ys) wr ∧ Leaves B0 W2 wr
end Go.Proofs.YtljkojpooajlhaaGreatDoor

/- Walks: strings.SplitSeq at a mark of one byte: an iterator over the words of a text. -/
namespace Go.Proofs.YtljkojpooajlhaaGreatDoor
open Go Go.RowKit Go.Shelf

attribute [local go_sem] Oper.semAt_some

def bsU (l : List ByteArray) : List (List UInt8) := l.map fun b => b.data.toList
theorem exU_bytes (t : ByteArray) (a b : Nat) : (t.extract a b).data.toList = (t.data.toList.drop a).take (b - a) := by
  rw [ByteArray.data_extract, Array.toList_extract, List.extract_eq_take_drop]
/-- what a round leaves alone: the iterator's three cells -/
def KpU (sb pb qb : Nat) (W W' : World) : Prop := W'.heap[sb]? = W.heap[sb]? ∧ W'.heap[pb]? = W.heap[pb]? ∧ W'.heap[qb]? = W.heap[qb]?
theorem KpU.trans {sb pb qb : Nat} {A B C : World} (h : KpU sb pb qb A B) (k : KpU sb pb qb B C) : KpU sb pb qb A C := ⟨k.1.trans h.1, k.2.1.trans h.2.1, k.2.2.trans h.2.2⟩
structure SpU (J : List ByteArray → World → Prop) (m : UInt8) (t : ByteArray) (sb pb qb : Nat) (pre : List ByteArray) (r : ByteArray) (W : World) : Prop where
  j : J pre W
  s : Boxed W sb 9 (.string r)
  p : Boxed W pb 9 (.string ⟨#[m]⟩)
  q : Boxed W qb 3 (.int .i64 0)
  e : bsU pre ++ wordsB m r.data.toList = wordsB m t.data.toList
  l : pre.length + r.size ≤ t.size
def lenU (sb : Nat) (W : World) : Nat := match W.cell? ⟨sb, 0, none⟩ with | some (.string r) => r.size | _ => 0
theorem SpU.len {J : List ByteArray → World → Prop} {m : UInt8} {t r : ByteArray} {sb pb qb : Nat} {pre : List ByteArray} {W : World} (h : SpU J m t sb pb qb pre r W) : lenU sb W = r.size := by
  unfold lenU; rw [h.s.cell]
set_option maxRecDepth 100000 in
set_option maxHeartbeats 4000000 in
theorem split1_in (n l sb pb qb N : Nat) (m : UInt8) (t : ByteArray) (J Jx : List ByteArray → World → Prop)
    (hset : ∀ pre W v, J pre W → (∃ u, Boxed W sb 9 u) → J pre (W.setCell ⟨sb, 0, none⟩ v))
    (hY : ∀ q pre x W, J pre W → x.size ≤ t.size → pre.length < N → YieldAt Fence.wide q Tryz.prog l #[.string x] W fun e W' => (e = .returned (.bool true) ∧ J (pre ++ [x]) W' ∧ KpU sb pb qb W W') ∨ (e = .returned (.bool false) ∧ Jx (pre ++ [x]) W'))
    (W : World) (hN : t.size + 1 ≤ N) (hz : t.size ≤ 70000) (hs : Boxed W sb 9 (.string t)) (hp : Boxed W pb 9 (.string ⟨#[m]⟩)) (hq : Boxed W qb 3 (.int .i64 0)) (hsp : sb ≠ pb) (hsq : sb ≠ qb) (hJ : J [] W) :
    CallsIn Fence.wide n Tryz.prog 54 #[.func (.yield l) #[] #[], .pointer (some ⟨pb, 0, none⟩), .pointer (some ⟨sb, 0, none⟩), .pointer (some ⟨qb, 0, none⟩)] W fun e W' => (∃ v, e = .returned v) ∧
      ((∃ xs : List ByteArray, bsU xs = wordsB m t.data.toList ∧ J xs W') ∨ (∃ pre, True ∧ Jx pre W')) := by
  have hro : Fence.wide.round = none := rfl
  have h0 : SpU J m t sb pb qb [] t W := ⟨hJ, hs, hp, hq, rfl, by simp⟩
  have h0H := Lib.hid h0
  have hsetH := Lib.hid hset
  have hYH := Lib.hid hY
  have c1 := hp.cell
  clear h0 hJ hs hp hq hset hY
  refine callsIn_of_wp Tryz.func54 rfl trivial ?_ hro
  simp only [Tryz.ntmps54, List.size_toArray, List.length_cons, List.length_nil, Nat.reduceAdd, Nat.reduceSub, Array.replicate_succ, Array.replicate_zero, List.push_toArray, List.append_toArray, List.nil_append, List.cons_append]
  gi_wp2_with fail
  gi_loopw [7] (fun _ wr => ∃ pre r, SpU J m t sb pb qb pre r wr) (fun _ wr => lenU sb wr)
  case atStart => exact ⟨[], t, h0H.out⟩
  case round =>
    obtain ⟨pre, r, hR⟩ := hrel
    have q1 := hR.s.cell
    have q2 := hR.p.cell
    have q3 := hR.q.cell
    have hl := hR.l
    have cI := fun W => sIndex_any r m W
    have hRH := Lib.hid hR
    clear hR c1
    rcases split_byte m r.data.toList with ⟨hi, hno⟩ | ⟨i, hi, hlt, hw⟩
    · rw [hi] at cI
      have cIH := Lib.hid cI
      have hnoH := Lib.hid hno
      obtain ⟨fn, tmps, assign, body, hy, hRR⟩ := hYH.out (n - 1) pre r wr hRH.out.j (by omega) (by omega)
      clear cI hi hno
      gi_wp2_with fail
      refine ⟨trivial, fun h => (by cases h), (callsIn_wide.2 (cIH.out _)).mono ?_⟩
      rintro e w2 ⟨rfl, rfl⟩
      gi_wp2_with fail
      refine ⟨fun h => (by cases h), ?_⟩
      refine hRR.mono ?_
      clear hRR hy
      rintro e W3 (⟨rfl, hJ3, -⟩ | ⟨rfl, hJx⟩)
      · gi_wp2_with fail
        go_end0
        have hf := hRH.out.e
        rw [wordsB_no hnoH.out] at hf
        exact ⟨⟨_, rfl⟩, .inl ⟨_, by rw [← hf]; unfold bsU; rw [List.map_append]; rfl, hJ3⟩⟩
      · gi_wp2_with fail
        go_end0
        exact ⟨⟨_, rfl⟩, .inr ⟨_, trivial, hJx⟩⟩
    · rw [hi] at cI
      have cIH := Lib.hid cI
      have hrl : r.data.toList.length = r.size := Array.length_toList
      have hir : i < r.size := by omega
      obtain ⟨fn, tmps, assign, body, hy, hRR⟩ := hYH.out (n - 1) pre (r.extract 0 i) wr hRH.out.j (by rw [ByteArray.size_extract]; omega) (by omega)
      have e1 : (r.extract 0 i).data.toList = r.data.toList.take i := by rw [exU_bytes]; simp
      have e2 : (r.extract (i + 1) r.size).data.toList = r.data.toList.drop (i + 1) := by rw [exU_bytes, List.take_of_length_le (by rw [List.length_drop, hrl]; exact Nat.le_refl _)]
      have e3 : (r.extract (i + 1) r.size).size = r.size - (i + 1) := by rw [ByteArray.size_extract]; omega
      have he : bsU (pre ++ [r.extract 0 i]) ++ wordsB m (r.extract (i + 1) r.size).data.toList = wordsB m t.data.toList := by
        rw [← hRH.out.e, hw, e2]; unfold bsU; rw [List.map_append, List.map_cons, List.map_nil, e1]; simp
      have heH := Lib.hid he
      have e3H := Lib.hid e3
      obtain ⟨y, hyE⟩ : ∃ y, r.extract (i + 1) r.size = y := ⟨_, rfl⟩
      have c1 : (0 : Int) ≤ ↑i := by omega
      have c2 : (↑i : Int) ≤ ↑r.size := by omega
      have c3 : (0 : Int) ≤ ↑i + 1 := by omega
      have c4 : (↑i + 1 : Int) ≤ ↑r.size := by omega
      have c5 : ((↑i : Int) < 0) = False := eq_false (by omega)
      clear cI hi hw e1 e2 e3 he hlt hrl
      gi_wp2_with fail
      refine ⟨trivial, fun h => (by cases h), (callsIn_wide.2 (cIH.out _)).mono ?_⟩
      rintro e w2 ⟨rfl, rfl⟩
      gi_wp2_with fail
      refine ⟨fun h => (by cases h), ?_⟩
      refine hRR.mono ?_
      clear hRR hy
      rintro e W3 (⟨rfl, hJ3, hk⟩ | ⟨rfl, hJx⟩)
      · have hs3 : Boxed W3 sb 9 (.string r) := hk.1.trans hRH.out.s
        have hp3 : Boxed W3 pb 9 (.string ⟨#[m]⟩) := hk.2.1.trans hRH.out.p
        have hq3 : Boxed W3 qb 3 (.int .i64 0) := hk.2.2.trans hRH.out.q
        have q1 := hs3.cell
        have q2 := hp3.cell
        have q3 := hq3.cell
        have f1 := hs3.frozen
        have hs4 := hs3.set (.string y)
        have hg4 : W3.grownBy (W3.setCell ⟨sb, 0, none⟩ (.string y)) (some sb) := grownBy_setCell' _ _ _
        have hn : SpU J m t sb pb qb (pre ++ [r.extract 0 i]) y (W3.setCell ⟨sb, 0, none⟩ (.string y)) := by
          subst hyE
          exact ⟨hsetH.out _ _ _ hJ3 ⟨_, hs3⟩, hs4, hp3.kept hg4 (fun e => hsp (Option.some.inj e).symm), hq3.kept hg4 (fun e => hsq (Option.some.inj e).symm), heH.out, by rw [e3H.out, List.length_append, List.length_singleton]; omega⟩
        have hm : lenU sb (W3.setCell ⟨sb, 0, none⟩ (.string y)) < lenU sb wr := by
          rw [hn.len, hRH.out.len, ← hyE, e3H.out]; omega
        have hnH := Lib.hid hn
        have hmH := Lib.hid hm
        have hyH := Lib.hid hyE
        clear hn hm hyE hs3 hp3 hq3 hs4 hg4 hJ3 hk
        gi_wp2_with fail
        have e := hyH.out
        subst e
        exact ⟨⟨_, _, hnH.out⟩, hmH.out⟩
      · gi_wp2_with fail
        refine bodyPost_ret (results_none rfl _ _ _) rfl ?_
        exact ⟨⟨_, rfl⟩, .inr ⟨_, trivial, hJx⟩⟩
/-- the cells that SplitSeq lays -/
def splitWld (w : World) (t : ByteArray) (m : UInt8) : World := ((w.alloc (.cells #[.string t] 9)).alloc (.cells #[.string ⟨#[m]⟩] 9)).alloc (.cells #[.int .i64 0] 3)
theorem splitSeq_in (n : Nat) (t : ByteArray) (m : UInt8) (w : World) :
    CallsIn Fence.wide n Tryz.prog 32 #[.string t, .string ⟨#[m]⟩, .int .i64 0] w fun e w' => e = .returned (.func (.func 54) #[] #[.pointer (some ⟨w.heap.size + 1, 0, none⟩), .pointer (some ⟨w.heap.size, 0, none⟩), .pointer (some ⟨w.heap.size + 1 + 1, 0, none⟩)]) ∧ w' = splitWld w t m := by
  have hro : Fence.wide.round = none := rfl
  refine callsIn_of_wp Tryz.func32 rfl trivial ?_ hro
  simp only [Tryz.ntmps32, List.size_toArray, List.length_cons, List.length_nil, Nat.reduceAdd, Nat.reduceSub, Array.replicate_succ, Array.replicate_zero, List.push_toArray, List.append_toArray, List.nil_append, List.cons_append]
  gi_wp2
  go_ret
  exact ⟨rfl, rfl⟩
theorem SplitSeq_in (n : Nat) (t : ByteArray) (m : UInt8) (w : World) :
    CallsIn Fence.wide n Tryz.prog 13 #[.string t, .string ⟨#[m]⟩] w fun e w' => e = .returned (.func (.func 54) #[] #[.pointer (some ⟨w.heap.size + 1, 0, none⟩), .pointer (some ⟨w.heap.size, 0, none⟩), .pointer (some ⟨w.heap.size + 1 + 1, 0, none⟩)]) ∧ w' = splitWld w t m := by
  have hro : Fence.wide.round = none := rfl
  have c := fun q => splitSeq_in q t m w
  refine callsIn_of_wp Tryz.func13 rfl trivial ?_ hro
  simp only [Tryz.ntmps13, List.size_toArray, List.length_cons, List.length_nil, Nat.reduceAdd, Nat.reduceSub, Array.replicate_succ, Array.replicate_zero, List.push_toArray, List.append_toArray, List.nil_append, List.cons_append]
  gi_wp2_with fail
  refine ⟨trivial, fun h => (by cases h), (c _).mono ?_⟩
  rintro e w2 ⟨rfl, rfl⟩
  gi_wp2_with fail
  go_ret
  exact ⟨rfl, rfl⟩


theorem split_seq (n sb pb qb N : Nat) (m : UInt8) (t : ByteArray) (w : World) (hN : t.size + 1 ≤ N) (hz : t.size ≤ 70000) (hs : Boxed w sb 9 (.string t)) (hp : Boxed w pb 9 (.string ⟨#[m]⟩)) (hq : Boxed w qb 3 (.int .i64 0)) (hsp : sb ≠ pb) (hsq : sb ≠ qb) :
    SeqRelB Fence.wide n Tryz.prog 54 #[.pointer (some ⟨pb, 0, none⟩), .pointer (some ⟨sb, 0, none⟩), .pointer (some ⟨qb, 0, none⟩)] (fun x : ByteArray => #[.string x]) (fun x _ => x.size ≤ t.size) (KpU sb pb qb) (RwB sb) (fun xs => bsU xs = wordsB m t.data.toList) (fun _ => True) N w := fun l J Jx W hW hJ _ hY h0 => by
  refine split1_in n l sb pb qb N m t J Jx (fun pre A v h hb => ?_) (fun q pre x A h1 h2 h3 => YieldAt.wideAny q (hY pre x A h1 h2 h3)) W hN hz ((hW.block sb hs.lt).trans hs) ((hW.block pb hp.lt).trans hp) ((hW.block qb hq.lt).trans hq) hsp hsq h0
  obtain ⟨u, hu⟩ := hb
  exact hJ pre A _ (some sb) h (grownBy_setCell' _ _ _) (fun r e => by cases e; exact ⟨_, hu, .inr ⟨rfl, rfl⟩⟩)
end Go.Proofs.YtljkojpooajlhaaGreatDoor
