/- The proof of a statement, some of its texts joined in build order: part O. -/
import Derived.Test.YtpmnnoopoblpgaaGreatMtD
import Derived.Lib.SlicesCompact
import Derived.Test.YtpmnnoopoblpgaaGreatMtE
import Derived.Test.YtpmnnoopoblpgaaGreatMtA
import Derived.Test.YtpmnnoopoblpgaaGreatMtC
import Derived.Test.YtpmnnoopoblpgaaGreatMtB
import Derived.Test.YtpmnnoopoblpgaaGreatMtV
import Derived.Deep.RegionLaw
import Derived.Deep.RegionWith
import Derived.Test.YtpmnnoopoblpgaaGreatMtI
import Derived.BigQuiet
import Derived.Deep.WholeRow
import Derived.Test.YtpmnnoopoblpgaaGreatWalkE
import Derived.Test.YtpmnnoopoblpgaaGreatWalkJ
import Derived.Laws.CopyOwn
import Derived.Test.YtpmnnoopoblpgaaGreatMtR
import Derived.Test.YtpmnnoopoblpgaaGreatRegion
import Derived.Test.YtpmnnoopoblpgaaGreatMtW
import Derived.Maps.RangeWalk
/- Needed steps, counts and heights of proofs by their trees, in plain words. No program is named. -/
namespace Go.Proofs.YtpmnnoopoblpgaaGreat

end Go.Proofs.YtpmnnoopoblpgaaGreat

/- Givens that needed steps cite, in plain words: a sorted list, each once, is what a range is left with. No program is named. -/
namespace Go.Proofs.YtpmnnoopoblpgaaGreat

end Go.Proofs.YtpmnnoopoblpgaaGreat

/- What Needed answers, in plain words. No program is named. -/
namespace Go.Proofs.YtpmnnoopoblpgaaGreat
end Go.Proofs.YtpmnnoopoblpgaaGreat

/- If entries say something more general, what holds goes on holding, where no step becomes too great or has no "if". No program is named. -/
namespace Go.Proofs.YtpmnnoopoblpgaaGreat

end Go.Proofs.YtpmnnoopoblpgaaGreat

/- What is shaken: told by marks and told by names, it is one. No program is named. -/
namespace Go.Proofs.YtpmnnoopoblpgaaGreat

/-- cited, and not there -/
def mssB (l : List Ent) (u : ByteArray) : Bool := l.any (fun x => memB (eUses x) u) && (atN l u).isNone
noncomputable def badB (s : Sg) (l : List Ent) (u : ByteArray) : Bool := mssB l u || chB l (fun i => !holdX s l i) u
open Classical in
noncomputable def goodB (s : Sg) (l : List Ent) (i : Nat) : Bool := !badB s l (nmI l i) && decide (∀ n, rchB l (fun _ => true) (nmI l i) n = true → badB s l n = false)
open Classical in
theorem goodB_iff {s : Sg} {l : List Ent} {i : Nat} : goodB s l i = true ↔ badB s l (nmI l i) = false ∧ ∀ n, rchB l (fun _ => true) (nmI l i) n = true → badB s l n = false := by
  unfold goodB
  rw [Bool.and_eq_true, decide_eq_true_eq, Bool.not_eq_true']
end Go.Proofs.YtpmnnoopoblpgaaGreat

/- Walks of the reference's solver: Apart. -/
namespace Go.Proofs.YtpmnnoopoblpgaaGreat
open Go Go.RowKit Go.Maps

end Go.Proofs.YtpmnnoopoblpgaaGreat

/- Walks of the reference's solver: size, whole. -/
namespace Go.Proofs.YtpmnnoopoblpgaaGreat
open Go Go.RowKit Go.Maps

end Go.Proofs.YtpmnnoopoblpgaaGreat

/- Walks of the reference's solver: whole. -/
namespace Go.Proofs.YtpmnnoopoblpgaaGreat
open Go Go.RowKit Go.Maps

end Go.Proofs.YtpmnnoopoblpgaaGreat

/- Walks of the reference's solver: Whole, Few. -/
namespace Go.Proofs.YtpmnnoopoblpgaaGreat
open Go Go.RowKit Go.Maps

end Go.Proofs.YtpmnnoopoblpgaaGreat

/- Walks: kernel.Detaches. -/
namespace Go.Proofs.YtpmnnoopoblpgaaGreat
open Go Go.RowKit Go.Maps

end Go.Proofs.YtpmnnoopoblpgaaGreat

/- Walks: ValidGivens of the reference. -/
namespace Go.Proofs.YtpmnnoopoblpgaaGreat
open Go Go.RowKit Go.Maps

end Go.Proofs.YtpmnnoopoblpgaaGreat

/- Walks: kernel.up, Count, Height. -/
namespace Go.Proofs.YtpmnnoopoblpgaaGreat
open Go Go.RowKit

end Go.Proofs.YtpmnnoopoblpgaaGreat

/- Walks: kernel.Count, kernel.Height. -/
namespace Go.Proofs.YtpmnnoopoblpgaaGreat
open Go Go.RowKit

end Go.Proofs.YtpmnnoopoblpgaaGreat

/- Lists of bools of a call's own; lists made of zeros. -/
namespace Go.Proofs.YtpmnnoopoblpgaaGreat
open Go Go.RowKit

def boolE : Enc Bool where
  size := 1
  pos := by decide
  R _ _ vs x := vs = [.bool x]
  len h := by rw [h]; rfl
  one h := by rw [h]; simp [Value.oneCell']
  mono h _ _ := h
abbrev OwnB (w : World) (base : Nat) (v : Value) (l : List Bool) : Prop := OwnL boolE (fun _ => False) w base 4 v l
section
variable {w : World} {base : Nat} {v : Value} {l : List Bool}
theorem bools_rows {xs : List (List Value)} {T : Nat → Prop} (hl : xs.length = l.length) (hx : ∀ i (h1 : i < xs.length) (h2 : i < l.length), boolE.R T w xs[i] l[i]) : xs = l.map (fun x => [.bool x]) := by
  apply List.ext_getElem (by simpa using hl)
  intro i h1 h2
  rw [List.getElem_map]
  exact hx i h1 (by omega)
theorem flatten_singleB (l : List Bool) : (l.map (fun x => [Value.bool x])).flatten = l.map Value.bool := by
  induction l with
  | nil => rfl
  | cons x r ih => simp [ih]
theorem OwnB.row (h : OwnB w base v l) : w.ownsRow base 4 1 v l.length (l.map Value.bool) := by
  obtain ⟨xs, ho, hl, hx⟩ := h
  obtain rfl := bools_rows hl hx
  rw [flatten_singleB] at ho
  exact ho
theorem OwnB.of_row (h : w.ownsRow base 4 1 v l.length (l.map Value.bool)) : OwnB w base v l :=
  ⟨l.map (fun x => [.bool x]), by rw [flatten_singleB]; exact h, by simp, fun i h1 h2 => by simp [boolE]⟩
theorem OwnB.bools (h : OwnB w base v l) : ∃ a c, v = .slice a l.length c ∧ Sl boolE (fun b => base ≤ b) w a c l := by
  obtain ⟨a, c, rfl, hI⟩ := OwnL.sl h
  exact ⟨a, c, rfl, hI.weak (fun b hb => hb.elim id False.elim)⟩
theorem Sl.bool {S : Nat → Prop} {a : Option Addr} {c : Nat} (h : Sl boolE S w a c l) (i : Nat) (hi : i < l.length) : ∃ b off, a = some ⟨b, off, none⟩ ∧ S b ∧ w.cell? ⟨b, off + i, none⟩ = some (.bool l[i]) := by
  obtain ⟨b, off, ha, hb, _, vs, _, hv, hr⟩ := h.at1 i hi
  have hr' : vs = [.bool l[i]] := hr
  subst hr'
  have := hv 0 (by simp)
  simp [boolE] at this
  exact ⟨b, off, ha, hb, this⟩
theorem OwnB.cell {g cap n : Nat} (h : OwnB w base (.slice (some ⟨g, 0, none⟩) n cap) l) (hn : n = l.length) (i : Nat) (hi : i < l.length) : w.cell? ⟨g, i, none⟩ = some (.bool l[i]) ∧ w.frozen? ⟨g, i, none⟩ = false := by
  subst hn
  have ho := h.row
  exact ⟨by rw [ho.cellAt i (by omega)]; simp [hi], ho.frozenAt i⟩
theorem OwnB.set {g cap n : Nat} (h : OwnB w base (.slice (some ⟨g, 0, none⟩) n cap) l) (hn : n = l.length) (i : Nat) (x : Bool) :
    OwnB (w.setCell ⟨g, i, none⟩ (.bool x)) base (.slice (some ⟨g, 0, none⟩) n cap) (l.set i x) ∧ w.grownBy (w.setCell ⟨g, i, none⟩ (.bool x)) (some g) := by
  subst hn
  obtain ⟨h1, h2⟩ := h.row.stored i (.bool x)
  exact ⟨.of_row (by rw [List.length_set, List.map_set]; exact h1), h2⟩
theorem OwnB.lit (w : World) (l : List Bool) (hl : l.length ≤ maxLen) : OwnB (w.alloc (.cells (l.map Value.bool).toArray 4)) w.heap.size (.slice (some ⟨w.heap.size, 0, none⟩) l.length l.length) l :=
  .of_row (by have := World.ownsRow_lit (e := 4) (size := 1) w (l.map Value.bool).toArray l.length (Nat.le_refl _) hl (by simp); simpa using this)
end
theorem infoBool : (Tryz.prog.info? 4).map (fun i => (i.zero, i.size, i.bytes)) = some (some (.bool false), 1, 1) := by kernel_rfl
theorem OwnB.made (w : World) (n : Nat) (hn : n ≤ 100) : OwnB (w.alloc (.cells (Array.replicate n (.bool false)) 4)) w.heap.size (.slice (some ⟨w.heap.size, 0, none⟩) n n) (List.replicate n false) := by
  have h := OwnB.lit w (List.replicate n false) (by rw [List.length_replicate]; unfold maxLen; omega)
  rw [List.length_replicate, List.map_replicate, List.toArray_replicate] at h
  exact h
def retB (w : World) (l : List Bool) (e : Ending) (w' : World) : Prop := ∃ v, e = .returned v ∧ OwnB w' w.heap.size v l ∧ Below w.heap.size w w'
end Go.Proofs.YtpmnnoopoblpgaaGreat

/- Walks: lemmaryref04.detach, Detach, Detaches. -/
namespace Go.Proofs.YtpmnnoopoblpgaaGreat
open Go Go.RowKit Go.Maps

end Go.Proofs.YtpmnnoopoblpgaaGreat

/- Walks: lemmaryref06.Name, Has, Index. -/
namespace Go.Proofs.YtpmnnoopoblpgaaGreat
open Go Go.RowKit Go.Maps

end Go.Proofs.YtpmnnoopoblpgaaGreat

/- Walks: ValidEntry of the reference. -/
namespace Go.Proofs.YtpmnnoopoblpgaaGreat
open Go Go.RowKit Go.Maps

theorem Sl.pre {α : Type} {E : Enc α} {S : Nat → Prop} {w : World} {a : Option Addr} {c : Nat} {l : List α} (h : Sl E S w a c l) (k : Nat) : Sl E S w a c (l.take k) := by
  refine ⟨by have := h.cap; rw [List.length_take]; omega, h.max, fun e => by obtain ⟨e1, e2⟩ := h.nil e; exact ⟨by rw [e1]; simp, e2⟩, fun hne => ?_⟩
  obtain ⟨b, off, ha, hb, hl, hc⟩ := h.dat (fun e => hne (by rw [e]; simp))
  refine ⟨b, off, ha, hb, hl, fun i hi => ?_⟩
  rw [List.length_take] at hi
  obtain ⟨vs, h1, h2, h3⟩ := hc i (by omega)
  exact ⟨vs, h1, h2, by rw [List.getElem_take]; exact h3⟩
end Go.Proofs.YtpmnnoopoblpgaaGreat

/- A name put in its place in an ascending list: the list, and the cells. -/
namespace Go.Proofs.YtpmnnoopoblpgaaGreat
open Go Go.RowKit Go.Maps

theorem OwnS.cellAt {w : World} {base g cap n : Nat} {L : List ByteArray} (h : OwnS w base (.slice (some ⟨g, 0, none⟩) n cap) L) (hn : n = L.length) (i : Nat) (hi : i < L.length) : w.cell? ⟨g, i, none⟩ = some (.string L[i]) ∧ w.frozen? ⟨g, i, none⟩ = false := by
  subst hn
  obtain ⟨ho, _⟩ := OwnS.row h
  exact ⟨by rw [ho.cellAt i (by omega)]; simp [hi], ho.frozenAt i⟩
end Go.Proofs.YtpmnnoopoblpgaaGreat

/- Walks: Sorted of the reference. -/
namespace Go.Proofs.YtpmnnoopoblpgaaGreat
open Go Go.RowKit Go.Maps

end Go.Proofs.YtpmnnoopoblpgaaGreat


/- Walks: heavy. -/
namespace Go.Proofs.YtpmnnoopoblpgaaGreat
open Go Go.RowKit Go.Maps

def hvRel (l : List Ent) (w : World) (i : Value) (wr : World) : Prop := ∃ k : Nat, i = .int .i64 k ∧ k ≤ l.length ∧ Below w.heap.size w wr
def hvRel2 (N : Nat) (w : World) (i : Value) (wr : World) : Prop := ∃ j : Nat, i = .int .i64 j ∧ j ≤ N ∧ Below w.heap.size w wr
def HvRet (l : List Ent) (w : World) (e : Ending) (w' : World) : Prop := ∃ r : Bool, e = .returned (.bool r) ∧ (r = false → l.length ≤ 100) ∧ Below w.heap.size w w'
theorem HvRet.t {l : List Ent} {w w' : World} (hb : Below w.heap.size w w') : HvRet l w (.returned (.bool true)) w' := ⟨true, rfl, (fun h => by cases h), hb⟩
set_option maxRecDepth 100000 in
set_option maxHeartbeats 8000000 in
theorem heavy_any {S1 S2 : Nat → Prop} (sa la : Option Addr) (sc lc : Nat) (s : Sg) (l : List Ent) (w : World) (h1 : Sign S1 w sa sc s) (h2 : LibL S2 w la lc l) :
    Calls Tryz.prog 12 #[.slice sa s.length sc, .slice la l.length lc] w (HvRet l w) := by
  have m := h2.le
  have m1 := h1.le
  have h2H := Lib.hid h2
  clear h1 h2
  generalize hns : s.length = ns at *
  clear hns
  by_cases a1 : 20 < ns
  · have b1 : ((20 : Int) < (ns : Int)) = True := eq_true (by omega)
    go_enter Tryz.func12, Tryz.ntmps12
    go_wp2_with fail
    go_ret
    exact HvRet.t (.refl _ _)
  · have b1 : ((20 : Int) < (ns : Int)) = False := eq_false (by omega)
    by_cases a2 : 10 < l.length
    · have b2 : ((10 : Int) < (l.length : Int)) = True := eq_true (by omega)
      by_cases a3 : l.length ≤ 60
      · have b3 : ((l.length : Int) ≤ 60) = True := eq_true (by omega)
        go_enter Tryz.func12, Tryz.ntmps12
        go_wp2_with fail
        go_ret
        exact HvRet.t (.refl _ _)
      · have b3 : ((l.length : Int) ≤ 60) = False := eq_false (by omega)
        by_cases a4 : 100 < l.length
        · have b4 : ((100 : Int) < (l.length : Int)) = True := eq_true (by omega)
          go_enter Tryz.func12, Tryz.ntmps12
          go_wp2_with fail
          go_ret
          exact HvRet.t (.refl _ _)
        · have b4 : ((100 : Int) < (l.length : Int)) = False := eq_false (by omega)
          go_enter Tryz.func12, Tryz.ntmps12
          have hl100 := Lib.hid (show l.length ≤ 100 by omega)
          go_wp2_with fail
          go_loopw [5] (fun i wr => hvRel l w i wr) (fun i _ => l.length - (intOf i).toNat)
          case atStart => exact ⟨0, rfl, Nat.zero_le _, .refl _ _⟩
          case round =>
            obtain ⟨k, rfl, hk, hB⟩ := hrel
            by_cases hlt : k < l.length
            · obtain ⟨b, off, a1, c1, a2, c2, a3, c3, rfl, -, s0, s1, s2, s3, s4, z1, z2, hI, hU, hP⟩ := (h2H.out.below hB).ent k hlt
              obtain ⟨W, hW⟩ : ∃ W, wr.alloc (.cells #[.string (eNm l[k]), .string (eBy l[k]), .slice a1 (eSays l[k]).length c1, .slice a2 (eUses l[k]).length c2, .slice a3 (ePf l[k]).length c3] 37) = W := ⟨_, rfl⟩
              have hBW : Below wr.heap.size wr W := by rw [← hW]; exact below1 wr _
              have p0 : W.cell? ⟨wr.heap.size, 0, none⟩ = some (.string (eNm l[k])) := by rw [← hW]; clear hW; go_simp
              have p1 : W.cell? ⟨wr.heap.size, 1, none⟩ = some (.string (eBy l[k])) := by rw [← hW]; clear hW; go_simp
              have p2 : W.cell? ⟨wr.heap.size, 2, none⟩ = some (.slice a1 (eSays l[k]).length c1) := by rw [← hW]; clear hW; go_simp
              have q3 : W.cell? ⟨wr.heap.size, 3, none⟩ = some (.slice a2 (eUses l[k]).length c2) := by rw [← hW]; clear hW; go_simp
              have p4 : W.cell? ⟨wr.heap.size, 4, none⟩ = some (.slice a3 (ePf l[k]).length c3) := by rw [← hW]; clear hW; go_simp
              have hUW := hU.below hBW
              obtain ⟨us, hus⟩ : ∃ us, eUses l[k] = us := ⟨_, rfl⟩
              rw [hus] at hUW s3 q3 hW
              obtain ⟨n2, hn2⟩ : ∃ n2, us.length = n2 := ⟨_, rfl⟩
              have hm2 := hUW.le
              rw [hn2] at s3 q3 hW hm2
              have hUH := Lib.hid hUW
              have husH := Lib.hid hn2
              have hB2H := Lib.hid (bcall hB hBW)
              have m3 := hI.le
              have m4 := hP.le
              clear hI hU hP hUW hB hBW hus hn2
              generalize eNm l[k] = nm at *
              generalize eBy l[k] = bn at *
              generalize (eSays l[k]).length = n1 at *
              generalize (ePf l[k]).length = n3 at *
              unfold big at z1 z2
              by_cases x0 : 100 < nm.size
              · have y0 : ((100 : Int) < (nm.size : Int)) = True := eq_true (by omega)
                go_wp2_with fail
                go_ret
                exact HvRet.t hB2H.out
              · have y0 : ((100 : Int) < (nm.size : Int)) = False := eq_false (by omega)
                by_cases x1 : 100 < bn.size
                · have y1 : ((100 : Int) < (bn.size : Int)) = True := eq_true (by omega)
                  go_wp2_with fail
                  go_ret
                  exact HvRet.t hB2H.out
                · have y1 : ((100 : Int) < (bn.size : Int)) = False := eq_false (by omega)
                  by_cases x2 : 100 < n1
                  · have y2 : ((100 : Int) < (n1 : Int)) = True := eq_true (by omega)
                    go_wp2_with fail
                    go_ret
                    exact HvRet.t hB2H.out
                  · have y2 : ((100 : Int) < (n1 : Int)) = False := eq_false (by omega)
                    by_cases x3 : 20 < n2
                    · have y3 : ((20 : Int) < (n2 : Int)) = True := eq_true (by omega)
                      go_wp2_with fail
                      go_ret
                      exact HvRet.t hB2H.out
                    · have y3 : ((20 : Int) < (n2 : Int)) = False := eq_false (by omega)
                      by_cases x5 : 12 < n3
                      · have y5 : ((12 : Int) < (n3 : Int)) = True := eq_true (by omega)
                        by_cases x6 : n3 ≤ 60
                        · have y6 : ((n3 : Int) ≤ 60) = True := eq_true (by omega)
                          go_wp2_with fail
                          go_ret
                          exact HvRet.t hB2H.out
                        · have y6 : ((n3 : Int) ≤ 60) = False := eq_false (by omega)
                          by_cases x7 : 100 < n3
                          · have y7 : ((100 : Int) < (n3 : Int)) = True := eq_true (by omega)
                            go_wp2_with fail
                            go_ret
                            exact HvRet.t hB2H.out
                          · have y7 : ((100 : Int) < (n3 : Int)) = False := eq_false (by omega)
                            go_wp2_with fail
                            clear p0 p1 p2 p4
                            go_loopw [7] (fun i wr => hvRel2 n2 W i wr) (fun i _ => n2 - (intOf i).toNat)
                            case atStart => exact ⟨0, rfl, Nat.zero_le _, .refl _ _⟩
                            case round =>
                              obtain ⟨j, rfl, hj, hBj⟩ := hrel
                              have r3 := cell_later hBj q3
                              by_cases hjl : j < n2
                              · obtain ⟨b2, o2, rfl, -, qu, hzu⟩ := (hUH.out.below hBj).str j (by have := husH.out; omega)
                                generalize us[j]'(by have := husH.out; omega) = u at qu hzu
                                by_cases hu : 100 < u.size
                                · have hui : ((100 : Int) < (u.size : Int)) = True := eq_true (by omega)
                                  have hBH := Lib.hid (bcall hB2H.out hBj)
                                  clear hBj
                                  go_wp2_with fail
                                  go_ret
                                  exact HvRet.t hBH.out
                                · have hui : ((100 : Int) < (u.size : Int)) = False := eq_false (by omega)
                                  have hfin := Lib.hid (show hvRel2 n2 W (.int .i64 ((j : Int) + 1)) wr from ⟨j + 1, by simp, hjl, hBj⟩)
                                  clear hBj
                                  go_wp2_with fail
                                  go_roundw
                                  case rel => exact hfin.out
                                  case measure => simp [intOf]; omega
                              · have hjj : ((j : Int) < (n2 : Int)) = False := eq_false (by omega)
                                have hfin := Lib.hid (show hvRel l w (.int .i64 ((k : Int) + 1)) wr from ⟨k + 1, by simp, hlt, bcall hB2H.out hBj⟩)
                                clear hBj hjl hj
                                go_wp2_with fail
                                go_roundw
                                case rel => exact hfin.out
                                case measure => simp [intOf]; omega
                      · have y5 : ((12 : Int) < (n3 : Int)) = False := eq_false (by omega)
                        have y7 : ((100 : Int) < (n3 : Int)) = False := eq_false (by omega)
                        go_wp2_with fail
                        clear p0 p1 p2 p4
                        go_loopw [7] (fun i wr => hvRel2 n2 W i wr) (fun i _ => n2 - (intOf i).toNat)
                        case atStart => exact ⟨0, rfl, Nat.zero_le _, .refl _ _⟩
                        case round =>
                          obtain ⟨j, rfl, hj, hBj⟩ := hrel
                          have r3 := cell_later hBj q3
                          by_cases hjl : j < n2
                          · obtain ⟨b2, o2, rfl, -, qu, hzu⟩ := (hUH.out.below hBj).str j (by have := husH.out; omega)
                            generalize us[j]'(by have := husH.out; omega) = u at qu hzu
                            by_cases hu : 100 < u.size
                            · have hui : ((100 : Int) < (u.size : Int)) = True := eq_true (by omega)
                              have hBH := Lib.hid (bcall hB2H.out hBj)
                              clear hBj
                              go_wp2_with fail
                              go_ret
                              exact HvRet.t hBH.out
                            · have hui : ((100 : Int) < (u.size : Int)) = False := eq_false (by omega)
                              have hfin := Lib.hid (show hvRel2 n2 W (.int .i64 ((j : Int) + 1)) wr from ⟨j + 1, by simp, hjl, hBj⟩)
                              clear hBj
                              go_wp2_with fail
                              go_roundw
                              case rel => exact hfin.out
                              case measure => simp [intOf]; omega
                          · have hjj : ((j : Int) < (n2 : Int)) = False := eq_false (by omega)
                            have hfin := Lib.hid (show hvRel l w (.int .i64 ((k : Int) + 1)) wr from ⟨k + 1, by simp, hlt, bcall hB2H.out hBj⟩)
                            clear hBj hjl hj
                            go_wp2_with fail
                            go_roundw
                            case rel => exact hfin.out
                            case measure => simp [intOf]; omega
            · have hkk : ((k : Int) < (l.length : Int)) = False := eq_false (by omega)
              have hBH := Lib.hid hB
              clear hB hlt hk
              go_wp2_with fail
              go_ret
              exact ⟨false, rfl, fun _ => hl100.out, hBH.out⟩
    · have b2 : ((10 : Int) < (l.length : Int)) = False := eq_false (by omega)
      have b4 : ((100 : Int) < (l.length : Int)) = False := eq_false (by omega)
      go_enter Tryz.func12, Tryz.ntmps12
      have hl100 := Lib.hid (show l.length ≤ 100 by omega)
      go_wp2_with fail
      go_loopw [5] (fun i wr => hvRel l w i wr) (fun i _ => l.length - (intOf i).toNat)
      case atStart => exact ⟨0, rfl, Nat.zero_le _, .refl _ _⟩
      case round =>
        obtain ⟨k, rfl, hk, hB⟩ := hrel
        by_cases hlt : k < l.length
        · obtain ⟨b, off, a1, c1, a2, c2, a3, c3, rfl, -, s0, s1, s2, s3, s4, z1, z2, hI, hU, hP⟩ := (h2H.out.below hB).ent k hlt
          obtain ⟨W, hW⟩ : ∃ W, wr.alloc (.cells #[.string (eNm l[k]), .string (eBy l[k]), .slice a1 (eSays l[k]).length c1, .slice a2 (eUses l[k]).length c2, .slice a3 (ePf l[k]).length c3] 37) = W := ⟨_, rfl⟩
          have hBW : Below wr.heap.size wr W := by rw [← hW]; exact below1 wr _
          have p0 : W.cell? ⟨wr.heap.size, 0, none⟩ = some (.string (eNm l[k])) := by rw [← hW]; clear hW; go_simp
          have p1 : W.cell? ⟨wr.heap.size, 1, none⟩ = some (.string (eBy l[k])) := by rw [← hW]; clear hW; go_simp
          have p2 : W.cell? ⟨wr.heap.size, 2, none⟩ = some (.slice a1 (eSays l[k]).length c1) := by rw [← hW]; clear hW; go_simp
          have q3 : W.cell? ⟨wr.heap.size, 3, none⟩ = some (.slice a2 (eUses l[k]).length c2) := by rw [← hW]; clear hW; go_simp
          have p4 : W.cell? ⟨wr.heap.size, 4, none⟩ = some (.slice a3 (ePf l[k]).length c3) := by rw [← hW]; clear hW; go_simp
          have hUW := hU.below hBW
          obtain ⟨us, hus⟩ : ∃ us, eUses l[k] = us := ⟨_, rfl⟩
          rw [hus] at hUW s3 q3 hW
          obtain ⟨n2, hn2⟩ : ∃ n2, us.length = n2 := ⟨_, rfl⟩
          have hm2 := hUW.le
          rw [hn2] at s3 q3 hW hm2
          have hUH := Lib.hid hUW
          have husH := Lib.hid hn2
          have hB2H := Lib.hid (bcall hB hBW)
          have m3 := hI.le
          have m4 := hP.le
          clear hI hU hP hUW hB hBW hus hn2
          generalize eNm l[k] = nm at *
          generalize eBy l[k] = bn at *
          generalize (eSays l[k]).length = n1 at *
          generalize (ePf l[k]).length = n3 at *
          unfold big at z1 z2
          by_cases x0 : 100 < nm.size
          · have y0 : ((100 : Int) < (nm.size : Int)) = True := eq_true (by omega)
            go_wp2_with fail
            go_ret
            exact HvRet.t hB2H.out
          · have y0 : ((100 : Int) < (nm.size : Int)) = False := eq_false (by omega)
            by_cases x1 : 100 < bn.size
            · have y1 : ((100 : Int) < (bn.size : Int)) = True := eq_true (by omega)
              go_wp2_with fail
              go_ret
              exact HvRet.t hB2H.out
            · have y1 : ((100 : Int) < (bn.size : Int)) = False := eq_false (by omega)
              by_cases x2 : 100 < n1
              · have y2 : ((100 : Int) < (n1 : Int)) = True := eq_true (by omega)
                go_wp2_with fail
                go_ret
                exact HvRet.t hB2H.out
              · have y2 : ((100 : Int) < (n1 : Int)) = False := eq_false (by omega)
                by_cases x3 : 20 < n2
                · have y3 : ((20 : Int) < (n2 : Int)) = True := eq_true (by omega)
                  go_wp2_with fail
                  go_ret
                  exact HvRet.t hB2H.out
                · have y3 : ((20 : Int) < (n2 : Int)) = False := eq_false (by omega)
                  by_cases x5 : 12 < n3
                  · have y5 : ((12 : Int) < (n3 : Int)) = True := eq_true (by omega)
                    by_cases x6 : n3 ≤ 60
                    · have y6 : ((n3 : Int) ≤ 60) = True := eq_true (by omega)
                      go_wp2_with fail
                      go_ret
                      exact HvRet.t hB2H.out
                    · have y6 : ((n3 : Int) ≤ 60) = False := eq_false (by omega)
                      by_cases x7 : 100 < n3
                      · have y7 : ((100 : Int) < (n3 : Int)) = True := eq_true (by omega)
                        go_wp2_with fail
                        go_ret
                        exact HvRet.t hB2H.out
                      · have y7 : ((100 : Int) < (n3 : Int)) = False := eq_false (by omega)
                        go_wp2_with fail
                        clear p0 p1 p2 p4
                        go_loopw [7] (fun i wr => hvRel2 n2 W i wr) (fun i _ => n2 - (intOf i).toNat)
                        case atStart => exact ⟨0, rfl, Nat.zero_le _, .refl _ _⟩
                        case round =>
                          obtain ⟨j, rfl, hj, hBj⟩ := hrel
                          have r3 := cell_later hBj q3
                          by_cases hjl : j < n2
                          · obtain ⟨b2, o2, rfl, -, qu, hzu⟩ := (hUH.out.below hBj).str j (by have := husH.out; omega)
                            generalize us[j]'(by have := husH.out; omega) = u at qu hzu
                            by_cases hu : 100 < u.size
                            · have hui : ((100 : Int) < (u.size : Int)) = True := eq_true (by omega)
                              have hBH := Lib.hid (bcall hB2H.out hBj)
                              clear hBj
                              go_wp2_with fail
                              go_ret
                              exact HvRet.t hBH.out
                            · have hui : ((100 : Int) < (u.size : Int)) = False := eq_false (by omega)
                              have hfin := Lib.hid (show hvRel2 n2 W (.int .i64 ((j : Int) + 1)) wr from ⟨j + 1, by simp, hjl, hBj⟩)
                              clear hBj
                              go_wp2_with fail
                              go_roundw
                              case rel => exact hfin.out
                              case measure => simp [intOf]; omega
                          · have hjj : ((j : Int) < (n2 : Int)) = False := eq_false (by omega)
                            have hfin := Lib.hid (show hvRel l w (.int .i64 ((k : Int) + 1)) wr from ⟨k + 1, by simp, hlt, bcall hB2H.out hBj⟩)
                            clear hBj hjl hj
                            go_wp2_with fail
                            go_roundw
                            case rel => exact hfin.out
                            case measure => simp [intOf]; omega
                  · have y5 : ((12 : Int) < (n3 : Int)) = False := eq_false (by omega)
                    have y7 : ((100 : Int) < (n3 : Int)) = False := eq_false (by omega)
                    go_wp2_with fail
                    clear p0 p1 p2 p4
                    go_loopw [7] (fun i wr => hvRel2 n2 W i wr) (fun i _ => n2 - (intOf i).toNat)
                    case atStart => exact ⟨0, rfl, Nat.zero_le _, .refl _ _⟩
                    case round =>
                      obtain ⟨j, rfl, hj, hBj⟩ := hrel
                      have r3 := cell_later hBj q3
                      by_cases hjl : j < n2
                      · obtain ⟨b2, o2, rfl, -, qu, hzu⟩ := (hUH.out.below hBj).str j (by have := husH.out; omega)
                        generalize us[j]'(by have := husH.out; omega) = u at qu hzu
                        by_cases hu : 100 < u.size
                        · have hui : ((100 : Int) < (u.size : Int)) = True := eq_true (by omega)
                          have hBH := Lib.hid (bcall hB2H.out hBj)
                          clear hBj
                          go_wp2_with fail
                          go_ret
                          exact HvRet.t hBH.out
                        · have hui : ((100 : Int) < (u.size : Int)) = False := eq_false (by omega)
                          have hfin := Lib.hid (show hvRel2 n2 W (.int .i64 ((j : Int) + 1)) wr from ⟨j + 1, by simp, hjl, hBj⟩)
                          clear hBj
                          go_wp2_with fail
                          go_roundw
                          case rel => exact hfin.out
                          case measure => simp [intOf]; omega
                      · have hjj : ((j : Int) < (n2 : Int)) = False := eq_false (by omega)
                        have hfin := Lib.hid (show hvRel l w (.int .i64 ((k : Int) + 1)) wr from ⟨k + 1, by simp, hlt, bcall hB2H.out hBj⟩)
                        clear hBj hjl hj
                        go_wp2_with fail
                        go_roundw
                        case rel => exact hfin.out
                        case measure => simp [intOf]; omega
        · have hkk : ((k : Int) < (l.length : Int)) = False := eq_false (by omega)
          have hBH := Lib.hid hB
          clear hB hlt hk
          go_wp2_with fail
          go_ret
          exact ⟨false, rfl, fun _ => hl100.out, hBH.out⟩
end Go.Proofs.YtpmnnoopoblpgaaGreat

/- Walks: lemmaryref04.run, right, Run, Says. -/
namespace Go.Proofs.YtpmnnoopoblpgaaGreat
open Go Go.RowKit Go.Maps

end Go.Proofs.YtpmnnoopoblpgaaGreat

/- Walks: lemmaryref04.right, Run, Says. -/
namespace Go.Proofs.YtpmnnoopoblpgaaGreat
open Go Go.RowKit Go.Maps

end Go.Proofs.YtpmnnoopoblpgaaGreat

/- Walks: Check and Proves, of package kernel and of the reference. -/
namespace Go.Proofs.YtpmnnoopoblpgaaGreat
open Go Go.RowKit Go.Maps

end Go.Proofs.YtpmnnoopoblpgaaGreat

/- What the reference calls holding is what holds. No program is named. -/
namespace Go.Proofs.YtpmnnoopoblpgaaGreat

end Go.Proofs.YtpmnnoopoblpgaaGreat

/- Walks: Index, Givens of the reference; blocked. -/
namespace Go.Proofs.YtpmnnoopoblpgaaGreat
open Go Go.RowKit Go.Maps

end Go.Proofs.YtpmnnoopoblpgaaGreat

/- Walks: missing of the reference. -/
namespace Go.Proofs.YtpmnnoopoblpgaaGreat
open Go Go.RowKit Go.Maps

end Go.Proofs.YtpmnnoopoblpgaaGreat

/- If an entry says something more general, nothing breaks but itself. No program is named. -/
namespace Go.Proofs.YtpmnnoopoblpgaaGreat

end Go.Proofs.YtpmnnoopoblpgaaGreat

/- Walks: Valid, Find, Missing of the reference. -/
namespace Go.Proofs.YtpmnnoopoblpgaaGreat
open Go Go.RowKit Go.Maps

end Go.Proofs.YtpmnnoopoblpgaaGreat

/- Walks: Givens of the reference; blocked. -/
namespace Go.Proofs.YtpmnnoopoblpgaaGreat
open Go Go.RowKit Go.Maps

end Go.Proofs.YtpmnnoopoblpgaaGreat

/- Walks: Find, Missing of the reference. -/
namespace Go.Proofs.YtpmnnoopoblpgaaGreat
open Go Go.RowKit Go.Maps

end Go.Proofs.YtpmnnoopoblpgaaGreat

/- Walks: good. -/
namespace Go.Proofs.YtpmnnoopoblpgaaGreat
open Go Go.RowKit Go.Maps

theorem badB_fai (s : Sg) (l : List Ent) : badB s l = faiB s l := rfl
theorem strK_inv {v : Value} {kl : Lit} (h : keyOf Tryz.prog 9 v = some kl) : ∃ x : ByteArray, v = .string x := by
  obtain ⟨x, rfl, -, -⟩ := keyStr_inv h
  exact ⟨x, rfl⟩
noncomputable def goodL (s : Sg) (l : List Ent) (k : Nat) : List Bool := (List.range k).map (goodB s l)
theorem goodL_succ (s : Sg) (l : List Ent) (k : Nat) : goodL s l (k + 1) = goodL s l k ++ [goodB s l k] := by unfold goodL; rw [List.range_succ, List.map_append]; rfl
theorem goodL_len (s : Sg) (l : List Ent) (k : Nat) : (goodL s l k).length = k := by simp [goodL]
def gdRel (s : Sg) (l : List Ent) (w1 : World) (i v : Value) (wr : World) : Prop := ∃ k : Nat, i = .int .i64 k ∧ k ≤ l.length ∧ OwnB wr w1.heap.size v (goodL s l k) ∧ Below w1.heap.size w1 wr
def gd2Rel (f bad : ByteArray → Bool) (a0 : Bool) (D : DataW Unit) (ob r n : Nat) (w2 : World) (v : Value) (wr : World) : Prop :=
  ∃ (left : Lit → Bool) (cnt : Nat) (b : Bool), v = .bool b ∧ wr.ranges Tryz.prog 9 (plainElem Tryz.prog 4) ob r n D left cnt ∧ Below w2.heap.size w2 wr ∧
    (b = true ↔ a0 = true ∧ ∀ x : ByteArray, f x = true → left (.string (bs x)) = false → bad x = false)
theorem sameKey_str {x y : ByteArray} : (Lit.string (bs y)).sameKey (.string (bs x)) = decide (y = x) := by
  rw [Bool.eq_iff_iff, decide_eq_true_eq]
  simp only [Lit.sameKey, beq_iff_eq]
  constructor
  · intro h; exact bs_inj h
  · intro h; rw [h]
set_option maxRecDepth 100000 in
set_option maxHeartbeats 8000000 in
theorem good_any {B xb : Nat} {w : World} {s : Sg} {l : List Ent} (h : DLib B w xb s l) : Calls Tryz.prog 95 #[.pointer (some ⟨xb, 0, none⟩)] w (retB w (goodL s l l.length)) := by
  have vf := failing_any h
  have hl60 := (okLib_parts h.2.2.1).2.1
  have vfH := Lib.hid vf
  have hH := Lib.hid h
  clear vf h
  go_enter Tryz.func95, Tryz.ntmps95
  go_wp2_with fail
  refine vfH.out.mono ?_
  rintro e w1 ⟨ob, M0, m0, rfl, hob, hM0, hm0, hS0, hb1⟩
  obtain ⟨sa, sc, la, lc, bm, hO⟩ := (hH.out.call hb1).op
  have ml := hO.hL.le
  have q1 := hO.q1
  have hOH := Lib.hid hO
  have hS0H := Lib.hid hS0
  have hb1H := Lib.hid hb1
  have hoblt := hS0.lt
  clear hO hS0 hb1 hm0
  go_wp2_with fail
  go_loopw [16, 4] (fun i v wr => gdRel s l w1 i v wr) (fun i _ _ => l.length - (intOf i).toNat)
  case atStart => exact ⟨0, rfl, Nat.zero_le _, OwnL.nil _ _ _ _ _, .refl _ _⟩
  case round =>
    obtain ⟨k, rfl, hk, hOw, hB⟩ := hrel
    by_cases hlt : k < l.length
    · have hD := (hH.out.call hb1H.out).call hB
      obtain ⟨b, off, a1, c1, a2, c2, a3, c3, rfl, hbB, p0, p1, p2, p3, p4, z1, z2, hI, hU, hP⟩ := (hOH.out.call hB).hL.ent k hlt
      obtain ⟨W, hW⟩ : ∃ W, wr.alloc (.cells #[.string (eNm l[k]), .string (eBy l[k]), .slice a1 (eSays l[k]).length c1, .slice a2 (eUses l[k]).length c2, .slice a3 (ePf l[k]).length c3] 37) = W := ⟨_, rfl⟩
      have hBW : Below wr.heap.size wr W := by rw [← hW]; exact below1 wr _
      have q0 : W.cell? ⟨wr.heap.size, 0, none⟩ = some (.string (eNm l[k])) := by rw [← hW]; clear hW; go_simp
      have hSW := ((hS0H.out.below hB hoblt).below hBW (hS0H.out.below hB hoblt).lt)
      have hlk := hSW.look (tm := 88) Tryz.underlying88 Tryz.underlying9 Tryz.underlying4 (zBool W) (eNm l[k]) (big_max z1)
      have vl := leans_any (hD.call hBW) (eNm l[k]) z1
      unfold RchRet at vl
      have hgB : goodB s l k = true ↔ faiB s l (eNm l[k]) = false ∧ ∀ x, rchB l (fun _ => true) (eNm l[k]) x = true → faiB s l x = false := by
        have := goodB_iff (s := s) (l := l) (i := k)
        rw [nmI_at hlt, badB_fai] at this
        exact this
      rw [← hW] at hlk
      have hgl := goodL_succ s l k
      have hgn := goodL_len s l k
      have hOW := OwnL.call hOw hBW
      have vlH := Lib.hid vl
      have hgBH := Lib.hid hgB
      have hglH := Lib.hid hgl
      have hOWH := Lib.hid hOW
      have hSWH := Lib.hid hSW
      have hBWH := Lib.hid (bcall hB hBW)
      have hWH := Lib.hid hW
      have hgnH := Lib.hid hgn
      clear vl hgB hgl hOW hOw hSW hB hBW hI hU hP hD z2 hW hgn
      generalize eNm l[k] = nm at *
      generalize eBy l[k] = bn at *
      generalize (eSays l[k]).length = n1 at *
      generalize (eUses l[k]).length = n2 at *
      generalize (ePf l[k]).length = n3 at *
      obtain ⟨g, hg⟩ : ∃ g, goodB s l k = g := ⟨_, rfl⟩
      rw [hg] at hgBH hglH
      clear hg
      obtain ⟨bad, hbad⟩ : ∃ bad, faiB s l = bad := ⟨_, rfl⟩
      rw [hbad] at hgBH hSWH hlk
      obtain ⟨rc, hrc⟩ : ∃ rc, rchB l (fun _ => true) nm = rc := ⟨_, rfl⟩
      rw [hrc] at hgBH vlH
      clear hrc hbad
      go_wp2_with fail
      rw [hWH.out]
      refine vlH.out.mono ?_
      rintro e w2 ⟨ob2, m2, rfl, hob2, hm2, hS2, hb2⟩
      obtain ⟨D, hown, hty, hsz, hf⟩ := hS2
      have hb2H := Lib.hid hb2
      have hob2lt := hown.lt
      clear hb2 hty hsz
      go_wp2_with (at_range; refine wpList_range_own _ rfl _ 88 rfl 9 4 (string_keyed Tryz.underlying9) Tryz.underlying88 _ ob2 m2 D rfl hown ?_; intro w3 hrg0 hg0 hs0)
      go_frame
      have hst := Lib.hid (show gd2Rel rc bad (!bad nm) D ob2 w2.heap.size m2 w2 (.bool (!bad nm)) w3 from ⟨_, _, _, rfl, hrg0, (Below.refl w2.heap.size w2).grown hg0 (Nat.le_refl _) (fun j e => by cases e), by
        constructor
        · intro h; exact ⟨h, fun x hx hl => by rw [(hf x).1, hx] at hl; cases hl⟩
        · intro h; exact h.1⟩)
      clear hrg0 hg0 hs0 hown
      go_loopw [7] (fun v wr => gd2Rel rc bad (!bad nm) D ob2 w2.heap.size m2 w2 v wr) (fun _ wr => wr.rangeLeft ob2 w2.heap.size)
      case atStart => exact hst.out
      case round =>
        obtain ⟨left, cnt, bb, rfl, hrg, hBr, hiff⟩ := hrel
        have hiffH := Lib.hid hiff
        have hBrH := Lib.hid hBr
        clear hiff hBr
        go_wp2_with (at_next; refine wpList_next_ranges _ rfl _ rfl 9 (string_keyed Tryz.underlying9) (plainElem Tryz.prog 4) (fun x : ByteArray => .string x) (fun v : Value => v) (fun _ _ h => strK_inv h) (fun v _ _ => ⟨v, rfl⟩) ob2 w2.heap.size m2 D left cnt rfl hrg ?_ ?_)
        · intro hc0 hl0
          have hbb : bb = g := by
            rw [Bool.eq_iff_iff, hiffH.out, hgBH.out]
            constructor
            · rintro ⟨h1, h2⟩; exact ⟨by simpa using h1, fun x hx => h2 x hx (hl0 _)⟩
            · rintro ⟨h1, h2⟩; exact ⟨by simpa using h1, fun x hx _ => h2 x hx⟩
          have hBn := bcall hBWH.out (bcall hb2H.out hBrH.out)
          have hln := hgnH.out
          obtain ⟨v', W', hrun, ho, hgr, -⟩ := OwnL.push (P := Tryz.prog) (t := 94) (ty := 94) (OwnL.call hOWH.out (bcall hb2H.out hBrH.out)) Tryz.underlying94 infoBool rfl (vs := [.bool bb]) (x := bb) rfl (by omega) (by unfold big; omega) hBn.size
          rw [hbb, ← hglH.out] at ho
          have hfin := Lib.hid (show gdRel s l w1 (.int .i64 ((k : Int) + 1)) v' W' from ⟨k + 1, by simp, hlt, ho, hBn.grown hgr hBn.size (fun j e => (OwnL.lt (OwnL.call hOWH.out (bcall hb2H.out hBrH.out)) j e).1)⟩)
          clear hbb ho hgr hBn hrg hl0 hc0 hln hlk
          go_wp2_with (at_builtin; refine wpList_append_run rfl _ _ _ rfl rfl rfl hrun ?_)
          go_roundw
          case rel => exact hfin.out
          case measure => simp [intOf]; omega
        · intro x c kl ya yb w4 cnt' hkey hlx hv hat hrg' hlt' hg' hs' hen
          obtain ⟨x', hx1, hkl, hx2⟩ := keyStr_inv hkey
          injection hx1 with hx1
          subst hx1
          subst hkl
          have hB4 := hBrH.out.grown hg' hBrH.out.size (fun j e => by injection e with e; omega)
          have hSx := (hSWH.out.below hb2H.out hSWH.out.lt).below hB4 (hSWH.out.below hb2H.out hSWH.out.lt).lt
          have hlk2 := hSx.look (tm := 88) Tryz.underlying88 Tryz.underlying9 Tryz.underlying4 (zBool w4) x (big_max hx2)
          have hmeas := Lib.hid (show w4.rangeLeft ob2 w2.heap.size < wr.rangeLeft ob2 w2.heap.size by rw [hrg'.left_eq, hrg.left_eq]; exact hlt')
          have hfx : rc x = true := by
            have h1 := (hf x).1
            obtain ⟨es, clock, since, seen, c0, g1, g2, g3, g4, g5, g6, g7, g8, g9, -⟩ := hrg
            obtain ⟨en, he1, he2⟩ := g9 _ hlx
            have : has D (.string (bs x)) = true := by
              rw [g4]
              refine List.any_eq_true.2 ⟨_, mem_sorted.2 (List.mem_map.2 ⟨en, he1, rfl⟩), ?_⟩
              rw [he2]
              exact WideAt.sameKey_self (isKey_string _)
            rw [← h1]; exact this
          have hfin := Lib.hid (show ∀ nb : Bool, nb = (bb && !bad x) → gd2Rel rc bad (!bad nm) D ob2 w2.heap.size m2 w2 (.bool nb) w4 from fun nb hnb => ⟨_, cnt', nb, rfl, hrg', hB4, by
            rw [hnb, Bool.and_eq_true, hiffH.out]
            constructor
            · rintro ⟨⟨h1, h2⟩, h3⟩
              refine ⟨h1, fun z hz hl => ?_⟩
              rw [Bool.and_eq_false_iff] at hl
              rcases hl with hl | hl
              · exact h2 z hz hl
              · rw [sameKey_str] at hl
                have : z = x := by simpa using hl
                rw [this]; simpa using h3
            · rintro ⟨h1, h2⟩
              refine ⟨⟨h1, fun z hz hl => h2 z hz (by rw [hl]; rfl)⟩, ?_⟩
              have := h2 x hfx (by rw [sameKey_str]; simp)
              rw [this]; rfl⟩)
          clear hrg hrg' hlt' hg' hs' hat hv hkey hlx hB4 hSx hfx
          generalize bad x = bx at *
          cases bb with
          | false =>
            go_wp2_with fail
            go_roundw
            case rel => exact hfin.out _ (by simp)
            case measure => exact hmeas.out
          | true =>
            go_wp2_with fail
            go_roundw
            case rel => exact hfin.out _ (by simp)
            case measure => exact hmeas.out
    · have hkk : ((k : Int) < (l.length : Int)) = False := eq_false (by omega)
      have hkl : k = l.length := by omega
      rw [hkl] at hOw
      have hfin := Lib.hid (show ∀ v, OwnB wr w1.heap.size v (goodL s l l.length) → retB w (goodL s l l.length) (.returned v) wr from fun v hv => ⟨v, rfl, OwnL.baseMono hv hb1H.out.size, bcall hb1H.out hB⟩)
      have hOH2 := Lib.hid hOw
      clear hOw hB hlt hk hkl
      go_wp2_with fail
      go_ret
      exact hfin.out _ hOH2.out
end Go.Proofs.YtpmnnoopoblpgaaGreat

/- Walks: Failing, Shaken, Holds, Strongest. -/
namespace Go.Proofs.YtpmnnoopoblpgaaGreat
open Go Go.RowKit Go.Maps

theorem fai1_fn {B xb b1 : Nat} {w : World} {s : Sg} {l : List Ent} (h : DLib B w xb s l) (hb1 : b1 < B) (hc1 : w.cell? ⟨b1, 0, none⟩ = some (.pointer (some ⟨xb, 0, none⟩))) :
    IxFn 88 #[.pointer (some ⟨b1, 0, none⟩)] l.length (fun i => !holdX s l i) B w := by
  refine ⟨enters_of Tryz.func88 (by kernel_rfl) rfl, fun i hi W hB => ?_⟩
  have q1 := (hB.cell (p := ⟨b1, 0, none⟩) hb1).trans hc1
  have v1 := holds_call h i hi W hB
  obtain ⟨r, hr⟩ : ∃ r, holdX s l i = r := ⟨_, rfl⟩
  rw [hr] at v1
  have v1H := Lib.hid v1
  have hrH := Lib.hid hr
  clear v1 hB h hc1 hr
  go_enter Tryz.func88, Tryz.ntmps88
  go_wp2_with fail
  refine v1H.out.mono ?_
  rintro e w1 ⟨rfl, hb⟩
  have hbH := Lib.hid hb
  clear hb
  go_wp2_with fail
  go_ret
  exact ⟨ret_bool (show (!r) = (!holdX s l i) by rw [hrH.out]), hbH.out⟩
noncomputable def failE (s : Sg) (l : List Ent) : (ByteArray → Bool) × Int := if okLib s l = true then (chB l (fun i => !holdX s l i), 0) else (fun _ => false, 1)
set_option maxHeartbeats 1000000 in
theorem Failing_any {S1 S2 : Nat → Prop} (sa la : Option Addr) (sc lc : Nat) (s : Sg) (l : List Ent) (w : World) (h1 : Sign S1 w sa sc s) (h2 : LibL S2 w la lc l) (hl : l.length ≤ 1000) :
    Calls Tryz.prog 30 #[.slice sa s.length sc, .slice la l.length lc] w (NamesRet (failE s l).1 (failE s l).2 w) := by
  have v := open_any sa la sc lc s l w h1 h2 hl
  have m := h2.le
  have m1 := h1.le
  obtain ⟨r, hr⟩ : ∃ r, failE s l = r := ⟨_, rfl⟩
  rw [hr]
  have vH := Lib.hid v
  have hrH := Lib.hid hr
  clear v h1 h2 hr
  go_enter Tryz.func30, Tryz.ntmps30
  go_wp2_with fail
  refine vH.out.mono ?_
  rintro e w1 ⟨hb, h⟩
  rcases h with ⟨hok, rfl⟩ | ⟨hok, xb, hxb, rfl, hD⟩
  · have hf : failE s l = (fun _ => false, 1) := by unfold failE; rw [hok]; rfl
    have hfH := Lib.hid (hrH.out.symm.trans hf)
    have hbH := Lib.hid (bcall hb (below1 w1 (.cells #[.pointer none] 61)))
    clear hb hok vH hf
    go_wp2_with fail
    go_ret2
    rw [hfH.out]
    exact NamesRet.nil hbH.out
  · obtain ⟨W, hW⟩ : ∃ W, w1.alloc (.cells #[.pointer (some ⟨xb, 0, none⟩)] 61) = W := ⟨_, rfl⟩
    have hBW : Below w1.heap.size w1 W := by rw [← hW]; exact below1 w1 _
    have q0 : W.cell? ⟨w1.heap.size, 0, none⟩ = some (.pointer (some ⟨xb, 0, none⟩)) := by rw [← hW]; clear hW; go_simp
    have hws : w1.heap.size < W.heap.size := by rw [← hW]; simp
    have hDW := (hD.call hBW).mono (hD.call hBW).1 (Nat.le_refl W.heap.size)
    have vc := chosen_any hDW (fai1_fn hDW hws q0)
    have hf : failE s l = (chB l (fun i => !holdX s l i), 0) := by unfold failE; rw [hok]; rfl
    have hfH := Lib.hid (hrH.out.symm.trans hf)
    have hbH := Lib.hid (bcall hb hBW)
    have vcH := Lib.hid vc
    clear hb hok vH hf hxb hD hDW vc hBW hws
    go_wp2_with fail
    try rw [hW]
    refine vcH.out.mono ?_
    rintro e w2 hso
    obtain ⟨v, rfl, hN⟩ := hso.names hbH.out
    have hNH := Lib.hid (hN 0)
    clear hN hso
    go_wp2_with fail
    go_ret2
    rw [hfH.out]
    exact hNH.out
theorem goodL_getD {s : Sg} {l : List Ent} {i : Nat} (hi : i < l.length) : ∃ h : i < (goodL s l l.length).length, (goodL s l l.length)[i] = goodB s l i := by
  refine ⟨by rw [goodL_len]; exact hi, ?_⟩
  unfold goodL
  rw [List.getElem_map, List.getElem_range]
theorem shk1_fn {B xb b1 b2 : Nat} {w : World} {s : Sg} {l : List Ent} {ag : Option Addr} {cg : Nat} (h : DLib B w xb s l) (hb1 : b1 < B) (hb2 : b2 < B) (hc1 : w.cell? ⟨b1, 0, none⟩ = some (.pointer (some ⟨xb, 0, none⟩)))
    (hc2 : w.cell? ⟨b2, 0, none⟩ = some (.slice ag l.length cg)) (hg : Sl boolE (fun b => b < B) w ag cg (goodL s l l.length)) :
    IxFn 96 #[.pointer (some ⟨b1, 0, none⟩), .pointer (some ⟨b2, 0, none⟩)] l.length (fun i => holdX s l i && !goodB s l i) B w := by
  refine ⟨enters_of Tryz.func96 (by kernel_rfl) rfl, fun i hi W hB => ?_⟩
  have q1 := (hB.cell (p := ⟨b1, 0, none⟩) hb1).trans hc1
  have q2 := (hB.cell (p := ⟨b2, 0, none⟩) hb2).trans hc2
  have v1 := holds_call h i hi W hB
  obtain ⟨hil, hge⟩ := goodL_getD (s := s) hi
  obtain ⟨gb, go, rfl, hgb, hgc⟩ := hg.bool i hil
  rw [hge] at hgc
  have q3 := (hB.cell (p := ⟨gb, go + i, none⟩) hgb).trans hgc
  have hii : (i : Int) < (l.length : Int) := by omega
  obtain ⟨r, hr⟩ : ∃ r, holdX s l i = r := ⟨_, rfl⟩
  rw [hr] at v1
  have hrH := Lib.hid hr
  obtain ⟨g, hgg⟩ : ∃ g, goodB s l i = g := ⟨_, rfl⟩
  rw [hgg] at q3
  have hggH := Lib.hid hgg
  have v1H := Lib.hid v1
  clear v1 hB h hc1 hc2 hg hgc hge hil hgb hr hgg
  cases r with
  | false =>
    go_enter Tryz.func96, Tryz.ntmps96
    go_wp2_with fail
    refine v1H.out.mono ?_
    rintro e w1 ⟨rfl, hb⟩
    have hbH := Lib.hid hb
    clear hb
    go_wp2_with fail
    go_ret
    exact ⟨ret_bool (show false = (holdX s l i && !goodB s l i) by rw [hrH.out]; rfl), hbH.out⟩
  | true =>
    go_enter Tryz.func96, Tryz.ntmps96
    go_wp2_with fail
    refine v1H.out.mono ?_
    rintro e w1 ⟨rfl, hb⟩
    have r2 := cell_later hb q2
    have r3 := cell_later hb q3
    have hbH := Lib.hid hb
    clear hb
    go_wp2_with fail
    go_ret
    exact ⟨ret_bool (show (!g) = (holdX s l i && !goodB s l i) by rw [hrH.out, hggH.out]; rfl), hbH.out⟩
noncomputable def shakE (s : Sg) (l : List Ent) : (ByteArray → Bool) × Int := if okLib s l = true then (chB l (fun i => holdX s l i && !goodB s l i), 0) else (fun _ => false, 1)
set_option maxHeartbeats 1000000 in
theorem Shaken_any {S1 S2 : Nat → Prop} (sa la : Option Addr) (sc lc : Nat) (s : Sg) (l : List Ent) (w : World) (h1 : Sign S1 w sa sc s) (h2 : LibL S2 w la lc l) (hl : l.length ≤ 1000) :
    Calls Tryz.prog 34 #[.slice sa s.length sc, .slice la l.length lc] w (NamesRet (shakE s l).1 (shakE s l).2 w) := by
  have v := open_any sa la sc lc s l w h1 h2 hl
  have m := h2.le
  have m1 := h1.le
  obtain ⟨r, hr⟩ : ∃ r, shakE s l = r := ⟨_, rfl⟩
  rw [hr]
  have vH := Lib.hid v
  have hrH := Lib.hid hr
  clear v h1 h2 hr
  go_enter Tryz.func34, Tryz.ntmps34
  go_wp2_with fail
  refine vH.out.mono ?_
  rintro e w1 ⟨hb, h⟩
  rcases h with ⟨hok, rfl⟩ | ⟨hok, xb, hxb, rfl, hD⟩
  · have hf : shakE s l = (fun _ => false, 1) := by unfold shakE; rw [hok]; rfl
    have hfH := Lib.hid (hrH.out.symm.trans hf)
    have hbH := Lib.hid (bcall hb (below1 w1 (.cells #[.pointer none] 61)))
    clear hb hok vH hf
    go_wp2_with fail
    go_ret2
    rw [hfH.out]
    exact NamesRet.nil hbH.out
  · obtain ⟨W, hW⟩ : ∃ W, w1.alloc (.cells #[.pointer (some ⟨xb, 0, none⟩)] 61) = W := ⟨_, rfl⟩
    have hBW : Below w1.heap.size w1 W := by rw [← hW]; exact below1 w1 _
    have q0 : W.cell? ⟨w1.heap.size, 0, none⟩ = some (.pointer (some ⟨xb, 0, none⟩)) := by rw [← hW]; clear hW; go_simp
    have hws : w1.heap.size < W.heap.size := by rw [← hW]; simp
    have hDW := hD.call hBW
    have vg := good_any hDW
    have hf : shakE s l = (chB l (fun i => holdX s l i && !goodB s l i), 0) := by unfold shakE; rw [hok]; rfl
    have hfH := Lib.hid (hrH.out.symm.trans hf)
    have hbH := Lib.hid (bcall hb hBW)
    have vgH := Lib.hid vg
    have hDH := Lib.hid hDW
    have hwsH := Lib.hid hws
    clear hb hok vH hf hxb hD hDW vg hBW hws
    go_wp2_with fail
    try rw [hW]
    refine vgH.out.mono ?_
    rintro e w2 ⟨v, rfl, hO, hb2⟩
    obtain ⟨ag, cg, rfl, hS⟩ := OwnB.bools hO
    rw [goodL_len] at *
    obtain ⟨W2, hW2⟩ : ∃ W2, w2.alloc (.cells #[.slice ag l.length cg] 94) = W2 := ⟨_, rfl⟩
    have hBW2 : Below w2.heap.size w2 W2 := by rw [← hW2]; exact below1 w2 _
    have r0 := cell_later hb2 q0
    have r0' := cell_later hBW2 r0
    have r1 : W2.cell? ⟨w2.heap.size, 0, none⟩ = some (.slice ag l.length cg) := by rw [← hW2]; clear hW2; go_simp
    have hws2 : w2.heap.size < W2.heap.size := by rw [← hW2]; simp
    have hD2 := ((hDH.out.call hb2).call hBW2)
    have hD2' := hD2.mono hD2.1 (Nat.le_refl W2.heap.size)
    have vc := chosen_any hD2' (shk1_fn hD2' (Nat.lt_trans (Nat.lt_of_lt_of_le hwsH.out hb2.size) hws2) hws2 r0' r1 (((hS.lt.below hBW2).weak (fun b hb => Nat.lt_trans hb.2 hws2))))
    have hb3H := Lib.hid (bcall hbH.out (bcall hb2 hBW2))
    have vcH := Lib.hid vc
    clear vc hD2 hD2' hws2 hBW2 hb2 hS hO q0
    go_wp2_with fail
    try rw [hW2]
    refine vcH.out.mono ?_
    rintro e w3 hso
    obtain ⟨v, rfl, hN⟩ := hso.names hb3H.out
    have hNH := Lib.hid (hN 0)
    clear hN hso
    go_wp2_with fail
    go_ret2
    rw [hfH.out]
    exact hNH.out
end Go.Proofs.YtpmnnoopoblpgaaGreat

/- The law DepsGeneral, walked. -/
namespace Go.Proofs.YtpmnnoopoblpgaaGreat
open Go Go.RowKit Go.Maps

theorem ents_copied {S : Nat → Prop} {a : Option Addr} {c : Nat} {l : List Ent} {w : World} (h : LibL S w a c l) (hl : l.length ≤ 1000) :
    ∃ v' w', (Builtin.append_ #[24, 24] 24 #[.slice (some ⟨w.heap.size, 0, none⟩) 0 0, .slice a l.length c]).run Tryz.prog (w.alloc (.cells #[] 37)) = .ok v' w' ∧ OwnE (fun b => b < w.heap.size) w' w.heap.size v' l ∧ Below w.heap.size w w' := by
  obtain ⟨v', w', hrun, ho, hg, -, -⟩ := (OwnL.made entE (fun b => b < w.heap.size) w w.heap.size 37 (Nat.le_refl _)).append_run (P := Tryz.prog) (t := 24) (ty := 24) Tryz.underlying24 infoEnt rfl (h.lt.below (below1 w (.cells #[] 37)))
    (fun i hi vs hv => entE.mono hv (fun b _ hb => ⟨hb.2, fun e => by simp [Value.ownBlock] at e; have := hb.2; omega⟩) (.refl _ _)) (by simp; omega) (by unfold big; simp; omega) (by simp)
  have hB : Below w.heap.size w w' := (below1 w (.cells #[] 37)).grown hg (by simp) (fun k e => by simp [Value.ownBlock] at e; omega)
  rw [List.nil_append] at ho
  exact ⟨v', w', hrun, ho, hB⟩
end Go.Proofs.YtpmnnoopoblpgaaGreat

/- Walks: axiom, holds, holding, opposite, chosen, Failing of the reference. -/
namespace Go.Proofs.YtpmnnoopoblpgaaGreat
open Go Go.RowKit Go.Maps

end Go.Proofs.YtpmnnoopoblpgaaGreat

/- Walks: holding, opposite, chosen, Failing of the reference. -/
namespace Go.Proofs.YtpmnnoopoblpgaaGreat
open Go Go.RowKit Go.Maps

end Go.Proofs.YtpmnnoopoblpgaaGreat

/- Walks: cited, leaned, lacking of the reference. -/
namespace Go.Proofs.YtpmnnoopoblpgaaGreat
open Go Go.RowKit Go.Maps

def zsN (Q : List Nat) : List Int := Q.map (fun q : Nat => (q : Int))
abbrev OwnQ (w : World) (base : Nat) (v : Value) (Q : List Nat) : Prop := OwnL intE (fun _ => False) w base 3 v (zsN Q)
structure CtW (l : List Ent) (sh : List Bool) (i k j : Nat) (w : World) (Q : List Nat) (M : List Bool) (v : Value) (wr : World) : Prop where
  st : CitS l sh i k j Q M
  q : OwnQ wr (w.heap.size + 1) v Q
  m : OwnB wr w.heap.size (.slice (some ⟨w.heap.size, 0, none⟩) l.length l.length) M
  b : Below w.heap.size w wr
end Go.Proofs.YtpmnnoopoblpgaaGreat

/- Walks: leaned, lacking, shaken of the reference. -/
namespace Go.Proofs.YtpmnnoopoblpgaaGreat
open Go Go.RowKit Go.Maps

end Go.Proofs.YtpmnnoopoblpgaaGreat

/- Walks: Breaks of the reference. -/
namespace Go.Proofs.YtpmnnoopoblpgaaGreat
open Go Go.RowKit Go.Maps

end Go.Proofs.YtpmnnoopoblpgaaGreat
