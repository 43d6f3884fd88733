/- Walks: Vars: a range over a function. -/
import Derived.Test.YtgkddhakhapjlaaDoorWalkW
import Derived.RangeFuncBox
import Derived.RangeFuncNested
import Derived.RangeFuncBound
import Derived.RangeFuncCalls
import Derived.RangeFuncLeaves
import Derived.Shelf.Abstract
import Derived.Shelf.RegionOpen
import Derived.OwnWalkIn
import Derived.TacticsInMore
import Derived.LoopNIn
import Derived.LoopIn
import Derived.Maps.AppendAt
namespace Go.Proofs.YtgkddhakhapjlaaDoor
open Go Go.RowKit Go.Shelf

attribute [local go_sem] Oper.semAt_some

abbrev I64 := { x : Int // inRange x }
/-- the variables of a list as they come -/
def yl (t : List Int) : List Int := (t.filter (fun x => decide (x < 0))).map vnum
theorem yl_neg {t : List Int} {k : Nat} (hk : k < t.length) (hx : t[k] < 0) : yl (t.take (k + 1)) = yl (t.take k) ++ [vnum t[k]] := by
  rw [List.take_succ_eq_append_getElem hk]
  unfold yl
  rw [List.filter_append, List.map_append, List.filter_cons_of_pos (by simpa using hx)]; rfl
theorem yl_pos {t : List Int} {k : Nat} (hk : k < t.length) (hx : ¬ t[k] < 0) : yl (t.take (k + 1)) = yl (t.take k) := by
  rw [List.take_succ_eq_append_getElem hk]
  unfold yl
  rw [List.filter_append, List.map_append, List.filter_cons_of_neg (by simpa using hx)]; simp
theorem yl_len (t : List Int) : (yl t).length ≤ t.length := by unfold yl; rw [List.length_map]; exact List.length_filter_le _ _

/-- each number once -/
def ddA (acc : List Int) (x : Int) : List Int := if x ∈ acc then acc else acc ++ [x]
def ddp (l : List I64) : List Int := (l.map (·.1)).foldl ddA []
theorem ddp_snoc (l : List I64) (x : I64) : ddp (l ++ [x]) = ddA (ddp l) x.1 := by simp [ddp]
theorem ddA_len (acc : List Int) (x : Int) : (ddA acc x).length ≤ acc.length + 1 := by unfold ddA; split <;> simp
theorem ddp_len (l : List I64) : (ddp l).length ≤ l.length := by
  have : ∀ (m : List Int) (acc : List Int), (m.foldl ddA acc).length ≤ acc.length + m.length := by
    intro m
    induction m with
    | nil => intro acc; simp
    | cons x r ih => intro acc; rw [List.foldl_cons]; have := ih (ddA acc x); have := ddA_len acc x; simp; omega
  have := this (l.map (·.1)) []
  simpa [ddp] using this
theorem foldl_yl : ∀ (t : List Int) (acc : List Int), (yl t).foldl ddA (acc.map vnum) = (t.foldl addV acc).map vnum
  | [], acc => rfl
  | x :: r, acc => by
    by_cases hx : x < 0
    · have h1 : yl (x :: r) = vnum x :: yl r := by unfold yl; rw [List.filter_cons_of_pos (by simpa using hx)]; rfl
      rw [h1, List.foldl_cons, List.foldl_cons]
      have h2 : ddA (acc.map vnum) (vnum x) = (addV acc x).map vnum := by
        unfold ddA addV
        by_cases hm : x ∈ acc
        · rw [if_pos (mem_map_vnum.2 hm), if_neg (fun e => e.2 hm)]
        · rw [if_neg (fun e => hm (mem_map_vnum.1 e)), if_pos ⟨hx, hm⟩, List.map_append]; rfl
      rw [h2]; exact foldl_yl r _
    · have h1 : yl (x :: r) = yl r := by unfold yl; rw [List.filter_cons_of_neg (by simpa using hx)]
      have h2 : addV acc x = acc := by unfold addV; rw [if_neg (fun e => hx e.1)]
      rw [h1, List.foldl_cons, h2]; exact foldl_yl r _
theorem ddp_yl {ys : List I64} {t : List Int} (h : ys.map (·.1) = yl t) : ddp ys = varsV t := by
  unfold ddp; rw [h]; exact foldl_yl t []
theorem ddA_range {acc : List Int} {x : Int} (h : ∀ y ∈ acc, inRange y) (hx : inRange x) : ∀ y ∈ ddA acc x, inRange y := by
  intro y hy
  unfold ddA at hy
  split at hy
  · exact h y hy
  · rcases List.mem_append.1 hy with h' | h'
    · exact h y h'
    · simp at h'; rw [h']; exact hx

end Go.Proofs.YtgkddhakhapjlaaDoor
