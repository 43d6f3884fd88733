/- Maps that a call makes, read as plain functions: from strings to bools, from ints to ints. No program is named. -/
import Derived.Test.YtpmnnoopoblpgaaGreatKit
import Derived.Maps.OwnSet
import Derived.Maps.OwnOps
import Derived.Maps.Views
import Derived.StringKeys
namespace Go.Proofs.YtpmnnoopoblpgaaGreat
open Go Go.RowKit Go.Maps Go.WideMaps

theorem wf_of_inRange {x : Int} (h : inRange x) : (Lit.int .i64 x).wf = true := WalkArith.wf_i64 h
theorem isKey_string (l : List UInt8) : WideAt.IsKeyLit (.string l) := by first | exact trivial | simp [WideAt.IsKeyLit]
theorem isKey_int (x : Int) : WideAt.IsKeyLit (.int .i64 x) := by first | exact trivial | simp [WideAt.IsKeyLit]
theorem str_ne {x y : ByteArray} (h : x ≠ y) : Lit.string x.data.toList ≠ Lit.string y.data.toList := by
  intro e
  cases x; cases y
  simp only [Lit.string.injEq, Array.toList_inj] at e
  exact h (by rw [e])
theorem litint_ne {x y : Int} (h : x ≠ y) : Lit.int .i64 x ≠ Lit.int .i64 y := by
  intro e; simp at e; exact h e

def BMap (P : Program) (tk te : TypeId) (w : World) (b n : Nat) (f : ByteArray → Bool) : Prop :=
  ∃ D : DataW Unit, w.ownsMap P tk (plainElem P te) b n D ∧ Tidy D ∧ ∀ x : ByteArray, D.atKey (.string x.data.toList) (.lit (.bool false)) = .lit (.bool (f x))

section
variable {P : Program} {tm tk te : TypeId} {w : World} {b n : Nat} {f : ByteArray → Bool}
theorem BMap.made (w : World) : BMap P tk te (w.alloc (.map #[] 0)) w.heap.size 0 (fun _ => false) :=
  ⟨.map [], World.ownsMap_made _ _ _ _, tidy_empty, fun _ => rfl⟩
theorem BMap.look (h : BMap P tk te w b n f) (ht : P.underlying tm = some (.map tk te)) (hk : P.underlying tk = some .string) (he : P.underlying te = some .bool)
    (hz : (zeroValue te).run P w = .ok (.bool false) w) (x : ByteArray) (hx : x.size ≤ maxLen) : (Instr.lookup tm (.map (some b)) (.string x) false).run P w = .ok (.bool (f x)) w := by
  obtain ⟨D, ho, _, hf⟩ := h
  obtain ⟨v, ps, hrun, hv⟩ := ho.lookup (string_keyed hk) ht hz (plainElem_bool he false) (keyOf_string_mk hk hx)
  rw [hf x] at hv
  rw [hrun]
  unfold plainElem at hv
  rw [he] at hv
  cases v <;> simp at hv
  rw [hv.1]
theorem BMap.store (h : BMap P tk te w b n f) (ht : P.underlying tm = some (.map tk te)) (hk : P.underlying tk = some .string) (he : P.underlying te = some .bool) (hn : n < maxLen)
    (x : ByteArray) (hx : x.size ≤ maxLen) (y : Bool) : ∃ w', (Instr.mapUpdate tm (.map (some b)) (.string x) (.bool y)).run P w = .ok () w' ∧ BMap P tk te w' b (n + 1) (fun z => if z = x then y else f z) ∧ w.grownBy w' (some b) := by
  obtain ⟨D, ho, ht', hf⟩ := h
  obtain ⟨w', hrun, ho', hg⟩ := ho.update (string_keyed hk) ht hn (keyOf_string_mk hk hx) (plainElem_bool he y)
  refine ⟨w', hrun, ⟨_, ho', ht'.put (isKey_string _) _, fun z => ?_⟩, hg⟩
  by_cases hz : z = x
  · subst hz; rw [atKey_put_same ht'.isMap (isKey_string _)]; simp
  · rw [atKey_put_other (str_ne hz), hf z]; simp only [if_neg hz]
theorem BMap.lt (h : BMap P tk te w b n f) : b < w.heap.size := by obtain ⟨D, ho, _⟩ := h; exact ho.lt
theorem BMap.same {w' : World} (h : BMap P tk te w b n f) (hb : w'.heap[b]? = w.heap[b]?) : BMap P tk te w' b n f := by
  obtain ⟨D, ⟨es, clock, hc, r⟩, ht, hf⟩ := h
  exact ⟨D, ⟨es, clock, hb.trans hc, r⟩, ht, hf⟩
theorem BMap.below {w' : World} {B : Nat} (h : BMap P tk te w b n f) (hB : Below B w w') (hb : b < B) : BMap P tk te w' b n f := h.same (hB.block b hb)
end

/-- a map from ints to ints of exactly n keys -/
def IMap (P : Program) (tk te : TypeId) (w : World) (b n : Nat) (f : Int → Option Int) : Prop :=
  ∃ D : DataW Unit, w.ownsMap P tk (plainElem P te) b n D ∧ Tidy D ∧ size D = n ∧ ∀ x : Int, has D (.int .i64 x) = (f x).isSome ∧ D.atKey (.int .i64 x) (.lit (.int .i64 0)) = .lit (.int .i64 ((f x).getD 0))

section
variable {P : Program} {tm tk te : TypeId} {w : World} {b n : Nat} {f : Int → Option Int}
theorem IMap.made (w : World) : IMap P tk te (w.alloc (.map #[] 0)) w.heap.size 0 (fun _ => none) :=
  ⟨.map [], World.ownsMap_made _ _ _ _, tidy_empty, rfl, fun _ => ⟨rfl, rfl⟩⟩
theorem IMap.look (h : IMap P tk te w b n f) (ht : P.underlying tm = some (.map tk te)) (hk : P.underlying tk = some (.int .i64)) (he : P.underlying te = some (.int .i64))
    (hz : (zeroValue te).run P w = .ok (.int .i64 0) w) (x : Int) (hx : inRange x) : (Instr.lookup tm (.map (some b)) (.int .i64 x) false).run P w = .ok (.int .i64 ((f x).getD 0)) w := by
  obtain ⟨D, ho, _, _, hf⟩ := h
  obtain ⟨c, hrun, hc, _⟩ := ho.lookup_int (int_keyed hk) ht he hz (keyOf_int_mk hk (wf_of_inRange hx))
  rw [(hf x).2] at hc
  simp at hc
  rw [hrun, hc]
theorem IMap.look_ok (h : IMap P tk te w b n f) (ht : P.underlying tm = some (.map tk te)) (hk : P.underlying tk = some (.int .i64)) (he : P.underlying te = some (.int .i64))
    (hz : (zeroValue te).run P w = .ok (.int .i64 0) w) (x : Int) (hx : inRange x) : (Instr.lookup tm (.map (some b)) (.int .i64 x) true).run P w = .ok (.tuple #[.int .i64 ((f x).getD 0), .bool (f x).isSome]) w := by
  obtain ⟨D, ho, _, _, hf⟩ := h
  obtain ⟨v, ps, hrun, hv⟩ := ho.look_ok (int_keyed hk) ht hz (plainElem_int he (by decide)) (keyOf_int_mk hk (wf_of_inRange hx))
  obtain ⟨c, rfl, hc, _⟩ := plainElem_int_inv he hv
  rw [(hf x).2] at hc
  simp at hc
  rw [hrun, (hf x).1, hc.1]
theorem IMap.len (h : IMap P tk te w b n f) (ht : P.underlying tm = some (.map tk te)) (ty : TypeId) : (Builtin.len_ #[tm] ty #[.map (some b)]).run P w = .ok (.int .i64 n) w := by
  obtain ⟨D, ho, _, hs, _⟩ := h
  rw [ho.len ht ty, hs]
theorem IMap.store (h : IMap P tk te w b n f) (ht : P.underlying tm = some (.map tk te)) (hk : P.underlying tk = some (.int .i64)) (he : P.underlying te = some (.int .i64)) (hn : n < maxLen)
    (x : Int) (hx : inRange x) (y : Int) (hy : inRange y) (hnew : f x = none) : ∃ w', (Instr.mapUpdate tm (.map (some b)) (.int .i64 x) (.int .i64 y)).run P w = .ok () w' ∧ IMap P tk te w' b (n + 1) (fun z => if z = x then some y else f z) ∧ w.grownBy w' (some b) := by
  obtain ⟨D, ho, ht', hs, hf⟩ := h
  obtain ⟨w', hrun, ho', hg⟩ := ho.update (int_keyed hk) ht hn (keyOf_int_mk hk (wf_of_inRange hx)) (plainElem_int he (wf_of_inRange hy))
  refine ⟨w', hrun, ⟨_, ho', ht'.put (isKey_int _) _, ?_, fun z => ?_⟩, hg⟩
  · rw [size_put ht', (hf x).1, hnew]; simp [hs]
  · by_cases hz : z = x
    · subst hz; rw [atKey_put_same ht'.isMap (isKey_int _), has_put_same ht'.isMap (isKey_int _)]; simp
    · rw [atKey_put_other (litint_ne hz), has_put_other (litint_ne hz)]; simp only [if_neg hz]; exact hf z
theorem IMap.lt (h : IMap P tk te w b n f) : b < w.heap.size := by obtain ⟨D, ho, _⟩ := h; exact ho.lt
theorem IMap.same {w' : World} (h : IMap P tk te w b n f) (hb : w'.heap[b]? = w.heap[b]?) : IMap P tk te w' b n f := by
  obtain ⟨D, ⟨es, clock, hc, r⟩, ht, hf⟩ := h
  exact ⟨D, ⟨es, clock, hb.trans hc, r⟩, ht, hf⟩
theorem IMap.below {w' : World} {B : Nat} (h : IMap P tk te w b n f) (hB : Below B w w') (hb : b < B) : IMap P tk te w' b n f := h.same (hB.block b hb)
end
end Go.Proofs.YtpmnnoopoblpgaaGreat
