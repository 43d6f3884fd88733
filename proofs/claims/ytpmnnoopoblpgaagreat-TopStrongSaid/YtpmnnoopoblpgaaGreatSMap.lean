/- Sets of strings: maps from strings to bools that hold true at each of their keys, with the number of their keys. No program is named. -/
import Derived.Test.YtpmnnoopoblpgaaGreatMaps
import Derived.StringKeys
namespace Go.Proofs.YtpmnnoopoblpgaaGreat
open Go Go.RowKit Go.Maps Go.WideMaps

/-- the map in block b has the keys of f, n of them, each with true; M stores were made at most -/
def SMap (P : Program) (tk te : TypeId) (w : World) (b M n : Nat) (f : ByteArray → Bool) : Prop :=
  ∃ D : DataW Unit, w.ownsMap P tk (plainElem P te) b M D ∧ Tidy D ∧ size D = n ∧ ∀ x : ByteArray, has D (.string x.data.toList) = f x ∧ D.atKey (.string x.data.toList) (.lit (.bool false)) = .lit (.bool (f x))
section
variable {P : Program} {tm tk te : TypeId} {w : World} {b M n : Nat} {f : ByteArray → Bool}
theorem SMap.made (w : World) : SMap P tk te (w.alloc (.map #[] 0)) w.heap.size 0 0 (fun _ => false) :=
  ⟨.map [], World.ownsMap_made _ _ _ _, tidy_empty, rfl, fun _ => ⟨rfl, rfl⟩⟩
theorem SMap.bmap (h : SMap P tk te w b M n f) : BMap P tk te w b M f := by
  obtain ⟨D, ho, ht, -, hf⟩ := h
  exact ⟨D, ho, ht, fun x => (hf x).2⟩
theorem SMap.look (h : SMap P tk te w b M n f) (ht : P.underlying tm = some (.map tk te)) (hk : P.underlying tk = some .string) (he : P.underlying te = some .bool)
    (hz : (zeroValue te).run P w = .ok (.bool false) w) (x : ByteArray) (hx : x.size ≤ maxLen) : (Instr.lookup tm (.map (some b)) (.string x) false).run P w = .ok (.bool (f x)) w := h.bmap.look ht hk he hz x hx
theorem SMap.len (h : SMap P tk te w b M n f) (ht : P.underlying tm = some (.map tk te)) (ty : TypeId) : (Builtin.len_ #[tm] ty #[.map (some b)]).run P w = .ok (.int .i64 n) w := by
  obtain ⟨D, ho, _, hs, _⟩ := h
  rw [ho.len ht ty, hs]
theorem SMap.store (h : SMap P tk te w b M n f) (ht : P.underlying tm = some (.map tk te)) (hk : P.underlying tk = some .string) (he : P.underlying te = some .bool) (hn : M < maxLen)
    (x : ByteArray) (hx : x.size ≤ maxLen) : ∃ w', (Instr.mapUpdate tm (.map (some b)) (.string x) (.bool true)).run P w = .ok () w' ∧ SMap P tk te w' b (M + 1) (if f x = true then n else n + 1) (fun z => if z = x then true else f z) ∧ w.grownBy w' (some b) := by
  obtain ⟨D, ho, ht', hs, hf⟩ := h
  obtain ⟨w', hrun, ho', hg⟩ := ho.update (string_keyed hk) ht hn (keyOf_string_mk hk hx) (plainElem_bool he true)
  refine ⟨w', hrun, ⟨_, ho', ht'.put (isKey_string _) _, ?_, fun z => ?_⟩, hg⟩
  · rw [size_put ht', (hf x).1, hs]
  · by_cases hz : z = x
    · subst hz; rw [atKey_put_same ht'.isMap (isKey_string _), has_put_same ht'.isMap (isKey_string _)]; simp
    · rw [atKey_put_other (str_ne hz), has_put_other (str_ne hz)]; simp only [if_neg hz]; exact hf z
theorem SMap.lt (h : SMap P tk te w b M n f) : b < w.heap.size := by obtain ⟨D, ho, _⟩ := h; exact ho.lt
theorem SMap.same {w' : World} (h : SMap P tk te w b M n f) (hb : w'.heap[b]? = w.heap[b]?) : SMap P tk te w' b M n f := by
  obtain ⟨D, ⟨es, clock, hc, r⟩, ht, hf⟩ := h
  exact ⟨D, ⟨es, clock, hb.trans hc, r⟩, ht, hf⟩
theorem SMap.below {w' : World} {B : Nat} (h : SMap P tk te w b M n f) (hB : Below B w w') (hb : b < B) : SMap P tk te w' b M n f := h.same (hB.block b hb)
end
end Go.Proofs.YtpmnnoopoblpgaaGreat
