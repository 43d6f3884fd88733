/- Maps that a call makes, from ints or strings to whatever values, read as plain functions. No program is named. -/
import Derived.Test.YtpmnnoopoblpgaaGreatMaps
namespace Go.Proofs.YtpmnnoopoblpgaaGreat
open Go Go.RowKit Go.Maps Go.WideMaps

/-- kinds of keys -/
structure KeyK (κ : Type) (P : Program) (tk : TypeId) where
  lit : κ → Lit
  val : κ → Value
  ok : κ → Prop
  keyed : Keyed P tk
  key : ∀ x, ok x → keyOf P tk (val x) = some (lit x)
  isKey : ∀ x, WideAt.IsKeyLit (lit x)
  inj : ∀ x y, lit x = lit y → x = y
def intK {P : Program} {tk : TypeId} (hk : P.underlying tk = some (.int .i64)) : KeyK Int P tk where
  lit x := .int .i64 x
  val x := .int .i64 x
  ok := inRange
  keyed := int_keyed hk
  key _ h := keyOf_int_mk hk (wf_of_inRange h)
  isKey := isKey_int
  inj x y h := by simpa using h
def strK {P : Program} {tk : TypeId} (hk : P.underlying tk = some .string) : KeyK ByteArray P tk where
  lit s := .string s.data.toList
  val s := .string s
  ok s := s.size ≤ maxLen
  keyed := string_keyed hk
  key _ h := keyOf_string_mk hk h
  isKey _ := isKey_string _
  inj _ _ h := Classical.byContradiction fun e => str_ne e h
abbrev heldV : Value → Option (DataW Value × List MemPlace) := fun v => some (.held v, [])
/-- the map in block b has exactly n keys and reads as f -/
def VMap {κ : Type} {P : Program} {tk : TypeId} (K : KeyK κ P tk) (w : World) (b n : Nat) (f : κ → Option Value) : Prop :=
  ∃ D : DataW Value, w.ownsMap P tk heldV b n D ∧ Tidy D ∧ size D = n ∧ ∀ x, has D (K.lit x) = (f x).isSome ∧ ∀ z, D.atKey (K.lit x) (.held z) = .held ((f x).getD z)

section
variable {κ : Type} {P : Program} {tm tk te : TypeId} {K : KeyK κ P tk} {w : World} {b n : Nat} {f : κ → Option Value}
theorem VMap.made (K : KeyK κ P tk) (w : World) : VMap K (w.alloc (.map #[] 0)) w.heap.size 0 (fun _ => none) :=
  ⟨.map [], World.ownsMap_made _ _ _ _, tidy_empty, rfl, fun _ => ⟨rfl, fun _ => rfl⟩⟩
theorem VMap.look (h : VMap K w b n f) (ht : P.underlying tm = some (.map tk te)) {z : Value} (hz : (zeroValue te).run P w = .ok z w) (x : κ) (hx : K.ok x) : (Instr.lookup tm (.map (some b)) (K.val x) false).run P w = .ok ((f x).getD z) w := by
  obtain ⟨D, ho, _, _, hf⟩ := h
  obtain ⟨v, ps, hrun, hv⟩ := ho.lookup K.keyed ht hz rfl (K.key x hx)
  rw [(hf x).2 z] at hv
  simp only [Option.some.injEq, Prod.mk.injEq, DataW.held.injEq] at hv
  rw [hrun, hv.1]
theorem VMap.look_ok (h : VMap K w b n f) (ht : P.underlying tm = some (.map tk te)) {z : Value} (hz : (zeroValue te).run P w = .ok z w) (x : κ) (hx : K.ok x) : (Instr.lookup tm (.map (some b)) (K.val x) true).run P w = .ok (.tuple #[(f x).getD z, .bool (f x).isSome]) w := by
  obtain ⟨D, ho, _, _, hf⟩ := h
  obtain ⟨v, ps, hrun, hv⟩ := ho.look_ok K.keyed ht hz rfl (K.key x hx)
  rw [(hf x).2 z] at hv
  simp only [Option.some.injEq, Prod.mk.injEq, DataW.held.injEq] at hv
  rw [hrun, hv.1, (hf x).1]
theorem VMap.len (h : VMap K w b n f) (ht : P.underlying tm = some (.map tk te)) (ty : TypeId) : (Builtin.len_ #[tm] ty #[.map (some b)]).run P w = .ok (.int .i64 n) w := by
  obtain ⟨D, ho, _, hs, _⟩ := h
  rw [ho.len ht ty, hs]
theorem VMap.store [DecidableEq κ] (h : VMap K w b n f) (ht : P.underlying tm = some (.map tk te)) (hn : n < maxLen) (x : κ) (hx : K.ok x) (y : Value) :
    ∃ w', (Instr.mapUpdate tm (.map (some b)) (K.val x) y).run P w = .ok () w' ∧ VMap K w' b (if (f x).isSome = true then n else n + 1) (fun z => if z = x then some y else f z) ∧ w.grownBy w' (some b) := by
  obtain ⟨D, ho, ht', hs, hf⟩ := h
  obtain ⟨w', hrun, ho', hg⟩ := ho.update K.keyed ht hn (K.key x hx) (val := y) (d := .held y) (ps := []) rfl
  have hsz := size_put (k := K.lit x) ht' (DataW.held y)
  rw [(hf x).1, hs] at hsz
  refine ⟨w', hrun, ⟨_, ?_, ht'.put (K.isKey _) _, hsz, fun z => ?_⟩, hg⟩
  · rw [← hsz]
    obtain ⟨es, clock, hb, F, hle, hD⟩ := ho'
    refine ⟨es, clock, hb, F, ?_, hD⟩
    have e1 : size (D.put (K.lit x) (.held y)) = es.size := by rw [hD]; simp [size, length_sorted]
    omega
  · by_cases hz : z = x
    · subst hz
      rw [has_put_same ht'.isMap (K.isKey _)]
      exact ⟨by simp, fun z => by rw [atKey_put_same ht'.isMap (K.isKey _)]; simp⟩
    · have hne : K.lit z ≠ K.lit x := fun e => hz (K.inj _ _ e)
      rw [has_put_other hne]
      exact ⟨by simp only [if_neg hz]; exact (hf z).1, fun y => by rw [atKey_put_other hne]; simp only [if_neg hz]; exact (hf z).2 y⟩
theorem VMap.lt (h : VMap K w b n f) : b < w.heap.size := by obtain ⟨D, ho, _⟩ := h; exact ho.lt
theorem VMap.same {w' : World} (h : VMap K w b n f) (hb : w'.heap[b]? = w.heap[b]?) : VMap K w' b n f := by
  obtain ⟨D, ⟨es, clock, hc, r⟩, ht, hf⟩ := h
  exact ⟨D, ⟨es, clock, hb.trans hc, r⟩, ht, hf⟩
theorem VMap.below {w' : World} {B : Nat} (h : VMap K w b n f) (hB : Below B w w') (hb : b < B) : VMap K w' b n f := h.same (hB.block b hb)
end
end Go.Proofs.YtpmnnoopoblpgaaGreat
