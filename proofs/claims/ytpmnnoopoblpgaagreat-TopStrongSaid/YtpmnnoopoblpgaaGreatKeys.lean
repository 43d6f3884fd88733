/- Keys of maps that are structs of strings or of ints; lists of bytes that a call makes. No program is named. -/
import Derived.Test.YtpmnnoopoblpgaaGreatVMap
import Derived.Test.YtpmnnoopoblpgaaGreatOwn
import Derived.DeepKeys4
import Derived.Lib.SlBytesRow
import Derived.Lib.BufferRead
namespace Go.Proofs.YtpmnnoopoblpgaaGreat
open Go Go.RowKit Go.Maps Go.WideMaps

theorem keyOf_strs {P : Program} {k : TypeId} {f0 f1 : Field} (hu : P.underlying k = some (.struct #[f0, f1])) (hk : P.keyType k = true) (hc : P.cellsOf k = 2) (hsz : ∃ m, P.types.size = m + 1)
    (o0 : f0.offset = 0) (o1 : f1.offset = 1) (c0 : P.cellsOf f0.type = 1) (c1 : P.cellsOf f1.type = 1) (n0 : (f0.name != "_") = true) (n1 : (f1.name != "_") = true) (u0 : P.underlying f0.type = some .string) (u1 : P.underlying f1.type = some .string)
    {a b : ByteArray} (wa : a.size ≤ maxLen) (wb : b.size ≤ maxLen) :
    keyOf P k (.agg #[.string a, .string b]) = some (.string (keyBytes [.string a.data.toList, .string b.data.toList])) := by
  obtain ⟨m, hm⟩ := hsz
  unfold keyOf
  simp only [hu]
  rw [if_pos (by simp [hk, Value.formed, hu, hc]), hm]
  unfold Program.keyLits
  simp only [hu, Value.cells]
  rw [if_pos ⟨by rw [hc]; rfl, by simp [n0, n1]⟩]
  simp [Program.keyLits, o0, o1, c0, c1, u0, u1, wa, wb]
theorem keyOf_ints3 {P : Program} {k : TypeId} {f0 f1 f2 : Field} (hu : P.underlying k = some (.struct #[f0, f1, f2])) (hk : P.keyType k = true) (hc : P.cellsOf k = 3) (hsz : ∃ m, P.types.size = m + 1)
    (o0 : f0.offset = 0) (o1 : f1.offset = 1) (o2 : f2.offset = 2) (c0 : P.cellsOf f0.type = 1) (c1 : P.cellsOf f1.type = 1) (c2 : P.cellsOf f2.type = 1) (n0 : (f0.name != "_") = true) (n1 : (f1.name != "_") = true) (n2 : (f2.name != "_") = true)
    (u0 : P.underlying f0.type = some (.int .i64)) (u1 : P.underlying f1.type = some (.int .i64)) (u2 : P.underlying f2.type = some (.int .i64))
    {a b c : Int} (wa : inRange a) (wb : inRange b) (wc : inRange c) :
    keyOf P k (.agg #[.int .i64 a, .int .i64 b, .int .i64 c]) = some (.string (keyBytes [.int .i64 a, .int .i64 b, .int .i64 c])) := by
  obtain ⟨m, hm⟩ := hsz
  unfold keyOf
  simp only [hu]
  rw [if_pos (by simp [hk, Value.formed, hu, hc]), hm]
  unfold Program.keyLits
  simp only [hu, Value.cells]
  rw [if_pos ⟨by rw [hc]; rfl, by simp [n0, n1, n2]⟩]
  simp [Program.keyLits, o0, o1, o2, c0, c1, c2, u0, u1, u2, wf_of_inRange wa, wf_of_inRange wb, wf_of_inRange wc]
/-- a kind of keys by their values: what the form reads them as need not be looked at -/
def keyK {κ : Type} {P : Program} {tk : TypeId} (hkd : Keyed P tk) (val : κ → Value) (lit : κ → Lit) (hkey : ∀ x, keyOf P tk (val x) = some (lit x)) (hinj : ∀ x y, val x = val y → x = y) : KeyK κ P tk where
  lit := lit
  val := val
  ok _ := True
  keyed := hkd
  key x _ := hkey x
  isKey x := hkd.key (hkey x)
  inj x y h := hinj x y (hkd.inj (hkey x) (by rw [h]; exact hkey y))

/-! ### bytes -/
def u8E : Enc UInt8 where
  size := 1
  pos := by decide
  R _ _ vs x := vs = [.int .u8 x.toNat]
  len h := by rw [h]; rfl
  one h := by rw [h]; simp [Value.oneCell']
  mono h _ _ := h
theorem u8_rows {S : Nat → Prop} {w : World} {xs : List (List Value)} {l : List UInt8} (hl : xs.length = l.length) (hx : ∀ i (h1 : i < xs.length) (h2 : i < l.length), u8E.R S w xs[i] l[i]) : xs = l.map (fun x => [Value.int .u8 x.toNat]) := by
  apply List.ext_getElem
  · simp [hl]
  · intro i h1 h2
    have := hx i h1 (by simpa using h2)
    rw [List.getElem_map]; exact this
theorem u8_flat (l : List UInt8) : (l.map (fun x => [Value.int .u8 x.toNat])).flatten = l.map (fun x => Value.int .u8 x.toNat) := by
  induction l with
  | nil => rfl
  | cons x r ih => simp [ih]
/-- bytes of a list that is not empty, as the library's laws read them -/
theorem OwnL.bytes {S : Nat → Prop} {w : World} {base : Nat} {e : TypeId} {g n cap : Nat} {l : List UInt8} (h : OwnL u8E S w base e (.slice (some ⟨g, 0, none⟩) n cap) l) (hn : n = l.length) : Lib.Bytes w g 0 ⟨l.toArray⟩ := by
  subst hn
  obtain ⟨xs, ho, hl, hx⟩ := h
  rw [u8_rows hl hx, u8_flat] at ho
  intro i hi
  have hi' : i < l.length := by simpa [ByteArray.size] using hi
  rw [Nat.zero_add, ho.cellAt i (by show i < l.length * 1; omega)]
  simp [hi', ByteArray.getElem_eq_getElem_data]
end Go.Proofs.YtpmnnoopoblpgaaGreat
