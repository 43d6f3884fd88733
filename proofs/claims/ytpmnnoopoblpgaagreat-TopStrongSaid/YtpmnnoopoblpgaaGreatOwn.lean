/- Slices that a call makes itself and appends to, read as plain lists. No program is named. -/
import Derived.Test.YtpmnnoopoblpgaaGreatKit
import Derived.Maps.AppendAt
import Derived.Deep.Onto
namespace Go.Proofs.YtpmnnoopoblpgaaGreat
open Go Go.RowKit

/-- the blocks of an element of an own list: those of S, never the list's own row -/
def Off (S : Nat → Prop) (v : Value) : Nat → Prop := fun b => S b ∧ some b ≠ v.ownBlock

/-- The value v is a slice of the call's own, in a block from base on, that reads as l. -/
def OwnL {α : Type} (E : Enc α) (S : Nat → Prop) (w : World) (base : Nat) (e : TypeId) (v : Value) (l : List α) : Prop :=
  ∃ xs : List (List Value), w.ownsRow base e E.size v l.length xs.flatten ∧ xs.length = l.length ∧ ∀ i (h1 : i < xs.length) (h2 : i < l.length), E.R (Off S v) w xs[i] l[i]

theorem flatten_len {xs : List (List Value)} {s : Nat} (h : ∀ x ∈ xs, x.length = s) : xs.flatten.length = xs.length * s := by
  induction xs with
  | nil => simp
  | cons x r ih =>
    rw [List.flatten_cons, List.length_append, ih (fun y hy => h y (by simp [hy])), h x (by simp), List.length_cons, Nat.succ_mul]; omega
theorem flatten_get {xs : List (List Value)} {s : Nat} (h : ∀ x ∈ xs, x.length = s) (i : Nat) (hi : i < xs.length) (j : Nat) (hj : j < xs[i].length) : xs.flatten[i * s + j]? = some xs[i][j] := by
  induction xs generalizing i with
  | nil => simp at hi
  | cons x r ih =>
    have hx := h x (by simp)
    cases i with
    | zero =>
      simp at hj
      rw [List.flatten_cons, Nat.zero_mul, Nat.zero_add, List.getElem?_append_left hj]
      simp
    | succ i =>
      rw [List.flatten_cons, List.getElem?_append_right (by rw [hx, Nat.succ_mul]; omega), hx, show (i + 1) * s + j - s = i * s + j by rw [Nat.succ_mul]; omega]
      simp at hi
      exact ih (fun y hy => h y (by simp [hy])) i hi hj

section
variable {α : Type} {E : Enc α} {S : Nat → Prop} {w : World} {base : Nat} {e : TypeId} {v : Value} {l : List α}

theorem OwnL.nil (E : Enc α) (S : Nat → Prop) (w : World) (base : Nat) (e : TypeId) : OwnL E S w base e (.slice none 0 0) [] :=
  ⟨[], World.ownsRow_nil _ _ _ _, rfl, fun i h => by simp at h⟩
theorem OwnL.made (E : Enc α) (S : Nat → Prop) (w : World) (base : Nat) (e : TypeId) (hb : base ≤ w.heap.size) : OwnL E S (w.alloc (.cells #[] e)) base e (.slice (some ⟨w.heap.size, 0, none⟩) 0 0) [] :=
  ⟨[], World.ownsRow_made w #[] 0 hb (Nat.zero_le _) (by simp), rfl, fun i h => by simp at h⟩
theorem OwnL.lt (h : OwnL E S w base e v l) : ∀ k, v.ownBlock = some k → base ≤ k ∧ k < w.heap.size := by
  obtain ⟨xs, ho, _⟩ := h; exact ho.lt
/-- what changes neither the row nor the elements' blocks -/
theorem OwnL.kept {w' : World} (h : OwnL E S w base e v l) (hr : ∀ k, v.ownBlock = some k → w'.heap[k]? = w.heap[k]?) (hA : Agree (Off S v) w w') : OwnL E S w' base e v l := by
  obtain ⟨xs, ho, hl, hx⟩ := h
  refine ⟨xs, ⟨ho.1, ?_⟩, hl, fun i h1 h2 => E.mono (hx i h1 h2) (fun _ _ h => h) hA⟩
  rcases ho.2 with hn | ⟨g, cap, cur, rfl, hb, hgg, rest⟩
  · exact .inl hn
  · exact .inr ⟨g, cap, cur, rfl, hb, (hr g rfl).trans hgg, rest⟩
theorem OwnL.call {w' : World} (h : OwnL E S w base e v l) (hb : Below w.heap.size w w') : OwnL E S w' base e v l :=
  h.kept (fun k hk => hb.block k (h.lt k hk).2) (.all hb)
theorem OwnL.grown {w' : World} {row : Option Nat} (h : OwnL E S w base e v l) (hg : w.grownBy w' row) (h1 : ∀ k, v.ownBlock = some k → row ≠ some k) (h2 : ∀ b, S b → b < w.heap.size → row ≠ some b) : OwnL E S w' base e v l :=
  h.kept (fun k hk => hg.block k (h.lt k hk).2 (fun e => h1 k hk e.symm)) (fun b hb hl => hg.block b hl (fun e => h2 b hb.1 hl e.symm))
theorem OwnL.baseMono {base' : Nat} (h : OwnL E S w base e v l) (hb : base' ≤ base) : OwnL E S w base' e v l := by
  obtain ⟨xs, ho, hx⟩ := h; exact ⟨xs, ho.mono hb, hx⟩
theorem OwnL.weak {S' : Nat → Prop} (h : OwnL E S w base e v l) (hS : ∀ b, b < w.heap.size → S b → S' b) : OwnL E S' w base e v l := by
  obtain ⟨xs, ho, hl, hx⟩ := h
  exact ⟨xs, ho, hl, fun i h1 h2 => E.mono (hx i h1 h2) (fun b hb h => ⟨hS b hb h.1, h.2⟩) (.refl _ _)⟩

/-- read as a slice -/
theorem OwnL.sl (h : OwnL E S w base e v l) : ∃ a c, v = .slice a l.length c ∧ Sl E (fun b => base ≤ b ∨ S b) w a c l := by
  obtain ⟨xs, ho, hl, hx⟩ := h
  have hln : ∀ x ∈ xs, x.length = E.size := by
    intro x hx'
    obtain ⟨i, hi, rfl⟩ := List.getElem_of_mem hx'
    exact E.len (hx i hi (by omega))
  rcases ho.2 with ⟨rfl, h0⟩ | ⟨g, cap, cur, rfl, hb, hg, h1, h2, h3, h4⟩
  · have : l = [] := List.length_eq_zero_iff.1 h0
    subst this
    exact ⟨none, 0, rfl, .empty⟩
  · refine ⟨_, _, rfl, h1, h2, fun h => by simp at h, fun _ => ⟨g, 0, rfl, .inl hb, (Array.getElem?_eq_some_iff.1 hg).1, fun i hi => ?_⟩⟩
    have hi' : i < xs.length := by omega
    refine ⟨xs[i], hln _ (List.getElem_mem hi'), fun j hj => ?_, E.mono (hx i hi' hi) (fun b _ h => .inr h.1) (.refl _ _)⟩
    have hj' : j < E.size := by rw [hln _ (List.getElem_mem hi')] at hj; exact hj
    rw [Nat.zero_add, World.ownsRow.cellAt (g := g) (cap := cap) ho (i * E.size + j)]
    · exact flatten_get hln i hi' j hj
    · calc i * E.size + j < i * E.size + E.size := by omega
        _ = (i + 1) * E.size := by rw [Nat.succ_mul]
        _ ≤ l.length * E.size := Nat.mul_le_mul_right _ (by omega)
theorem OwnL.slB (h : OwnL E S w base e v l) (hS : ∀ b, S b → base ≤ b) : ∃ a c, v = .slice a l.length c ∧ Sl E (fun b => base ≤ b) w a c l := by
  obtain ⟨a, c, rfl, h'⟩ := h.sl
  exact ⟨a, c, rfl, h'.weak (fun b hb => hb.elim id (hS b))⟩

/-- append of elements that lie in cells one behind the other -/
theorem OwnL.append_raw {P : Program} (h : OwnL E S w base e v l) {t ty : TypeId} {z : Value} {bytes : Nat} (ht : P.underlying t = some (.slice e))
    (hinfo : (P.info? e).map (fun i => (i.zero, i.size, i.bytes)) = some (some z, E.size, bytes)) (hzs : z.cells.size = E.size)
    {a : Option Addr} {c : Nat} {l2 : List α} (hnone : a = none → l2 = [] ∧ c = 0) (ys : List (List Value)) (hys : ys.length = l2.length) (hyl : ∀ i (h1 : i < ys.length) (h2 : i < l2.length), E.R (Off S v) w ys[i] l2[i])
    (hya : ∀ j u, ys.flatten[j]? = some u → ∃ b off, a = some ⟨b, off, none⟩ ∧ w.cell? ⟨b, off + j, none⟩ = some u)
    (hlen : (l.length + l2.length) * bytes ≤ 140737488355328) (hmax : l.length + l2.length ≤ big) (hbase : base ≤ w.heap.size) :
    ∃ v' w', (Builtin.append_ #[t, t] ty #[v, .slice a l2.length c]).run P w = .ok v' w' ∧ OwnL E S w' base e v' (l ++ l2) ∧ w.grownBy w' v.ownBlock ∧ (v'.ownBlock = v.ownBlock ∨ v'.ownBlock = some w.heap.size) ∧ (l ++ l2 = [] → v = .slice none 0 0 → v' = .slice none 0 0) := by
  obtain ⟨i0, hi, hz0, hz1, hz2⟩ := info_parts hinfo
  obtain ⟨xs, ho, hl, hx⟩ := h
  have hylen : ∀ y ∈ ys, y.length = E.size := by
    intro x hx'
    obtain ⟨i, hi, rfl⟩ := List.getElem_of_mem hx'
    exact E.len (hyl i hi (by omega))
  have hyone : ∀ u ∈ ys.flatten, u.oneCell' = true := by
    intro u hu
    obtain ⟨y, hy, hu'⟩ := List.mem_flatten.1 hu
    obtain ⟨i, hi, rfl⟩ := List.getElem_of_mem hy
    exact E.one (hyl i hi (by omega)) u hu'
  have key : ∃ v' w', (Builtin.append_ #[t, t] ty #[v, .slice a l2.length c]).run P w = .ok v' w' ∧ w'.ownsRow base e E.size v' (l.length + l2.length) (xs.flatten ++ ys.flatten) ∧ w.grownBy w' v.ownBlock ∧
      (v' = .slice none 0 0 ↔ v = .slice none 0 0 ∧ l2.length = 0) ∧ (v'.ownBlock = v.ownBlock ∨ v'.ownBlock = some w.heap.size) := by
    cases a with
    | none =>
      obtain ⟨rfl, rfl⟩ := hnone rfl
      have hys0 : ys = [] := List.length_eq_zero_iff.1 (by simpa using hys)
      subst hys0
      have hr := run_append_owned_none (P := P) w base t ty e i0 E.size ht hi v l.length xs.flatten ho
      exact ⟨v, w, by simpa using hr, by simpa using ho, ⟨rfl, rfl, rfl, Nat.le_refl _, fun _ _ _ => rfl⟩, by simp, .inl rfl⟩
    | some ad =>
      have := run_append_own_at (P := P) w base t ty e i0 z E.size bytes ht hi hz0 hz1 hz2 hzs E.pos v l.length xs.flatten ho ad l2.length c ys.flatten (by rw [flatten_len hylen, hys])
        (fun j u hu => by
          obtain ⟨b, off, ha, hc⟩ := hya j u hu
          cases ha
          have hadd : (⟨b, off, none⟩ : Addr).add j = ⟨b, off + j, none⟩ := by unfold Addr.add; split <;> simp_all
          rw [hadd]; exact hc) hyone hmax hlen hbase
      exact this
  obtain ⟨v', w', hrun, hown, hgrow, hnil, hat⟩ := key
  refine ⟨v', w', hrun, ⟨xs ++ ys, ?_, by simp [hl, hys], ?_⟩, hgrow, hat, fun hnl hv => hnil.2 ⟨hv, by simp at hnl; simp [hnl.2]⟩⟩
  · rw [List.length_append, List.flatten_append]; exact hown
  · intro i h1 h2
    have hA : Agree (Off S v) w w' := fun b hb hlb => hgrow.block b hlb hb.2
    have hS' : ∀ b, b < w.heap.size → Off S v b → Off S v' b := fun b hlb hb => ⟨hb.1, by
      rcases hat with h | h
      · rw [h]; exact hb.2
      · rw [h]; intro e; simp at e; omega⟩
    by_cases hi1 : i < xs.length
    · rw [List.getElem_append_left hi1, List.getElem_append_left (by omega)]
      exact E.mono (hx i hi1 (by omega)) hS' hA
    · rw [List.getElem_append_right (by omega), List.getElem_append_right (by omega)]
      simp only [hl]
      simp at h2
      exact E.mono (hyl (i - l.length) (by omega) (by omega)) hS' hA

theorem OwnL.append_run {P : Program} (h : OwnL E S w base e v l) {t ty : TypeId} {z : Value} {bytes : Nat} (ht : P.underlying t = some (.slice e))
    (hinfo : (P.info? e).map (fun i => (i.zero, i.size, i.bytes)) = some (some z, E.size, bytes)) (hzs : z.cells.size = E.size)
    {S2 : Nat → Prop} {a : Option Addr} {c : Nat} {l2 : List α} (h2 : Sl E S2 w a c l2) (hel : ∀ i (hi : i < l2.length) vs, E.R S2 w vs l2[i] → E.R (Off S v) w vs l2[i])
    (hlen : (l.length + l2.length) * bytes ≤ 140737488355328) (hmax : l.length + l2.length ≤ big) (hbase : base ≤ w.heap.size) :
    ∃ v' w', (Builtin.append_ #[t, t] ty #[v, .slice a l2.length c]).run P w = .ok v' w' ∧ OwnL E S w' base e v' (l ++ l2) ∧ w.grownBy w' v.ownBlock ∧ (v'.ownBlock = v.ownBlock ∨ v'.ownBlock = some w.heap.size) ∧ (l ++ l2 = [] → v = .slice none 0 0 → v' = .slice none 0 0) := by
  obtain ⟨ys, hys, hyl, hya⟩ : ∃ ys : List (List Value), ys.length = l2.length ∧ (∀ i (h1 : i < ys.length) (h2 : i < l2.length), E.R S2 w ys[i] l2[i]) ∧ ∀ j u, ys.flatten[j]? = some u → ∃ b off, a = some ⟨b, off, none⟩ ∧ w.cell? ⟨b, off + j, none⟩ = some u := by
    by_cases hne : l2 = []
    · subst hne; exact ⟨[], rfl, fun i h => by simp at h, fun j u h => by simp at h⟩
    · obtain ⟨b, off, ha, _, _, hc⟩ := h2.dat hne
      have hch : ∀ i : Fin l2.length, ∃ vs, vs.length = E.size ∧ (∀ j (hj : j < vs.length), w.cell? ⟨b, off + i.1 * E.size + j, none⟩ = some vs[j]) ∧ E.R S2 w vs l2[i.1] := fun i => hc i.1 i.2
      refine ⟨List.ofFn (fun i => Classical.choose (hch i)), by simp, fun i h1 h2 => ?_, fun j u hu => ⟨b, off, ha, ?_⟩⟩
      · rw [List.getElem_ofFn]; exact (Classical.choose_spec (hch ⟨i, h2⟩)).2.2
      · have hln : ∀ x ∈ List.ofFn (fun i => Classical.choose (hch i)), x.length = E.size := by
          intro x hx'
          obtain ⟨i, hi, rfl⟩ := List.getElem_of_mem hx'
          rw [List.getElem_ofFn]; exact (Classical.choose_spec (hch _)).1
        have hjl : j < (List.ofFn (fun i => Classical.choose (hch i))).flatten.length := (List.getElem?_eq_some_iff.1 hu).1
        rw [flatten_len hln, List.length_ofFn] at hjl
        have hdiv : j / E.size < l2.length := Nat.div_lt_of_lt_mul (by rw [Nat.mul_comm]; exact hjl)
        have hmod : j % E.size < E.size := Nat.mod_lt _ E.pos
        have hsp := Classical.choose_spec (hch ⟨j / E.size, hdiv⟩)
        have hg := flatten_get hln (j / E.size) (by simpa using hdiv) (j % E.size) (by rw [List.getElem_ofFn, hsp.1]; exact hmod)
        have ej : j / E.size * E.size + j % E.size = j := by rw [Nat.mul_comm]; exact Nat.div_add_mod j E.size
        rw [ej, hu] at hg
        have := hsp.2.1 (j % E.size) (by rw [hsp.1]; exact hmod)
        rw [Nat.add_assoc, ej] at this
        rw [this]
        simp only [List.getElem_ofFn] at hg
        exact hg.symm
  exact h.append_raw ht hinfo hzs h2.nil ys hys (fun i h1 h2 => hel i h2 _ (hyl i h1 h2)) hya hlen hmax hbase

theorem cell_new {w : World} (vs : List Value) (e : TypeId) (j : Nat) (hj : j < vs.length) : (w.alloc (.cells vs.toArray e)).cell? ⟨w.heap.size, j, none⟩ = some vs[j] := by
  rw [World.cell?_alloc_at _ _ _ _ rfl]; simp [hj]
/-- append of one element -/
theorem OwnL.push {P : Program} (h : OwnL E S w base e v l) {t ty : TypeId} {z : Value} {bytes : Nat} (ht : P.underlying t = some (.slice e))
    (hinfo : (P.info? e).map (fun i => (i.zero, i.size, i.bytes)) = some (some z, E.size, bytes)) (hzs : z.cells.size = E.size)
    {vs : List Value} {x : α} (hR : E.R (Off S v) w vs x) (hlen : (l.length + 1) * bytes ≤ 140737488355328) (hmax : l.length + 1 ≤ big) (hbase : base ≤ w.heap.size) :
    ∃ v' w', (Builtin.append_ #[t, t] ty #[v, .slice (some ⟨w.heap.size, 0, none⟩) 1 1]).run P (w.alloc (.cells vs.toArray e)) = .ok v' w' ∧ OwnL E S w' base e v' (l ++ [x]) ∧ w.grownBy w' v.ownBlock ∧ (v'.ownBlock = v.ownBlock ∨ ∃ k, v'.ownBlock = some k ∧ w.heap.size ≤ k) := by
  have h1 := h.call (below1 w (.cells vs.toArray e))
  obtain ⟨v', w', hrun, ho, hg, hat, _⟩ := h1.append_raw (P := P) (t := t) (ty := ty) ht hinfo hzs (a := some ⟨w.heap.size, 0, none⟩) (c := 1) (l2 := [x]) (fun h => by simp at h) [vs] rfl
    (fun i h1 h2 => by simp at h2; subst h2; exact E.mono hR (fun _ _ h => h) (.all (below1 _ _)))
    (fun j u hu => ⟨_, 0, rfl, by
      simp only [List.flatten_cons, List.flatten_nil, List.append_nil] at hu
      obtain ⟨hj, rfl⟩ := List.getElem?_eq_some_iff.1 hu
      rw [Nat.zero_add]; exact cell_new vs e j hj⟩) hlen hmax (by simp; omega)
  refine ⟨v', w', hrun, ho, ⟨hg.os, hg.tape, hg.output, by have := hg.size; simp at this; omega, fun k hk hr => ?_⟩, ?_⟩
  · rw [hg.block k (by simp; omega) hr, Below.heap_alloc _ _ _ hk]
  · rcases hat with h | h
    · exact .inl h
    · exact .inr ⟨_, h, by simp⟩

theorem OwnL.form (h : OwnL E S w base e v l) (hne : l ≠ []) : ∃ g cap, v = .slice (some ⟨g, 0, none⟩) l.length cap ∧ base ≤ g ∧ g < w.heap.size := by
  obtain ⟨xs, ho, _⟩ := h
  rcases ho.2 with ⟨rfl, h0⟩ | ⟨g, cap, cur, rfl, hb, hg, _⟩
  · exact (hne (List.length_eq_zero_iff.1 h0)).elim
  · exact ⟨g, cap, rfl, hb, (Array.getElem?_eq_some_iff.1 hg).1⟩
end

section
variable {S : Nat → Prop} {w : World} {base : Nat} {e : TypeId} {v : Value} {l : List Int}
theorem ints_rows {xs : List (List Value)} {T : Nat → Prop} (hl : xs.length = l.length) (hx : ∀ i (h1 : i < xs.length) (h2 : i < l.length), intE.R T w xs[i] l[i]) : xs = l.map (fun x => [.int .i64 x]) ∧ ∀ x ∈ l, inRange x := by
  constructor
  · apply List.ext_getElem (by simpa using hl)
    intro i h1 h2
    rw [List.getElem_map]
    exact (hx i h1 (by omega)).1
  · intro x hxl
    obtain ⟨i, hi, rfl⟩ := List.getElem_of_mem hxl
    exact (hx i (by omega) hi).2
theorem flatten_single (l : List Int) : (l.map (fun x => [Value.int .i64 x])).flatten = l.map (Value.int .i64) := by
  induction l with
  | nil => rfl
  | cons x r ih => simp [ih]
theorem OwnL.row (h : OwnL intE S w base e v l) : w.ownsRow base e 1 v l.length (l.map (.int .i64)) ∧ ∀ x ∈ l, inRange x := by
  obtain ⟨xs, ho, hl, hx⟩ := h
  obtain ⟨rfl, hr⟩ := ints_rows hl hx
  rw [flatten_single] at ho
  exact ⟨ho, hr⟩
theorem OwnL.of_row (h : w.ownsRow base e 1 v l.length (l.map (.int .i64))) (hr : ∀ x ∈ l, inRange x) : OwnL intE S w base e v l :=
  ⟨l.map (fun x => [.int .i64 x]), by rw [flatten_single]; exact h, by simp, fun i h1 h2 => ⟨by simp, hr _ (List.getElem_mem h2)⟩⟩
theorem OwnL.cellInt {g cap n : Nat} (h : OwnL intE S w base e (.slice (some ⟨g, 0, none⟩) n cap) l) (hn : n = l.length) (i : Nat) (hi : i < l.length) : w.cell? ⟨g, i, none⟩ = some (.int .i64 l[i]) ∧ w.frozen? ⟨g, i, none⟩ = false := by
  subst hn
  obtain ⟨ho, _⟩ := h.row
  exact ⟨by rw [ho.cellAt i (by omega)]; simp [hi], ho.frozenAt i⟩
theorem OwnL.setInt {g cap n : Nat} (h : OwnL intE S w base e (.slice (some ⟨g, 0, none⟩) n cap) l) (hn : n = l.length) (i : Nat) (x : Int) (hx : inRange x) :
    OwnL intE S (w.setCell ⟨g, i, none⟩ (.int .i64 x)) base e (.slice (some ⟨g, 0, none⟩) n cap) (l.set i x) ∧ w.grownBy (w.setCell ⟨g, i, none⟩ (.int .i64 x)) (some g) := by
  subst hn
  obtain ⟨ho, hr⟩ := h.row
  obtain ⟨h1, h2⟩ := ho.stored i (.int .i64 x)
  refine ⟨.of_row (by rw [List.length_set, List.map_set]; exact h1) (fun y hy => ?_), h2⟩
  rcases List.mem_or_eq_of_mem_set hy with h | h
  · exact hr y h
  · rw [h]; exact hx
theorem OwnL.lit (w : World) (l : List Int) (e : TypeId) (hr : ∀ x ∈ l, inRange x) (hl : l.length ≤ maxLen) : OwnL intE S (w.alloc (.cells (l.map (Value.int .i64)).toArray e)) w.heap.size e (.slice (some ⟨w.heap.size, 0, none⟩) l.length l.length) l :=
  .of_row (by have := World.ownsRow_lit (e := e) (size := 1) w (l.map (Value.int .i64)).toArray l.length (Nat.le_refl _) hl (by simp); simpa using this) hr
end

/-- append, at the operation, by an equation on its run -/
theorem wpList_append_run {P : Program} {w : World} {ops : Array Oper} {rest : List Oper} {o : Oper} {a : Act} {Q : Exit → Act → World → Prop} (hgd : o.guard = none) (s x : Operand) (t : TypeId)
    (ho : o.op = .call { callee := .builtin .append, args := #[s, x], argTypes := #[t, t] }) {vs vx : Value} (hs : a.eval s = vs) (hx : a.eval x = vx) {v' : Value} {w' : World}
    (hr : (Builtin.append_ #[t, t] o.type #[vs, vx]).run P w = .ok v' w') (h : wpList P ops Q rest (a.put o.dst v') w') : wpList P ops Q (o :: rest) a w := by
  refine wpList_plain hgd fun K hK => ?_
  unfold Oper.wp execOp
  simp only [ho, resolve, invoke, builtin, Sem.run_bind, Sem.run_pure, Result.andThen_ok, List.map_toArray, List.map_cons, List.map_nil, hs, hx, hr]
  exact hK _ _ h
end Go.Proofs.YtpmnnoopoblpgaaGreat
