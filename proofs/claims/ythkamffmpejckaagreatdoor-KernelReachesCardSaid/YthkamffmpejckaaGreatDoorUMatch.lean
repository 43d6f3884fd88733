/- Walks of package unify: match, Instance. -/
import Derived.Test.YthkamffmpejckaaGreatDoorUAfter
import Derived.Test.YthkamffmpejckaaGreatDoorVMap
import Derived.Test.YthkamffmpejckaaGreatDoorWalkE
import Derived.Test.YthkamffmpejckaaGreatDoorWalkI
import Derived.Test.YthkamffmpejckaaGreatDoorWalkK
namespace Go.Proofs.YthkamffmpejckaaGreatDoor
open Go Go.RowKit Go.Maps

open Classical in
/-- b is an instance of a -/
noncomputable def instB (s : Sg) (a b : List Int) : Bool := if ∃ η, Wsub s η ∧ ap η a = b then true else false
theorem instB_yes {s : Sg} {a b : List Int} {η : Int → List Int} (h : Wsub s η) (he : ap η a = b) : instB s a b = true := by
  unfold instB; exact if_pos ⟨η, h, he⟩
theorem instB_no {s : Sg} {a b : List Int} (h : ∀ η, Wsub s η → ap η a ≠ b) : instB s a b = false := by
  unfold instB; exact if_neg fun ⟨η, h1, h2⟩ => h η h1 h2
theorem instB_iff {s : Sg} {a b : List Int} : instB s a b = true ↔ ∃ η, Wsub s η ∧ ap η a = b := by unfold instB; split <;> simp_all

/-- the first k numbers of a have become the first i of b -/
structure MRel (s : Sg) (a b : List Int) (k i : Nat) (B : Bd) : Prop where
  ka : k ≤ a.length
  ib : i ≤ b.length
  op : ∃ c, skw s c (a.drop k) = some [] ∧ skw s c (b.drop i) = some []
  wf : ∀ n u, B n = some u → W1 s u
  fwd : ∀ η, (∀ n u, B n = some u → η n = u) → ap η (a.take k) = b.take i
  bwd : ∀ η, Wsub s η → ap η a = b → ∀ n u, B n = some u → η n = u
section
variable {s : Sg} {a b : List Int} {k i : Nat} {B : Bd}
theorem MRel.start (ha : W1 s a) (hb : W1 s b) : MRel s a b 0 0 (fun _ => none) :=
  ⟨Nat.zero_le _, Nat.zero_le _, ⟨1, by simpa using ha, by simpa using hb⟩, fun _ _ h => (by cases h), fun _ _ => rfl, fun _ _ _ _ _ h => (by cases h)⟩
theorem MRel.rest (h : MRel s a b k i B) {η : Int → List Int} (hw : Wsub s η) (he : ap η a = b) : ap η (a.drop k) = b.drop i := by
  have h1 := h.fwd η (h.bwd η hw he)
  have h2 : ap η (a.take k) ++ ap η (a.drop k) = b.take i ++ b.drop i := by rw [← ap_append, List.take_append_drop, List.take_append_drop, he]
  rw [h1] at h2
  exact List.append_cancel_left h2
/-- there is more of b, and what follows there is a part -/
theorem MRel.part (h : MRel s a b k i B) (hk : k < a.length) : i < b.length ∧ ∃ r, skw s 1 (b.drop i) = some r ∧ cw s a[k] = true := by
  obtain ⟨c, h1, h2⟩ := h.op
  cases c with
  | zero => rw [skw_zero] at h1; have := congrArg List.length (Option.some.inj h1); simp at this; omega
  | succ c =>
    obtain ⟨m, hm, -⟩ := skw_one h2
    exact ⟨(skw_drop h2).1, m, hm, (skw_drop h1).2.1⟩
theorem MRel.sym (h : MRel s a b k i B) (hk : k < a.length) (hi : i < b.length) (hp : ¬ a[k] < 0) (he : b[i] = a[k]) : MRel s a b (k + 1) (i + 1) B := by
  obtain ⟨c, h1, h2⟩ := h.op
  have ta : a.take (k + 1) = a.take k ++ [a[k]] := List.take_succ_eq_append_getElem hk
  have tb : b.take (i + 1) = b.take i ++ [b[i]] := List.take_succ_eq_append_getElem hi
  refine ⟨hk, hi, ?_, h.wf, fun η hη => ?_, h.bwd⟩
  · cases c with
    | zero => rw [skw_zero] at h1; have := congrArg List.length (Option.some.inj h1); simp at this; omega
    | succ c =>
      obtain ⟨_, _, g1⟩ := skw_drop h1
      obtain ⟨_, _, g2⟩ := skw_drop h2
      rw [he] at g2
      exact ⟨_, g1, g2⟩
  · rw [ta, tb, ap_append, h.fwd η hη, ap_pos hp, ap_nil, he]
theorem MRel.sym_no (h : MRel s a b k i B) (hk : k < a.length) (hi : i < b.length) (hp : ¬ a[k] < 0) (he : b[i] ≠ a[k]) : instB s a b = false := by
  refine instB_no fun η hw hq => ?_
  have := h.rest hw hq
  rw [List.drop_eq_getElem_cons hk, List.drop_eq_getElem_cons hi, ap_pos hp] at this
  exact he (List.cons.inj this).1.symm
theorem MRel.tail (h : MRel s a b k i B) (hk : k < a.length) (hn : a[k] < 0) {r : List Int} (hr : skw s 1 (b.drop i) = some r) {η : Int → List Int} (hw : Wsub s η) (hq : ap η a = b) : η a[k] = partW s (b.drop i) := by
  have h1 := h.rest hw hq
  rw [List.drop_eq_getElem_cons hk, ap_neg hn] at h1
  obtain ⟨p1, p2, -⟩ := partW_eq hr
  rw [p1] at h1
  exact (W1.uniq (hw _ hn) p2 h1).1
theorem part_ends {r : List Int} (hi : i < b.length) (hr : skw s 1 (b.drop i) = some r) : partW s (b.drop i) = (b.drop i).take (b.length - r.length - i) ∧ i ≤ b.length - r.length ∧ r = b.drop (b.length - r.length) ∧ b.take (b.length - r.length) = b.take i ++ partW s (b.drop i) ∧ W1 s (partW s (b.drop i)) ∧ (partW s (b.drop i)).length = b.length - r.length - i ∧ i < b.length - r.length := by
  obtain ⟨p1, p2, p3⟩ := partW_eq hr
  have hl := partW_len hr
  have hl2 := skw_len s 1 _ _ hr
  rw [List.length_drop] at hl hl2
  have e1 : partW s (b.drop i) = (b.drop i).take (b.length - r.length - i) := by
    unfold partW; rw [hr, Option.getD_some, List.length_drop]; congr 1; omega
  have hi2 : i ≤ b.length - r.length := by omega
  refine ⟨e1, hi2, ?_, ?_, p2, by omega, by omega⟩
  · have : (b.drop i).drop (b.length - r.length - i) = r := by
      rw [congrArg (List.drop (b.length - r.length - i)) p1, List.drop_append_of_le_length (by omega), List.drop_of_length_le (by omega), List.nil_append]
    rw [List.drop_drop, show i + (b.length - r.length - i) = b.length - r.length by omega] at this
    exact this.symm
  · rw [e1, ← List.take_add]; congr 1; omega
theorem MRel.var (h : MRel s a b k i B) (hk : k < a.length) (hn : a[k] < 0) {r : List Int} (hr : skw s 1 (b.drop i) = some r) (hB : B a[k] = none ∨ B a[k] = some (partW s (b.drop i))) :
    MRel s a b (k + 1) (b.length - r.length) (upB B a[k] (partW s (b.drop i))) := by
  have hi := (h.part hk).1
  obtain ⟨-, e2, e3, e4, e5, -⟩ := part_ends hi hr
  have ta : a.take (k + 1) = a.take k ++ [a[k]] := List.take_succ_eq_append_getElem hk
  have hsub : ∀ η : Int → List Int, (∀ n u, upB B a[k] (partW s (b.drop i)) n = some u → η n = u) → (∀ n u, B n = some u → η n = u) ∧ η a[k] = partW s (b.drop i) := fun η hη => by
    have hv := hη a[k] _ (by unfold upB; rw [if_pos rfl])
    refine ⟨fun n u hu => ?_, hv⟩
    by_cases e : n = a[k]
    · subst e
      rcases hB with g | g
      · rw [g] at hu; cases hu
      · rw [g] at hu; rw [← Option.some.inj hu]; exact hv
    · exact hη n u (by unfold upB; rw [if_neg e]; exact hu)
  refine ⟨hk, by omega, ?_, fun n u hu => ?_, fun η hη => ?_, fun η hw hq n u hu => ?_⟩
  · obtain ⟨c, h1, h2⟩ := h.op
    cases c with
    | zero => rw [skw_zero] at h1; have := congrArg List.length (Option.some.inj h1); simp at this; omega
    | succ c =>
      obtain ⟨_, _, g1⟩ := skw_drop h1
      rw [arW_neg hn, Nat.add_zero] at g1
      obtain ⟨m, m1, m2⟩ := skw_one h2
      rw [hr] at m1
      cases m1
      rw [← e3]
      exact ⟨c, g1, m2⟩
  · unfold upB at hu
    split at hu
    · cases hu; exact e5
    · exact h.wf n u hu
  · obtain ⟨g1, g2⟩ := hsub η hη
    rw [ta, ap_append, h.fwd η g1, ap_one hn, g2, e4]
  · unfold upB at hu
    split at hu
    · rename_i e; cases hu; rw [e]; exact h.tail hk hn hr hw hq
    · exact h.bwd η hw hq n u hu
theorem MRel.var_no (h : MRel s a b k i B) (hk : k < a.length) (hn : a[k] < 0) {r u : List Int} (hr : skw s 1 (b.drop i) = some r) (hB : B a[k] = some u) (hne : u ≠ partW s (b.drop i)) : instB s a b = false := by
  refine instB_no fun η hw hq => hne ?_
  rw [← h.bwd η hw hq _ _ hB]
  exact h.tail hk hn hr hw hq
theorem MRel.done (h : MRel s a b a.length i B) : instB s a b = true := by
  have hi : i = b.length := by
    obtain ⟨c, h1, h2⟩ := h.op
    rw [List.drop_length] at h1
    cases c with
    | zero => rw [skw_zero] at h2; have := congrArg List.length (Option.some.inj h2); simp at this; have := h.ib; omega
    | succ c => rw [skw_nil] at h1; cases h1
  have hf := h.fwd (fun n => (B n).getD [n]) (fun n u hu => by simp only [hu, Option.getD_some])
  rw [List.take_length, hi, List.take_length] at hf
  refine instB_yes (fun n hn => ?_) hf
  cases hB : B n with
  | none => exact W1.var hn
  | some u => exact h.wf n u hB
end

theorem zTerm (w : World) : (zeroValue 34).run Tryz.prog w = .ok (.slice none 0 0) w := by kernel_rfl
noncomputable abbrev KI := intK (P := Tryz.prog) (tk := 3) Tryz.underlying3
/-- a map in the world that holds what is bound -/
def BdMap (w0 w : World) (mb : Nat) (n : Nat) (B : Bd) : Prop :=
  ∃ f, VMap KI w mb n f ∧ (∀ x, B x = none → f x = none) ∧ ∀ x u, B x = some u → ∃ a c, f x = some (.slice a u.length c) ∧ Ints (fun b => b < w0.heap.size) w0 a c u
theorem BdMap.made (w0 w : World) : BdMap w0 (w.alloc (.map #[] 0)) w.heap.size 0 (fun _ => none) :=
  ⟨_, VMap.made KI w, fun _ _ => rfl, fun _ _ h => by cases h⟩
theorem BdMap.below {w0 w w' : World} {mb n K : Nat} {B : Bd} (h : BdMap w0 w mb n B) (hb : Below K w w') (hm : mb < K) : BdMap w0 w' mb n B := by
  obtain ⟨f, h1, h2, h3⟩ := h
  exact ⟨f, h1.below hb hm, h2, h3⟩
theorem BdMap.lt {w0 w : World} {mb n : Nat} {B : Bd} (h : BdMap w0 w mb n B) : mb < w.heap.size := by obtain ⟨f, h1, -⟩ := h; exact h1.lt
theorem BdMap.store {w0 w : World} {mb n : Nat} {B : Bd} (h : BdMap w0 w mb n B) (hn : n < maxLen) (x : Int) (hx : inRange x) {a : Option Addr} {c : Nat} {u : List Int} (hu : Ints (fun b => b < w0.heap.size) w0 a c u) :
    ∃ w' n', RowKit.Hid ((Instr.mapUpdate 102 (.map (some mb)) (.int .i64 x) (.slice a u.length c)).run Tryz.prog w = .ok () w') ∧ RowKit.Hid (n' ≤ n + 1) ∧ RowKit.Hid (BdMap w0 w' mb n' (upB B x u)) ∧ RowKit.Hid (w.grownBy w' (some mb)) ∧ RowKit.Hid ((B x).isSome = true → n' = n) := by
  obtain ⟨f, h1, h2, h3⟩ := h
  obtain ⟨w', r, hv, hg⟩ := h1.store (tm := 102) (te := 34) Tryz.underlying102 hn x hx (.slice a u.length c)
  refine ⟨w', _, Lib.hid r, Lib.hid ?_, Lib.hid ⟨_, hv, fun y hy => ?_, fun y v hy => ?_⟩, Lib.hid hg, Lib.hid fun hs => ?_⟩
  · split <;> omega
  · unfold upB at hy
    split at hy
    · cases hy
    · rename_i e; simp only [if_neg e]; exact h2 y hy
  · unfold upB at hy
    split at hy
    · rename_i e; cases hy; simp only [if_pos e]; exact ⟨a, c, rfl, hu⟩
    · rename_i e; simp only [if_neg e]; exact h3 y v hy
  · rw [if_pos]
    cases hB : B x with
    | none => rw [hB] at hs; cases hs
    | some v => obtain ⟨a', c', q, -⟩ := h3 x v hB; rw [q]; rfl
theorem BdMap.look_none {w0 w : World} {mb n : Nat} {B : Bd} (h : BdMap w0 w mb n B) (x : Int) (hx : inRange x) (hB : B x = none) :
    (Instr.lookup 102 (.map (some mb)) (.int .i64 x) true).run Tryz.prog w = .ok (.tuple #[.slice none 0 0, .bool false]) w := by
  obtain ⟨f, h1, h2, h3⟩ := h
  have := h1.look_ok (tm := 102) (te := 34) Tryz.underlying102 (zTerm w) x hx
  rw [h2 x hB] at this; exact this
theorem BdMap.look_some {w0 w : World} {mb n : Nat} {B : Bd} (h : BdMap w0 w mb n B) (x : Int) (hx : inRange x) {u : List Int} (hB : B x = some u) :
    ∃ a c, (Instr.lookup 102 (.map (some mb)) (.int .i64 x) true).run Tryz.prog w = .ok (.tuple #[.slice a u.length c, .bool true]) w ∧ Ints (fun b => b < w0.heap.size) w0 a c u := by
  obtain ⟨f, h1, h2, h3⟩ := h
  obtain ⟨a, c, q, hI⟩ := h3 x u hB
  have := h1.look_ok (tm := 102) (te := 34) Tryz.underlying102 (zTerm w) x hx
  rw [q] at this; exact ⟨a, c, this, hI⟩
theorem BdMap.look_drawn {w0 w : World} {mb n : Nat} {B : Bd} (h : BdMap w0 w mb n B) (x : Int) (hx : inRange x) {u : List Int} (hB : B x = some u) :
    ∃ a c, (∀ m, (Instr.lookup 102 (.map (some mb)) (.int .i64 x) true).run Tryz.prog (w.drewN m) = .ok (.tuple #[.slice a u.length c, .bool true]) (w.drewN m)) ∧ Ints (fun b => b < w0.heap.size) w0 a c u := by
  obtain ⟨f, h1, h2, h3⟩ := h
  obtain ⟨a, c, q, hI⟩ := h3 x u hB
  refine ⟨a, c, fun m => ?_, hI⟩
  have := (h1.below (w' := w.drewN m) ((Drew.mk w m).below w.heap.size) h1.lt).look_ok (tm := 102) (te := 34) Tryz.underlying102 (zTerm _) x hx
  rw [q] at this; exact this
end Go.Proofs.YthkamffmpejckaaGreatDoor
