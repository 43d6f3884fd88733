/- Walks: lists of paths. -/
import Derived.Test.YtgpfdflpkaeedaaWalkV
import Derived.Test.YtgpfdflpkaeedaaWalkS
import Derived.Test.YtgpfdflpkaeedaaMath8
namespace Go.Proofs.Ytgpfdflpkaeedaa
open Go Go.RowKit Go.Maps

abbrev OwnPs (S : Nat → Prop) (w : World) (base : Nat) (v : Value) (l : List (List Int)) : Prop := OwnL (slE intE) S w base 24 v l
theorem infoPath : (Try.prog.info? 24).map (fun i => (i.zero, i.size, i.bytes)) = some (some (.slice none 0 0), 1, 24) := by kernel_rfl
section
variable {S : Nat → Prop} {w : World} {base g n cap : Nat} {l : List (List Int)}
theorem OwnPs.ones {xs : List (List Value)} {T : Nat → Prop} (hl : xs.length = l.length) (hx : ∀ i (h1 : i < xs.length) (h2 : i < l.length), (slE intE).R T w xs[i] l[i]) : ∀ x ∈ xs, x.length = 1 := by
  intro x hxm
  obtain ⟨i, hi, rfl⟩ := List.getElem_of_mem hxm
  exact (slE intE).len (hx i hi (by omega))
theorem OwnPs.cell (h : OwnPs S w base (.slice (some ⟨g, 0, none⟩) n cap) l) (hn : n = l.length) (i : Nat) (hi : i < l.length) :
    ∃ a c, w.cell? ⟨g, i, none⟩ = some (.slice a l[i].length c) ∧ Ints (Off S (.slice (some ⟨g, 0, none⟩) n cap)) w a c l[i] ∧ w.frozen? ⟨g, i, none⟩ = false := by
  subst hn
  obtain ⟨xs, ho, hl, hx⟩ := h
  have hi' : i < xs.length := by omega
  obtain ⟨a, c, he, hI⟩ := hx i hi' hi
  have h1 := OwnPs.ones hl hx
  refine ⟨a, c, ?_, hI, ho.frozenAt i⟩
  rw [ho.cellAt i (by show i < l.length * 1; omega)]
  have := flatten_get h1 i hi' 0 (by rw [he]; simp)
  rw [Nat.mul_one, Nat.add_zero] at this
  rw [this]; simp [he]
theorem OwnPs.set (h : OwnPs S w base (.slice (some ⟨g, 0, none⟩) n cap) l) (hn : n = l.length) (i : Nat) {a : Option Addr} {c : Nat} {u : List Int} (hu : Ints (Off S (.slice (some ⟨g, 0, none⟩) n cap)) w a c u) :
    OwnPs S (w.setCell ⟨g, i, none⟩ (.slice a u.length c)) base (.slice (some ⟨g, 0, none⟩) n cap) (l.set i u) ∧ w.grownBy (w.setCell ⟨g, i, none⟩ (.slice a u.length c)) (some g) := by
  subst hn
  obtain ⟨xs, ho, hl, hx⟩ := h
  have h1 := OwnPs.ones hl hx
  obtain ⟨r1, r2⟩ := ho.stored i (.slice a u.length c)
  have hA : Agree (Off S (.slice (some ⟨g, 0, none⟩) l.length cap)) w (w.setCell ⟨g, i, none⟩ (.slice a u.length c)) := .of_grown r2 (fun b hb e => hb.2 (by rw [e]; rfl))
  refine ⟨⟨xs.set i [.slice a u.length c], by rw [List.length_set, flatten_set1 h1]; exact r1, by simp [hl], fun j h1 h2 => ?_⟩, r2⟩
  by_cases hj : i = j
  · subst hj
    simp only [List.getElem_set_self]
    exact (slE intE).mono (w := w) (S := Off S (.slice (some ⟨g, 0, none⟩) l.length cap)) ⟨a, c, rfl, hu⟩ (fun _ _ h => h) hA
  · rw [List.getElem_set_ne hj, List.getElem_set_ne hj]
    exact (slE intE).mono (hx j (by simpa using h1) (by simpa using h2)) (fun _ _ h => h) hA
end

/-- append of one path -/
theorem Ps_push {S : Nat → Prop} {w wr w1 : World} {out : Value} {l : List (List Int)} (ho : OwnPs S wr w.heap.size out l) (hB : Below w.heap.size w wr) (hB1 : Below wr.heap.size wr w1) {a : Option Addr} {c : Nat} {u : List Int} (hu : Ints (Off S out) w1 a c u) (hl : l.length + 1 ≤ 1000000) :
    ∃ v' w', RowKit.Hid ((Builtin.append_ #[54, 54] 54 #[out, .slice (some ⟨w1.heap.size, 0, none⟩) 1 1]).run Try.prog (w1.alloc (.cells #[.slice a u.length c] 24)) = .ok v' w') ∧ RowKit.Hid (OwnPs S w' w.heap.size v' (l ++ [u])) ∧ RowKit.Hid (Below w.heap.size w w') := by
  have hB2 := hB.trans (hB1.mono hB.size)
  have ho1 := ho.call hB1
  obtain ⟨v', w', hrun, ho', hg, hat⟩ := ho1.push (P := Try.prog) (t := 54) (ty := 54) Try.underlying54 infoPath rfl (vs := [.slice a u.length c]) (x := u) ⟨_, _, rfl, hu⟩ (by omega) (by unfold big; omega) hB2.size
  exact ⟨v', w', Lib.hid hrun, Lib.hid ho', Lib.hid (hB2.grown hg hB2.size (fun k e => (ho1.lt k e).1))⟩

set_option maxHeartbeats 2000000 in
theorem SamePaths_any {S1 S2 : Nat → Prop} (a1 a2 : Option Addr) (c1 c2 : Nat) (l1 l2 : List (List Int)) (w : World) (h1 : Terms S1 w a1 c1 l1) (h2 : Terms S2 w a2 c2 l2) :
    Calls Try.prog 44 #[.slice a1 l1.length c1, .slice a2 l2.length c2] w fun e w' => e = .returned (.bool (decide (l1 = l2))) ∧ Drew w w' := by
  have m1 := h1.le
  have m2 := h2.le
  by_cases hl : l1.length = l2.length
  · have hlH := Lib.hid hl
    go_enter Try.func44, Try.ntmps44
    go_wp2_with fail
    clear hl
    go_loopw [5] (fun i wr => ∃ k : Nat, k ≤ l1.length ∧ i = .int .i64 k ∧ l1.take k = l2.take k ∧ Drew w wr) (fun i _ => l1.length - (intOf i).toNat)
    case atStart => exact ⟨0, by omega, rfl, rfl, .refl _⟩
    case round =>
      obtain ⟨k, hk, rfl, ht, hd⟩ := hrel
      have htH := Lib.hid ht
      clear ht
      have hle := hlH.out
      by_cases hlt : k < l1.length
      · have hlt2 : k < l2.length := by omega
        obtain ⟨b1, o1, a3, c3, rfl, -, q1, hI1⟩ := h1.sub k hlt
        obtain ⟨b2, o2, a4, c4, rfl, -, q2, hI2⟩ := h2.sub k hlt2
        have cs := fun n => SameInts_any a3 a4 c3 c4 l1[k] l2[k] (wr.drewN n) ((hI1.drew hd).drewN n) ((hI2.drew hd).drewN n)
        have q1 := ((hd.below w.heap.size).cell (p := ⟨b1, o1 + k, none⟩) (World.block_lt_of_cell? _ _ q1)).trans q1
        have q2 := ((hd.below w.heap.size).cell (p := ⟨b2, o2 + k, none⟩) (World.block_lt_of_cell? _ _ q2)).trans q2
        obtain ⟨x, hx⟩ : ∃ x, decide (l1[k] = l2[k]) = x := ⟨_, rfl⟩
        rw [hx] at cs
        have csH := Lib.hid cs
        have hxH := Lib.hid hx
        clear h1 h2 hle cs hx hI1 hI2
        cases x with
        | true =>
          go_wp2_with fail
          go_quiet ((go_at_call 31; exact quiet_drew (csH.out _)))
          all_goals go_wp2_with fail
          all_goals exact ⟨⟨k + 1, by omega, by go_num, by rw [List.take_succ_eq_append_getElem hlt, List.take_succ_eq_append_getElem hlt2, htH.out, of_decide_eq_true hxH.out], drew_more hd _⟩, by simp [intOf]; omega⟩
        | false =>
          go_wp2_with fail
          go_quiet ((go_at_call 31; exact quiet_drew (csH.out _)))
          all_goals go_wp2_with fail
          all_goals go_ret
          all_goals exact ⟨ret_bool (decide_eq_false (fun e => of_decide_eq_false hxH.out (by simp only [e]))).symm, drew_more hd _⟩
      · clear hle
        have hk2 : ¬ k < l2.length := by have := hlH.out; omega
        go_wp2_with fail
        go_ret
        refine ⟨ret_bool (decide_eq_true ?_).symm, hd⟩
        have := htH.out
        rwa [List.take_of_length_le (by omega), List.take_of_length_le (by omega)] at this
  · go_enter Try.func44, Try.ntmps44
    have hb := int_ne hl
    go_wp2_with fail
    go_ret
    exact ⟨ret_bool (decide_eq_false (fun e => hl (by rw [e]))).symm, .refl _⟩
end Go.Proofs.Ytgpfdflpkaeedaa
