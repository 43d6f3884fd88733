/- Walks: lists of terms alike. -/
import Derived.Test.YtjiffkpgadjodaaWalkM
import Derived.Test.YtjiffkpgadjodaaWalkJ
namespace Go.Proofs.Ytjiffkpgadjodaa
open Go Go.RowKit Go.Maps

set_option maxHeartbeats 2000000 in
theorem SameTerms_any {S1 S2 : Nat → Prop} (a1 a2 : Option Addr) (c1 c2 : Nat) (l1 l2 : List (List Int)) (w : World) (h1 : Terms S1 w a1 c1 l1) (h2 : Terms S2 w a2 c2 l2) :
    Calls Try.prog 8 #[.slice a1 l1.length c1, .slice a2 l2.length c2] w fun e w' => e = .returned (.bool (decide (l1 = l2))) ∧ Drew w w' := by
  have m1 := h1.le
  have m2 := h2.le
  by_cases hl : l1.length = l2.length
  · have hlH := Lib.hid hl
    go_enter Try.func8, Try.ntmps8
    go_wp2_with fail
    clear hl
    go_loopw [5] (fun i wr => ∃ k : Nat, k ≤ l1.length ∧ i = .int .i64 k ∧ l1.take k = l2.take k ∧ Drew w wr) (fun i _ => l1.length - (intOf i).toNat)
    case atStart => exact ⟨0, by omega, rfl, rfl, .refl _⟩
    case round =>
      obtain ⟨k, hk, rfl, ht, hd⟩ := hrel
      have htH := Lib.hid ht
      clear ht
      have hle := hlH.out
      by_cases hlt : k < l1.length
      · have hlt2 : k < l2.length := by omega
        obtain ⟨b1, o1, a3, c3, rfl, -, q1, hI1⟩ := h1.sub k hlt
        obtain ⟨b2, o2, a4, c4, rfl, -, q2, hI2⟩ := h2.sub k hlt2
        have cs := fun n => Same_any a3 a4 c3 c4 l1[k] l2[k] (wr.drewN n) ((hI1.drew hd).drewN n) ((hI2.drew hd).drewN n)
        have q1 := ((hd.below w.heap.size).cell (p := ⟨b1, o1 + k, none⟩) (World.block_lt_of_cell? _ _ q1)).trans q1
        have q2 := ((hd.below w.heap.size).cell (p := ⟨b2, o2 + k, none⟩) (World.block_lt_of_cell? _ _ q2)).trans q2
        obtain ⟨x, hx⟩ : ∃ x, decide (l1[k] = l2[k]) = x := ⟨_, rfl⟩
        rw [hx] at cs
        have csH := Lib.hid cs
        have hxH := Lib.hid hx
        clear h1 h2 hle cs hx hI1 hI2
        cases x with
        | true =>
          go_wp2_with fail
          go_quiet ((go_at_call 13; exact quiet_drew (csH.out _)))
          all_goals go_wp2_with fail
          all_goals exact ⟨⟨k + 1, by omega, by go_num, by rw [List.take_succ_eq_append_getElem hlt, List.take_succ_eq_append_getElem hlt2, htH.out, of_decide_eq_true hxH.out], drew_more hd _⟩, by simp [intOf]; omega⟩
        | false =>
          go_wp2_with fail
          go_quiet ((go_at_call 13; exact quiet_drew (csH.out _)))
          all_goals go_wp2_with fail
          all_goals go_ret
          all_goals exact ⟨ret_bool (decide_eq_false (fun e => of_decide_eq_false hxH.out (by simp only [e]))).symm, drew_more hd _⟩
      · clear hle
        have hk2 : ¬ k < l2.length := by have := hlH.out; omega
        go_wp2_with fail
        go_ret
        refine ⟨ret_bool (decide_eq_true ?_).symm, hd⟩
        have := htH.out
        rwa [List.take_of_length_le (by omega), List.take_of_length_le (by omega)] at this
  · go_enter Try.func8, Try.ntmps8
    have hb := int_ne hl
    go_wp2_with fail
    go_ret
    exact ⟨ret_bool (decide_eq_false (fun e => hl (by rw [e]))).symm, .refl _⟩
end Go.Proofs.Ytjiffkpgadjodaa
