/- Walks: within, arity, and the comparisons of two lists of numbers. -/
import Derived.Test.YtpmnnoopoblpgaaGreatRows
import Derived.Test.YtpmnnoopoblpgaaGreatKit
import Derived.Test.YtpmnnoopoblpgaaGreatMath
namespace Go.Proofs.YtpmnnoopoblpgaaGreat
open Go Go.RowKit

theorem take_ne {l1 l2 : List Int} {k : Nat} (h1 : k < l1.length) (h2 : k < l2.length) (h : (l1[k] != l2[k]) = true) : l1 ≠ l2 := by
  intro e; subst e; simp at h
theorem take_succ_eq {l1 l2 : List Int} {k : Nat} (h1 : k < l1.length) (h2 : k < l2.length) (ht : l1.take k = l2.take k) (h : (l1[k] != l2[k]) = false) : l1.take (k + 1) = l2.take (k + 1) := by
  rw [List.take_succ_eq_append_getElem h1, List.take_succ_eq_append_getElem h2, ht]
  simp at h; rw [h]
theorem take_all_eq {l1 l2 : List Int} {k : Nat} (hl : l1.length = l2.length) (hk : ¬ k < l2.length) (ht : l1.take k = l2.take k) : l1 = l2 := by
  rw [List.take_of_length_le (by omega), List.take_of_length_le (by omega)] at ht; exact ht

set_option maxHeartbeats 400000 in
theorem within_any (n lo hi : Int) (w : World) :
    Calls Tryz.prog 141 #[.int .i64 n, .int .i64 lo, .int .i64 hi] w fun e w' => e = .returned (.bool (decide (lo ≤ n) && decide (n ≤ hi))) ∧ w = w' := by
  go_enter Tryz.func141, Tryz.ntmps141
  go_wp2
  all_goals go_ret
  all_goals exact ⟨ret_bool (by simp; omega), rfl⟩

set_option maxHeartbeats 400000 in
theorem rwithin_any (n lo hi : Int) (w : World) :
    Calls Tryz.prog 132 #[.int .i64 n, .int .i64 lo, .int .i64 hi] w fun e w' => e = .returned (.bool (decide (lo ≤ n) && decide (n ≤ hi))) ∧ w = w' := by
  go_enter Tryz.func132, Tryz.ntmps132
  go_wp2
  all_goals go_ret
  all_goals exact ⟨ret_bool (by simp; omega), rfl⟩

set_option maxHeartbeats 400000 in
theorem Same_any {S1 S2 : Nat → Prop} (a1 a2 : Option Addr) (c1 c2 : Nat) (l1 l2 : List Int) (w : World) (h1 : Ints S1 w a1 c1 l1) (h2 : Ints S2 w a2 c2 l2) :
    Calls Tryz.prog 125 #[.slice a1 l1.length c1, .slice a2 l2.length c2] w fun e w' => e = .returned (.bool (decide (l1 = l2))) ∧ Drew w w' := by
  have m1 := h1.le
  have m2 := h2.le
  by_cases hl : l1.length = l2.length
  · have hlH := Lib.hid hl
    go_enter Tryz.func125, Tryz.ntmps125
    go_wp2
    clear hl
    go_loopw [5] (fun i wr => ∃ k : Nat, k ≤ l1.length ∧ i = .int .i64 k ∧ l1.take k = l2.take k ∧ Drew w wr) (fun i _ => l1.length - (intOf i).toNat)
    case atStart => exact ⟨0, by omega, rfl, rfl, .refl _⟩
    case round =>
      obtain ⟨k, hk, rfl, ht, n, rfl⟩ := hrel
      have htH := Lib.hid ht
      clear ht
      have hle := hlH.out
      by_cases hlt : k < l1.length
      · have hlt2 : k < l2.length := by omega
        obtain ⟨b1, o1, rfl, -, q1, -⟩ := h1.int k hlt
        obtain ⟨b2, o2, rfl, -, q2, -⟩ := h2.int k hlt2
        clear h1 h2 hle
        go_wp2
        go_quiet (fail)
        all_goals go_wp2
        · go_ret
          exact ⟨ret_bool (decide_eq_false (take_ne hlt hlt2 (by assumption))).symm, .mk2 _ _ _⟩
        · exact ⟨⟨k + 1, by omega, by go_num, take_succ_eq hlt hlt2 htH.out (by assumption), .mk _ _⟩, by simp [intOf]; omega⟩
      · clear hle
        have hk2 : ¬ k < l2.length := by have := hlH.out; omega
        go_wp2
        go_ret
        exact ⟨ret_bool (decide_eq_true (take_all_eq hlH.out hk2 htH.out)).symm, .mk _ _⟩
  · go_enter Tryz.func125, Tryz.ntmps125
    have hb := int_ne hl
    go_wp2
    go_ret
    exact ⟨ret_bool (decide_eq_false (fun e => hl (by rw [e]))).symm, .refl _⟩
set_option maxHeartbeats 400000 in
theorem Equal_any {S1 S2 : Nat → Prop} (a1 a2 : Option Addr) (c1 c2 : Nat) (l1 l2 : List Int) (w : World) (h1 : Ints S1 w a1 c1 l1) (h2 : Ints S2 w a2 c2 l2) :
    Calls Tryz.prog 120 #[.slice a1 l1.length c1, .slice a2 l2.length c2] w fun e w' => e = .returned (.bool (decide (l1 = l2))) ∧ Drew w w' := by
  have m1 := h1.le
  have m2 := h2.le
  by_cases hl : l1.length = l2.length
  · have hlH := Lib.hid hl
    go_enter Tryz.func120, Tryz.ntmps120
    go_wp2
    clear hl
    go_loopw [13] (fun i wr => ∃ k : Nat, k ≤ l1.length ∧ i = .int .i64 k ∧ l1.take k = l2.take k ∧ Drew w wr) (fun i _ => l1.length - (intOf i).toNat)
    case atStart => exact ⟨0, by omega, rfl, rfl, .refl _⟩
    case round =>
      obtain ⟨k, hk, rfl, ht, n, rfl⟩ := hrel
      have htH := Lib.hid ht
      clear ht
      have hle := hlH.out
      by_cases hlt : k < l1.length
      · have hlt2 : k < l2.length := by omega
        obtain ⟨b1, o1, rfl, -, q1, -⟩ := h1.int k hlt
        obtain ⟨b2, o2, rfl, -, q2, -⟩ := h2.int k hlt2
        clear h1 h2 hle
        go_wp2
        go_quiet (fail)
        all_goals go_wp2
        · go_ret
          exact ⟨ret_bool (decide_eq_false (take_ne hlt hlt2 (by assumption))).symm, .mk2 _ _ _⟩
        · exact ⟨⟨k + 1, by omega, by go_num, take_succ_eq hlt hlt2 htH.out (by assumption), .mk _ _⟩, by simp [intOf]; omega⟩
      · clear hle
        have hk2 : ¬ k < l2.length := by have := hlH.out; omega
        go_wp2
        go_ret
        exact ⟨ret_bool (decide_eq_true (take_all_eq hlH.out hk2 htH.out)).symm, .mk _ _⟩
  · go_enter Tryz.func120, Tryz.ntmps120
    have hb := int_ne hl
    go_wp2
    go_ret
    exact ⟨ret_bool (decide_eq_false (fun e => hl (by rw [e]))).symm, .refl _⟩

theorem has_step {l : List Int} {x : Int} {k : Nat} (h : k < l.length) (h0 : x ∉ l.take k) (hx : (l[k] == x) = false) : x ∉ l.take (k + 1) := by
  rw [List.take_succ_eq_append_getElem h, List.mem_append, not_or, List.mem_singleton]
  exact ⟨h0, fun e => by simp [e] at hx⟩
set_option maxHeartbeats 400000 in
theorem Has_any {S : Nat → Prop} (a : Option Addr) (c : Nat) (l : List Int) (x : Int) (w : World) (h : Ints S w a c l) :
    Calls Tryz.prog 211 #[.slice a l.length c, .int .i64 x] w fun e w' => e = .returned (.bool (decide (x ∈ l))) ∧ w = w' := by
  have m := h.le
  go_enter Tryz.func211, Tryz.ntmps211
  go_wp2
  go_loop [5] (fun i => ∃ k : Nat, k ≤ l.length ∧ i = .int .i64 k ∧ x ∉ l.take k) (fun i => l.length - (intOf i).toNat)
  case atStart => exact ⟨0, by omega, rfl, by simp⟩
  case round =>
    obtain ⟨k, hk, rfl, hn⟩ := hrel
    have hnH := Lib.hid hn
    clear hn
    by_cases hlt : k < l.length
    · obtain ⟨b, o, rfl, -, q, -⟩ := h.int k hlt
      clear h
      go_wp2
      · go_ret
        have he : (l[k] == x) = true := by assumption
        exact ⟨ret_bool (decide_eq_true (by simp at he; rw [← he]; exact List.getElem_mem hlt)).symm, rfl⟩
      · exact ⟨⟨k + 1, by omega, by go_num, has_step hlt hnH.out (by assumption)⟩, by simp [intOf]; omega⟩
    · go_wp2
      go_ret
      exact ⟨ret_bool (decide_eq_false (by have := hnH.out; rwa [List.take_of_length_le (by omega)] at this)).symm, rfl⟩

set_option maxHeartbeats 400000 in
theorem arity_any {S : Nat → Prop} (a : Option Addr) (c : Nat) (s : Sg) (n : Int) (w : World) (h : Sign S w a c s) :
    Calls Tryz.prog 190 #[.slice a s.length c, .int .i64 n] w fun e w' => e = .returned (.int .i64 (arC s n)) ∧ w = w' := by
  have m := h.le
  by_cases h1 : -12 ≤ n ∧ n ≤ -1
  · have hf : arC s n = 0 := by rw [arC, if_pos h1]
    have hb : (decide (-12 ≤ n) && decide (n ≤ -1)) = true := by simp [h1]
    have hf' := Lib.hid hf
    clear hf h1 h
    go_enter Tryz.func190, Tryz.ntmps190
    go_wp2_with (go_at_call 141; refine (within_any _ _ _ _).mono ?_; rintro e w' ⟨rfl, rfl⟩)
    go_ret
    exact ⟨ret_int hf'.out.symm, rfl⟩
  · have hb : (decide (-12 ≤ n) && decide (n ≤ -1)) = false := by simp; omega
    by_cases h2 : 0 ≤ n ∧ n < s.length
    · have hf : arC s n = (s[n.toNat]'(by omega)).2 := by
        rw [arC, if_neg h1, if_pos h2, List.getD_eq_getElem?_getD, List.getElem?_eq_getElem (by omega)]; rfl
      have hf' := Lib.hid hf
      have hb2 : (decide (0 ≤ n) && decide (n ≤ (s.length : Int) - 1)) = true := by simp; omega
      obtain ⟨k, rfl⟩ := Int.eq_ofNat_of_zero_le h2.1
      have hk : k < s.length := by omega
      obtain ⟨b, o, rfl, -, -, q, -, -⟩ := h.sym k hk
      clear hf h h1
      go_enter Tryz.func190, Tryz.ntmps190
      go_wp2_with (go_at_call 141; refine (within_any _ _ _ _).mono ?_; rintro e w' ⟨rfl, rfl⟩)
      go_ret
      exact ⟨ret_int (hf'.out.symm), rfl⟩
    · have hf : arC s n = -1 := by rw [arC, if_neg h1, if_neg h2]
      have hf' := Lib.hid hf
      have hb2 : (decide (0 ≤ n) && decide (n ≤ (s.length : Int) - 1)) = false := by simp; omega
      clear hf h h1 h2
      go_enter Tryz.func190, Tryz.ntmps190
      go_wp2_with (go_at_call 141; refine (within_any _ _ _ _).mono ?_; rintro e w' ⟨rfl, rfl⟩)
      go_ret
      exact ⟨ret_int hf'.out.symm, rfl⟩

set_option maxHeartbeats 400000 in
theorem rArity_any {S : Nat → Prop} (a : Option Addr) (c : Nat) (s : Sg) (n : Int) (w : World) (h : Sign S w a c s) (hc : codeOk s n = true) :
    Calls Tryz.prog 133 #[.slice a s.length c, .int .i64 n] w fun e w' => e = .returned (.int .i64 (arC s n)) ∧ w = w' := by
  have m := h.le
  by_cases h1 : n < 0
  · have hf : arC s n = 0 := by simp [codeOk] at hc; rw [arC, if_pos (by omega)]
    have hf' := Lib.hid hf
    clear hf h hc
    go_enter Tryz.func133, Tryz.ntmps133
    go_wp2
    go_ret
    exact ⟨ret_int hf'.out.symm, rfl⟩
  · have h2 : 0 ≤ n ∧ n < s.length := by simp [codeOk] at hc; omega
    have hf : arC s n = (s[n.toNat]'(by omega)).2 := by
      rw [arC, if_neg (by omega), if_pos h2, List.getD_eq_getElem?_getD, List.getElem?_eq_getElem (by omega)]; rfl
    have hf' := Lib.hid hf
    obtain ⟨k, rfl⟩ := Int.eq_ofNat_of_zero_le h2.1
    have hk : k < s.length := by omega
    obtain ⟨b, o, rfl, -, -, q, -, -⟩ := h.sym k hk
    clear hf h hc
    go_enter Tryz.func133, Tryz.ntmps133
    go_wp2
    go_ret
    exact ⟨ret_int hf'.out.symm, rfl⟩
end Go.Proofs.YtpmnnoopoblpgaaGreat
