/- Walks: names of symbols. -/
import Derived.Test.YtpmnnoopoblpgaaGreatWalkB
namespace Go.Proofs.YtpmnnoopoblpgaaGreat
open Go Go.RowKit

def isLetR (r : Int) : Bool := (decide (97 ≤ r) && decide (r ≤ 122)) || (decide (65 ≤ r) && decide (r ≤ 90))

set_option maxHeartbeats 400000 in
theorem letters1_any (r : Int) (w : World) (h0 : 0 ≤ r) (h1 : r ≤ 2147483647) :
    Calls Tryz.prog 177 #[.int .i32 r] w fun e w' => e = .returned (.bool (!isLetR r)) ∧ w = w' := by
  by_cases ha : (decide (97 ≤ r) && decide (r ≤ 122)) = true
  · have hf : (!isLetR r) = false := by unfold isLetR; rw [ha]; rfl
    have hfH := Lib.hid hf
    clear hf
    go_enter Tryz.func177, Tryz.ntmps177
    go_wp2_with (go_at_call 141; refine (within_any _ _ _ _).mono ?_; rintro e w' ⟨rfl, rfl⟩)
    go_ret
    exact ⟨ret_bool hfH.out.symm, rfl⟩
  · have ha' : (decide (97 ≤ r) && decide (r ≤ 122)) = false := by simpa using ha
    have hf : (!isLetR r) = !(decide (65 ≤ r) && decide (r ≤ 90)) := by unfold isLetR; rw [ha']; rfl
    have hfH := Lib.hid hf
    clear hf ha
    go_enter Tryz.func177, Tryz.ntmps177
    go_wp2_with (go_at_call 141; refine (within_any _ _ _ _).mono ?_; rintro e w' ⟨rfl, rfl⟩)
    go_ret
    exact ⟨ret_bool (by rw [hfH.out]; simp), rfl⟩

theorem isLetR_byte (b : UInt8) : isLetR (b.toNat : Int) = isLet b := by
  rw [Bool.eq_iff_iff]; simp [isLetR, isLet]; omega
theorem isLetR_high (n : Nat) (h : 128 ≤ n) : isLetR n = false := by
  simp [isLetR]; omega
theorem let_step {s : ByteArray} {p : Nat} (h : p < s.size) (ht : (s.data.toList.take p).all isLet = true) (hb : isLet s[p] = true) : (s.data.toList.take (p + 1)).all isLet = true := by
  rw [List.take_succ_eq_append_getElem (by simpa using h), List.all_append, ht]
  simp only [List.all_cons, List.all_nil, Bool.and_true, Bool.true_and]
  exact hb
theorem let_no {s : ByteArray} {p : Nat} (h : p < s.size) (hb : isLet s[p] = false) : s.data.toList.all isLet = false := by
  rw [List.all_eq_false]
  exact ⟨s[p], by show s.data[p] ∈ _; simp, by simp [hb]⟩

def idxPost (s : ByteArray) (w : World) (e : Ending) (w' : World) : Prop := ∃ n : Int, e = .returned (.int .i64 n) ∧ -1 ≤ n ∧ decide (0 ≤ n) = !s.data.toList.all isLet ∧ Below w.heap.size w w'

set_option maxHeartbeats 400000 in
theorem indexFunc_any (s : ByteArray) (w : World) (_hs : s.size ≤ big) :
    Calls Tryz.prog 227 #[.string s, .func (.func 177) #[] #[], .bool true] w (idxPost s w) := by
  unfold big at _hs
  go_enter Tryz.func227, Tryz.ntmps227
  go_wp2
  go_loopw [7] (fun _ w' => ∃ pos : Nat, w' = w.iter s pos ∧ (s.data.toList.take pos).all isLet = true) (fun _ w' => s.size - w'.iterPos w.heap.size)
  case atStart => exact ⟨0, rfl, rfl⟩
  case round =>
    obtain ⟨pos, rfl, ht⟩ := hrel
    have htH := Lib.hid ht
    clear ht
    by_cases hp : pos < s.size
    · by_cases hl : isLet s[pos] = true
      · have h128 : (s[pos]'hp).toNat < 128 := by simp [isLet] at hl; omega
        have hnx : ∀ ty, (Instr.next (.pointer (some ⟨w.heap.size, 0, none⟩)) true ty).run Tryz.prog (w.iter s pos) = _ := fun ty => run_next_ascii w s pos ty hp h128
        have hb : (!isLetR ((s[pos]'hp).toNat : Int)) = false := by rw [isLetR_byte, hl]; rfl
        have hlH := Lib.hid hl
        clear hl
        go_wp2_with (go_at_call 177; refine (letters1_any _ _ (by omega) (by omega)).mono ?_; rintro e w' ⟨rfl, rfl⟩)
        go_roundw
        case rel => exact ⟨pos + 1, rfl, let_step hp htH.out hlH.out⟩
        case measure => simp; omega
      · have hl' : isLet s[pos] = false := by simpa using hl
        have hnx : ∀ ty, (Instr.next (.pointer (some ⟨w.heap.size, 0, none⟩)) true ty).run Tryz.prog (w.iter s pos) = _ := fun ty => run_next_any w s pos ty hp
        have hb : (!isLetR ((Utf8.decode s pos).1 : Int)) = true := by
          by_cases h128 : (s[pos]'hp).toNat < 128
          · rw [decode_ascii s pos hp h128, isLetR_byte, hl']; rfl
          · rw [isLetR_high _ (decode_high s pos hp (by omega)).1]; rfl
        have hle := decode_le s pos
        have hfin := Lib.hid (let_no hp hl')
        clear hl hl'
        go_wp2_with (go_at_call 177; refine (letters1_any _ _ (by omega) (by omega)).mono ?_; rintro e w' ⟨rfl, rfl⟩)
        go_ret
        exact ⟨pos, rfl, by omega, by rw [hfin.out]; simp, below1 _ _⟩
    · have hnx : ∀ ty, (Instr.next (.pointer (some ⟨w.heap.size, 0, none⟩)) true ty).run Tryz.prog (w.iter s pos) = _ := fun ty => run_next_end w s pos ty hp
      go_wp2
      go_ret
      refine ⟨-1, rfl, by omega, ?_, below1 _ _⟩
      have := htH.out
      rw [List.take_of_length_le (by simp; omega)] at this
      rw [this]; rfl

set_option maxHeartbeats 400000 in
theorem containsLetters_any (s : ByteArray) (w : World) (hs : s.size ≤ big) :
    Calls Tryz.prog 176 #[.string s, .func (.func 177) #[] #[]] w fun e w' => e = .returned (.bool (!s.data.toList.all isLet)) ∧ Below w.heap.size w w' := by
  go_enter Tryz.func176, Tryz.ntmps176
  go_wp2_with fail
  go_enter Tryz.func213, Tryz.ntmps213
  go_wp2_with (go_at_call 227; refine (indexFunc_any s _ hs).mono ?_; rintro e w' ⟨n, rfl, hn, hn2, hb⟩; have hn2H := Lib.hid hn2; clear hn2)
  go_ret
  exact ⟨ret_bool hn2H.out, hb⟩

set_option maxHeartbeats 400000 in
theorem letters_any (s : ByteArray) (w : World) (hs : s.size ≤ big) :
    Calls Tryz.prog 140 #[.string s] w fun e w' => e = .returned (.bool (nameOk s)) ∧ Below w.heap.size w w' := by
  have hs' := hs
  unfold big at hs'
  by_cases ha : (decide (1 ≤ s.size) && decide (s.size ≤ 8)) = true
  · have hf : nameOk s = s.data.toList.all isLet := by unfold nameOk; rw [ha]; rfl
    have hfH := Lib.hid hf
    clear hf
    have ha' : (decide (1 ≤ (s.size : Int)) && decide ((s.size : Int) ≤ 8)) = true := by simp at ha ⊢; omega
    clear ha
    go_enter Tryz.func140, Tryz.ntmps140
    go_wp2_with (first | (go_at_call 141; refine (within_any _ _ _ _).mono ?_; rintro e w' ⟨rfl, rfl⟩) | (go_at_call 176; refine (containsLetters_any s _ hs).mono ?_; rintro e w' ⟨rfl, hb⟩))
    go_ret
    exact ⟨ret_bool (by rw [hfH.out]; simp), hb⟩
  · have ha2 : (decide (1 ≤ s.size) && decide (s.size ≤ 8)) = false := by simpa using ha
    have hf : nameOk s = false := by unfold nameOk; rw [ha2]; rfl
    have hfH := Lib.hid hf
    clear hf ha
    have ha' : (decide (1 ≤ (s.size : Int)) && decide ((s.size : Int) ≤ 8)) = false := by simp at ha2 ⊢; omega
    clear ha2
    go_enter Tryz.func140, Tryz.ntmps140
    go_wp2_with (first | (go_at_call 141; refine (within_any _ _ _ _).mono ?_; rintro e w' ⟨rfl, rfl⟩) | (go_at_call 176; refine (containsLetters_any s _ hs).mono ?_; rintro e w' ⟨rfl, hb⟩))
    go_ret
    exact ⟨ret_bool hfH.out.symm, .refl _ _⟩

set_option maxHeartbeats 400000 in
theorem isName_any (s : ByteArray) (w : World) (hs : s.size ≤ big) :
    Calls Tryz.prog 142 #[.string s] w fun e w' => e = .returned (.bool (nameOk s)) ∧ w = w' := by
  unfold big at hs
  go_enter Tryz.func142, Tryz.ntmps142
  go_wp2
  go_loop [3] (fun i => ∃ pos : Nat, i = .int .i64 pos ∧ pos ≤ s.size ∧ (s.data.toList.take pos).all isLet = true) (fun i => s.size - (intOf i).toNat)
  case atStart => exact ⟨0, rfl, Nat.zero_le _, rfl⟩
  case round =>
    obtain ⟨pos, rfl, hpl, ht⟩ := hrel
    have htH := Lib.hid ht
    clear ht
    by_cases hp : pos < s.size
    · have h256 := (s[pos]'hp).toNat_lt
      by_cases hl : isLet s[pos] = true
      · have hlH := Lib.hid hl
        by_cases hlo : (decide (97 ≤ ((s[pos]'hp).toNat : Int)) && decide (((s[pos]'hp).toNat : Int) ≤ 122)) = true
        · clear hl
          go_wp2_with (go_at_call 132; refine (rwithin_any _ _ _ _).mono ?_; rintro e w' ⟨rfl, rfl⟩)
          go_round
          case rel => exact ⟨pos + 1, by go_num, by omega, let_step hp htH.out hlH.out⟩
          case measure => simp [intOf]; omega
        · have hlo2 : (decide (97 ≤ ((s[pos]'hp).toNat : Int)) && decide (((s[pos]'hp).toNat : Int) ≤ 122)) = false := by simpa using hlo
          have hup : (decide (65 ≤ ((s[pos]'hp).toNat : Int)) && decide (((s[pos]'hp).toNat : Int) ≤ 90)) = true := by simp [isLet] at hl hlo ⊢; omega
          clear hl hlo
          go_wp2_with (go_at_call 132; refine (rwithin_any _ _ _ _).mono ?_; rintro e w' ⟨rfl, rfl⟩)
          go_round
          case rel => exact ⟨pos + 1, by go_num, by omega, let_step hp htH.out hlH.out⟩
          case measure => simp [intOf]; omega
      · have hl' : isLet s[pos] = false := by simpa using hl
        have hlo2 : (decide (97 ≤ ((s[pos]'hp).toNat : Int)) && decide (((s[pos]'hp).toNat : Int) ≤ 122)) = false := by simp [isLet] at hl' ⊢; omega
        have hup : (decide (65 ≤ ((s[pos]'hp).toNat : Int)) && decide (((s[pos]'hp).toNat : Int) ≤ 90)) = false := by simp [isLet] at hl' ⊢; omega
        have hfin : nameOk s = false := by unfold nameOk; rw [let_no hp hl']; simp
        have hfH := Lib.hid hfin
        clear hl hl' hfin
        go_wp2_with (go_at_call 132; refine (rwithin_any _ _ _ _).mono ?_; rintro e w' ⟨rfl, rfl⟩)
        go_ret
        exact ⟨ret_bool hfH.out.symm, rfl⟩
    · go_wp2_with (go_at_call 132; refine (rwithin_any _ _ _ _).mono ?_; rintro e w' ⟨rfl, rfl⟩)
      go_ret
      refine ⟨ret_bool ?_, rfl⟩
      have := htH.out
      rw [List.take_of_length_le (by simp; omega)] at this
      rw [Bool.eq_iff_iff]; simp [nameOk, this]; omega
end Go.Proofs.YtpmnnoopoblpgaaGreat
