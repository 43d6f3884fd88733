/- Walks: names of symbols. -/
import Derived.Test.YtljkojpooajlhaaWalkB
namespace Go.Proofs.Ytljkojpooajlhaa
open Go Go.RowKit

def isLetR (r : Int) : Bool := (decide (97 ≤ r) && decide (r ≤ 122)) || (decide (65 ≤ r) && decide (r ≤ 90))

set_option maxHeartbeats 400000 in
theorem letters1_any (r : Int) (w : World) (h0 : 0 ≤ r) (h1 : r ≤ 2147483647) :
    Calls Try.prog 52 #[.int .i32 r] w fun e w' => e = .returned (.bool (!isLetR r)) ∧ w = w' := by
  by_cases ha : (decide (97 ≤ r) && decide (r ≤ 122)) = true
  · have hf : (!isLetR r) = false := by unfold isLetR; rw [ha]; rfl
    have hfH := Lib.hid hf
    clear hf
    go_enter Try.func52, Try.ntmps52
    go_wp2_with (go_at_call 28; refine (within_any _ _ _ _).mono ?_; rintro e w' ⟨rfl, rfl⟩)
    go_ret
    exact ⟨ret_bool hfH.out.symm, rfl⟩
  · have ha' : (decide (97 ≤ r) && decide (r ≤ 122)) = false := by simpa using ha
    have hf : (!isLetR r) = !(decide (65 ≤ r) && decide (r ≤ 90)) := by unfold isLetR; rw [ha']; rfl
    have hfH := Lib.hid hf
    clear hf ha
    go_enter Try.func52, Try.ntmps52
    go_wp2_with (go_at_call 28; refine (within_any _ _ _ _).mono ?_; rintro e w' ⟨rfl, rfl⟩)
    go_ret
    exact ⟨ret_bool (by rw [hfH.out]; simp), rfl⟩

theorem isLetR_byte (b : UInt8) : isLetR (b.toNat : Int) = isLet b := by
  rw [Bool.eq_iff_iff]; simp [isLetR, isLet]; omega
theorem isLetR_high (n : Nat) (h : 128 ≤ n) : isLetR n = false := by
  simp [isLetR]; omega
theorem let_step {s : ByteArray} {p : Nat} (h : p < s.size) (ht : (s.data.toList.take p).all isLet = true) (hb : isLet s[p] = true) : (s.data.toList.take (p + 1)).all isLet = true := by
  rw [List.take_succ_eq_append_getElem (by simpa using h), List.all_append, ht]
  simp only [List.all_cons, List.all_nil, Bool.and_true, Bool.true_and]
  exact hb
theorem let_no {s : ByteArray} {p : Nat} (h : p < s.size) (hb : isLet s[p] = false) : s.data.toList.all isLet = false := by
  rw [List.all_eq_false]
  exact ⟨s[p], by show s.data[p] ∈ _; simp, by simp [hb]⟩

def idxPost (s : ByteArray) (w : World) (e : Ending) (w' : World) : Prop := ∃ n : Int, e = .returned (.int .i64 n) ∧ -1 ≤ n ∧ decide (0 ≤ n) = !s.data.toList.all isLet ∧ Below w.heap.size w w'

set_option maxHeartbeats 400000 in
theorem indexFunc_any (s : ByteArray) (w : World) (_hs : s.size ≤ big) :
    Calls Try.prog 77 #[.string s, .func (.func 52) #[] #[], .bool true] w (idxPost s w) := by
  unfold big at _hs
  go_enter Try.func77, Try.ntmps77
  go_wp2
  go_loopw [7] (fun _ w' => ∃ pos : Nat, w' = w.iter s pos ∧ (s.data.toList.take pos).all isLet = true) (fun _ w' => s.size - w'.iterPos w.heap.size)
  case atStart => exact ⟨0, rfl, rfl⟩
  case round =>
    obtain ⟨pos, rfl, ht⟩ := hrel
    have htH := Lib.hid ht
    clear ht
    by_cases hp : pos < s.size
    · by_cases hl : isLet s[pos] = true
      · have h128 : (s[pos]'hp).toNat < 128 := by simp [isLet] at hl; omega
        have hnx : ∀ ty, (Instr.next (.pointer (some ⟨w.heap.size, 0, none⟩)) true ty).run Try.prog (w.iter s pos) = _ := fun ty => run_next_ascii w s pos ty hp h128
        have hb : (!isLetR ((s[pos]'hp).toNat : Int)) = false := by rw [isLetR_byte, hl]; rfl
        have hlH := Lib.hid hl
        clear hl
        go_wp2_with (go_at_call 52; refine (letters1_any _ _ (by omega) (by omega)).mono ?_; rintro e w' ⟨rfl, rfl⟩)
        go_roundw
        case rel => exact ⟨pos + 1, rfl, let_step hp htH.out hlH.out⟩
        case measure => simp; omega
      · have hl' : isLet s[pos] = false := by simpa using hl
        have hnx : ∀ ty, (Instr.next (.pointer (some ⟨w.heap.size, 0, none⟩)) true ty).run Try.prog (w.iter s pos) = _ := fun ty => run_next_any w s pos ty hp
        have hb : (!isLetR ((Utf8.decode s pos).1 : Int)) = true := by
          by_cases h128 : (s[pos]'hp).toNat < 128
          · rw [decode_ascii s pos hp h128, isLetR_byte, hl']; rfl
          · rw [isLetR_high _ (decode_high s pos hp (by omega)).1]; rfl
        have hle := decode_le s pos
        have hfin := Lib.hid (let_no hp hl')
        clear hl hl'
        go_wp2_with (go_at_call 52; refine (letters1_any _ _ (by omega) (by omega)).mono ?_; rintro e w' ⟨rfl, rfl⟩)
        go_ret
        exact ⟨pos, rfl, by omega, by rw [hfin.out]; simp, below1 _ _⟩
    · have hnx : ∀ ty, (Instr.next (.pointer (some ⟨w.heap.size, 0, none⟩)) true ty).run Try.prog (w.iter s pos) = _ := fun ty => run_next_end w s pos ty hp
      go_wp2
      go_ret
      refine ⟨-1, rfl, by omega, ?_, below1 _ _⟩
      have := htH.out
      rw [List.take_of_length_le (by simp; omega)] at this
      rw [this]; rfl

set_option maxHeartbeats 400000 in
theorem containsLetters_any (s : ByteArray) (w : World) (hs : s.size ≤ big) :
    Calls Try.prog 51 #[.string s, .func (.func 52) #[] #[]] w fun e w' => e = .returned (.bool (!s.data.toList.all isLet)) ∧ Below w.heap.size w w' := by
  go_enter Try.func51, Try.ntmps51
  go_wp2_with fail
  go_enter Try.func61, Try.ntmps61
  go_wp2_with (go_at_call 77; refine (indexFunc_any s _ hs).mono ?_; rintro e w' ⟨n, rfl, hn, hn2, hb⟩; have hn2H := Lib.hid hn2; clear hn2)
  go_ret
  exact ⟨ret_bool hn2H.out, hb⟩

set_option maxHeartbeats 400000 in
theorem letters_any (s : ByteArray) (w : World) (hs : s.size ≤ big) :
    Calls Try.prog 35 #[.string s] w fun e w' => e = .returned (.bool (nameOk s)) ∧ Below w.heap.size w w' := by
  have hs' := hs
  unfold big at hs'
  by_cases ha : (decide (1 ≤ s.size) && decide (s.size ≤ 8)) = true
  · have hf : nameOk s = s.data.toList.all isLet := by unfold nameOk; rw [ha]; rfl
    have hfH := Lib.hid hf
    clear hf
    have ha' : (decide (1 ≤ (s.size : Int)) && decide ((s.size : Int) ≤ 8)) = true := by simp at ha ⊢; omega
    clear ha
    go_enter Try.func35, Try.ntmps35
    go_wp2_with (first | (go_at_call 28; refine (within_any _ _ _ _).mono ?_; rintro e w' ⟨rfl, rfl⟩) | (go_at_call 51; refine (containsLetters_any s _ hs).mono ?_; rintro e w' ⟨rfl, hb⟩))
    go_ret
    exact ⟨ret_bool (by rw [hfH.out]; simp), hb⟩
  · have ha2 : (decide (1 ≤ s.size) && decide (s.size ≤ 8)) = false := by simpa using ha
    have hf : nameOk s = false := by unfold nameOk; rw [ha2]; rfl
    have hfH := Lib.hid hf
    clear hf ha
    have ha' : (decide (1 ≤ (s.size : Int)) && decide ((s.size : Int) ≤ 8)) = false := by simp at ha2 ⊢; omega
    clear ha2
    go_enter Try.func35, Try.ntmps35
    go_wp2_with (first | (go_at_call 28; refine (within_any _ _ _ _).mono ?_; rintro e w' ⟨rfl, rfl⟩) | (go_at_call 51; refine (containsLetters_any s _ hs).mono ?_; rintro e w' ⟨rfl, hb⟩))
    go_ret
    exact ⟨ret_bool hfH.out.symm, .refl _ _⟩

end Go.Proofs.Ytljkojpooajlhaa
