/- Walks: the order of lists. -/
import Derived.Test.YtnhaoalcpbefoaaGreatDoorWalkH
import Derived.Test.YtnhaoalcpbefoaaGreatDoorMath3
namespace Go.Proofs.YtnhaoalcpbefoaaGreatDoor
open Go Go.RowKit Go.Maps

theorem drew_more {w w1 : World} (h : Drew w w1) (n : Nat) : Drew w (w1.drewN n) := by obtain ⟨m, rfl⟩ := h; exact .mk2 _ _ _
set_option maxHeartbeats 1000000 in
theorem cmpInt_any (x y : Int) (w : World) :
    Calls Tryz.prog 67 #[.int .i64 x, .int .i64 y] w fun e w' => e = .returned (.int .i64 (cmpI x y)) ∧ w = w' := by
  have e1 : (x != x) = false := by simp
  have e2 : (y != y) = false := by simp
  rcases cmpI_cases x y with ⟨h, h'⟩ | ⟨h, h'⟩ | ⟨h, h'⟩ <;> rw [h] <;> clear h
  · go_enter Tryz.func67, Tryz.ntmps67
    go_wp2
    go_ret
    exact ⟨rfl, rfl⟩
  · have h'' : ¬ x < y := by omega
    go_enter Tryz.func67, Tryz.ntmps67
    go_wp2
    go_ret
    exact ⟨rfl, rfl⟩
  · subst h'
    have h'' : ¬ x < x := by omega
    go_enter Tryz.func67, Tryz.ntmps67
    go_wp2
    go_ret
    exact ⟨rfl, rfl⟩

set_option maxHeartbeats 1000000 in
theorem slCompare_any {S1 S2 : Nat → Prop} (a1 a2 : Option Addr) (c1 c2 : Nat) (l1 l2 : List Int) (w : World) (h1 : Ints S1 w a1 c1 l1) (h2 : Ints S2 w a2 c2 l2) :
    Calls Tryz.prog 68 #[.slice a1 l1.length c1, .slice a2 l2.length c2] w fun e w' => e = .returned (.int .i64 (lexc l1 l2)) ∧ w = w' := by
  have m1 := h1.le
  have m2 := h2.le
  go_enter Tryz.func68, Tryz.ntmps68
  go_wp2_with fail
  go_loop [11] (fun i => ∃ k : Nat, i = .int .i64 k ∧ k ≤ l1.length ∧ k ≤ l2.length ∧ lexc l1 l2 = lexc (l1.drop k) (l2.drop k)) (fun i => l1.length - (intOf i).toNat)
  case atStart => exact ⟨0, rfl, Nat.zero_le _, Nat.zero_le _, by simp⟩
  case round =>
    obtain ⟨k, rfl, hk1, hk2, hd⟩ := hrel
    by_cases hlt : k < l1.length
    · by_cases hlt2 : k < l2.length
      · obtain ⟨b1, o1, rfl, -, q1, -⟩ := h1.int k hlt
        obtain ⟨b2, o2, rfl, -, q2, -⟩ := h2.int k hlt2
        rw [lexc_drop hlt hlt2] at hd
        by_cases hc : cmpI l1[k] l2[k] = 0
        · rw [if_neg (by simpa using hc)] at hd
          have cc := cmpInt_any l1[k] l2[k] w
          rw [hc] at cc
          have ccH := Lib.hid cc
          have hdH := Lib.hid hd
          clear hc hd cc h1 h2
          go_wp2_with (go_at_call 67; refine ccH.out.mono ?_; rintro e w' ⟨rfl, rfl⟩)
          go_round
          case rel => exact ⟨k + 1, by go_num, by omega, by omega, hdH.out⟩
          case measure => simp [intOf]; omega
        · rw [if_pos (by simpa using hc)] at hd
          have cc := cmpInt_any l1[k] l2[k] w
          generalize cmpI l1[k] l2[k] = v at *
          have hv : (v != 0) = true := by simpa using hc
          have ccH := Lib.hid cc
          have hdH := Lib.hid hd
          clear hc hd cc h1 h2
          go_wp2_with (go_at_call 67; refine ccH.out.mono ?_; rintro e w' ⟨rfl, rfl⟩)
          go_ret
          exact ⟨ret_int hdH.out.symm, rfl⟩
      · have hf : lexc l1 l2 = 1 := by rw [hd, List.drop_eq_nil_of_le (by omega : l2.length ≤ k), List.drop_eq_getElem_cons hlt]; rfl
        have hfH := Lib.hid hf
        obtain ⟨b1, o1, rfl, -, q1, -⟩ := h1.int k hlt
        clear hf hd h1 h2
        go_wp2_with fail
        go_ret
        exact ⟨ret_int hfH.out.symm, rfl⟩
    · by_cases hl : l1.length < l2.length
      · have hf : lexc l1 l2 = -1 := by rw [hd, List.drop_eq_nil_of_le (by omega : l1.length ≤ k), List.drop_eq_getElem_cons (by omega : k < l2.length)]; rfl
        have hfH := Lib.hid hf
        clear hf hd h1 h2
        go_wp2_with fail
        go_ret
        exact ⟨ret_int hfH.out.symm, rfl⟩
      · have hf : lexc l1 l2 = 0 := by rw [hd, List.drop_eq_nil_of_le (by omega : l1.length ≤ k), List.drop_eq_nil_of_le (by omega : l2.length ≤ k)]; rfl
        have hfH := Lib.hid hf
        clear hf hd h1 h2
        go_wp2_with fail
        go_ret
        exact ⟨ret_int hfH.out.symm, rfl⟩

def orI (l : List Int) : Int := match l with | [] => 0 | x :: r => if x ≠ 0 then x else orI r
theorem orI_drop {l : List Int} {k : Nat} (h : k < l.length) : orI (l.drop k) = if l[k] ≠ 0 then l[k] else orI (l.drop (k + 1)) := by
  rw [List.drop_eq_getElem_cons h, orI]
set_option maxHeartbeats 1000000 in
theorem Or_any {S : Nat → Prop} (a : Option Addr) (c : Nat) (l : List Int) (w : World) (h : Ints S w a c l) :
    Calls Tryz.prog 66 #[.slice a l.length c] w fun e w' => e = .returned (.int .i64 (orI l)) ∧ w = w' := by
  have m := h.le
  go_enter Tryz.func66, Tryz.ntmps66
  go_wp2_with fail
  go_loop [8] (fun i => ∃ k : Nat, i = .int .i64 k ∧ k ≤ l.length ∧ orI l = orI (l.drop k)) (fun i => l.length - (intOf i).toNat)
  case atStart => exact ⟨0, rfl, Nat.zero_le _, by simp⟩
  case round =>
    obtain ⟨k, rfl, hk, hd⟩ := hrel
    by_cases hlt : k < l.length
    · obtain ⟨b, o, rfl, -, q, -⟩ := h.int k hlt
      rw [orI_drop hlt] at hd
      by_cases hx : l[k] = 0
      · rw [if_neg (by simpa using hx)] at hd
        have hdH := Lib.hid hd
        have hb : (l[k] != 0) = false := by simpa using hx
        clear hd h hx
        go_wp2_with fail
        go_round
        case rel => exact ⟨k + 1, by go_num, by omega, hdH.out⟩
        case measure => simp [intOf]; omega
      · rw [if_pos (by simpa using hx)] at hd
        have hdH := Lib.hid hd
        have hb : (l[k] != 0) = true := by simpa using hx
        clear hd h hx
        go_wp2_with fail
        go_ret
        exact ⟨ret_int hdH.out.symm, rfl⟩
    · have hf : orI l = 0 := by rw [hd, List.drop_eq_nil_of_le (by omega)]; rfl
      have hfH := Lib.hid hf
      clear hf hd h
      go_wp2_with fail
      go_ret
      exact ⟨ret_int hfH.out.symm, rfl⟩

set_option maxHeartbeats 1000000 in
theorem Compare_any {S1 S2 : Nat → Prop} (a1 a2 : Option Addr) (c1 c2 : Nat) (l1 l2 : List Int) (w : World) (h1 : Ints S1 w a1 c1 l1) (h2 : Ints S2 w a2 c2 l2) :
    Calls Tryz.prog 30 #[.slice a1 l1.length c1, .slice a2 l2.length c2] w fun e w' => e = .returned (.int .i64 (compareT l1 l2)) ∧ Below w.heap.size w w' := by
  have m1 := h1.le
  have m2 := h2.le
  have ho := compareT_or l1 l2
  have hr := lexc_range l1 l2
  have c1 := cmpInt_any l1.length l2.length w
  have hc : -1 ≤ cmpI l1.length l2.length ∧ cmpI l1.length l2.length ≤ 1 := by rcases cmpI_cases (l1.length : Int) l2.length with ⟨h, _⟩ | ⟨h, _⟩ | ⟨h, _⟩ <;> rw [h] <;> omega
  have c2 := slCompare_any a1 a2 _ _ l1 l2 w h1 h2
  generalize cmpI l1.length l2.length = x at *
  generalize lexc l1 l2 = y at *
  have hI := Ints.new w [x, y] 3 (by unfold big; simp) (by intro z hz; simp at hz; unfold inRange; rcases hz with rfl | rfl <;> omega)
  have c3 := Or_any _ _ [x, y] _ hI
  have he : orI [x, y] = compareT l1 l2 := by
    rw [← ho]; simp only [orI]
    by_cases hx : x = 0 <;> by_cases hy : y = 0 <;> simp [hx, hy]
  rw [he] at c3
  have c1H := Lib.hid c1
  have c2H := Lib.hid c2
  have c3H := Lib.hid c3
  clear c1 c2 c3 he ho hI h1 h2
  go_enter Tryz.func30, Tryz.ntmps30
  go_wp2_with fail
  refine c1H.out.mono ?_
  rintro e w1 ⟨rfl, rfl⟩
  go_wp2_with fail
  refine c2H.out.mono ?_
  rintro e w1 ⟨rfl, rfl⟩
  go_wp2_with fail
  refine c3H.out.mono ?_
  rintro e w1 ⟨rfl, rfl⟩
  go_wp2_with fail
  go_ret
  exact ⟨rfl, below1 _ _⟩

set_option maxHeartbeats 1000000 in
theorem rCompare_any {S1 S2 : Nat → Prop} (a1 a2 : Option Addr) (c1 c2 : Nat) (l1 l2 : List Int) (w : World) (h1 : Ints S1 w a1 c1 l1) (h2 : Ints S2 w a2 c2 l2) :
    Calls Tryz.prog 101 #[.slice a1 l1.length c1, .slice a2 l2.length c2] w fun e w' => e = .returned (.int .i64 (compareT l1 l2)) ∧ Drew w w' := by
  have m1 := h1.le
  have m2 := h2.le
  by_cases ha : l1.length < l2.length
  · have hf : compareT l1 l2 = -1 := by rw [compareT, if_pos ha]
    have hfH := Lib.hid hf
    clear hf
    go_enter Tryz.func101, Tryz.ntmps101
    go_wp2_with fail
    go_ret
    exact ⟨ret_int hfH.out.symm, .refl _⟩
  · by_cases hb : l2.length < l1.length
    · have hf : compareT l1 l2 = 1 := by rw [compareT, if_neg ha, if_pos hb]
      have hfH := Lib.hid hf
      clear hf
      go_enter Tryz.func101, Tryz.ntmps101
      go_wp2_with fail
      go_ret
      exact ⟨ret_int hfH.out.symm, .refl _⟩
    · have hf : compareT l1 l2 = lexc l1 l2 := by rw [compareT, if_neg ha, if_neg hb]
      have hfH := Lib.hid hf
      have hle : l1.length ≤ l2.length := by omega
      clear hf
      go_enter Tryz.func101, Tryz.ntmps101
      go_wp2_with fail
      go_loopw [5] (fun i wr => ∃ k : Nat, i = .int .i64 k ∧ k ≤ l1.length ∧ lexc l1 l2 = lexc (l1.drop k) (l2.drop k) ∧ Drew w wr) (fun i _ => l1.length - (intOf i).toNat)
      case atStart => exact ⟨0, rfl, Nat.zero_le _, by simp, .refl _⟩
      case round =>
        obtain ⟨k, rfl, hk, hd, n, rfl⟩ := hrel
        by_cases hlt : k < l1.length
        · have hlt2 : k < l2.length := by omega
          obtain ⟨b1, o1, rfl, -, q1, -⟩ := h1.int k hlt
          obtain ⟨b2, o2, rfl, -, q2, -⟩ := h2.int k hlt2
          rw [lexc_drop hlt hlt2] at hd
          clear h1 h2
          rcases cmpI_cases l1[k] l2[k] with ⟨h, h'⟩ | ⟨h, h'⟩ | ⟨h, h'⟩
          · rw [h, if_pos (by omega)] at hd
            have hdH := Lib.hid hd
            clear hd h
            go_wp2_with fail
            go_quiet (fail)
            all_goals go_wp2_with fail
            go_ret
            exact ⟨ret_int (by rw [hfH.out, hdH.out]), .mk2 _ _ _⟩
          · rw [h, if_pos (by omega)] at hd
            have hdH := Lib.hid hd
            have hn1 : ¬ l1[k] < l2[k] := by omega
            clear hd h
            go_wp2_with fail
            go_quiet (fail)
            all_goals go_wp2_with fail
            go_quiet (fail)
            all_goals go_wp2_with fail
            go_ret
            exact ⟨ret_int (by rw [hfH.out, hdH.out]), drew_more (drew_more (.mk _ _) _) _⟩
          · rw [h, if_neg (by omega)] at hd
            have hdH := Lib.hid hd
            have hn1 : ¬ l1[k] < l2[k] := by omega
            have hn2 : ¬ l2[k] < l1[k] := by omega
            clear hd h h'
            go_wp2_with fail
            go_quiet (fail)
            all_goals go_wp2_with fail
            go_quiet (fail)
            all_goals go_wp2_with fail
            exact ⟨⟨k + 1, by go_num, by omega, hdH.out, .mk _ _⟩, by simp [intOf]; omega⟩
        · have hd' : lexc l1 l2 = 0 := by rw [hd, List.drop_eq_nil_of_le (by omega : l1.length ≤ k), List.drop_eq_nil_of_le (by omega : l2.length ≤ k)]; rfl
          have hdH := Lib.hid hd'
          clear hd hd' h1 h2
          go_wp2_with fail
          go_ret
          exact ⟨ret_int (by rw [hfH.out, hdH.out]), .mk _ _⟩
end Go.Proofs.YtnhaoalcpbefoaaGreatDoor
