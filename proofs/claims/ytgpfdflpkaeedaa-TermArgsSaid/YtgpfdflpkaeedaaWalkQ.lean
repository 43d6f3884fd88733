/- Walks: Built, of both. -/
import Derived.Test.YtgpfdflpkaeedaaWalkP
import Derived.Test.YtgpfdflpkaeedaaWalkJ
namespace Go.Proofs.Ytgpfdflpkaeedaa
open Go Go.RowKit Go.Maps

theorem Drew.trans {a b c : World} (h : Drew a b) (h2 : Drew b c) : Drew a c := by obtain ⟨n, rfl⟩ := h2; exact drew_more h n
set_option maxHeartbeats 1000000 in
theorem rAllValid_any {S1 S2 : Nat → Prop} (a1 a2 : Option Addr) (c1 c2 : Nat) (s : Sg) (L : List (List Int)) (w : World) (h1 : Sign S1 w a1 c1 s) (h2 : Terms S2 w a2 c2 L) :
    Calls Try.prog 71 #[.slice a1 s.length c1, .slice a2 L.length c2] w fun e w' => e = .returned (.bool (L.all (okT s))) ∧ Drew w w' := by
  have m2 := h2.le
  go_enter Try.func71, Try.ntmps71
  go_wp2_with fail
  go_loopw [5] (fun i wr => ∃ k : Nat, k ≤ L.length ∧ i = .int .i64 k ∧ (L.take k).all (okT s) = true ∧ Drew w wr) (fun i _ => L.length - (intOf i).toNat)
  case atStart => exact ⟨0, Nat.zero_le _, rfl, rfl, .refl _⟩
  case round =>
    obtain ⟨k, hk, rfl, hall, n, rfl⟩ := hrel
    by_cases hlt : k < L.length
    · obtain ⟨b, o, a', c', rfl, -, q, hI⟩ := h2.sub k hlt
      have v1 := rValid_any a1 a' c1 c' s L[k] (w.drewN n) (h1.drewN n) (hI.drewN n)
      obtain ⟨x, hx⟩ : ∃ x, okT s L[k] = x := ⟨_, rfl⟩
      rw [hx] at v1
      have v1H := Lib.hid v1
      have hallH := Lib.hid hall
      have hxH := Lib.hid hx
      clear v1 hall hI h1 h2 hx
      cases x with
      | true =>
        go_wp2_with (go_at_call 26; refine v1H.out.mono ?_; rintro e w1 ⟨rfl, n2, rfl⟩)
        go_roundw
        case rel => exact ⟨k + 1, by omega, by go_num, by rw [List.take_succ_eq_append_getElem hlt, List.all_append, hallH.out]; simp [hxH.out], .mk _ _⟩
        case measure => simp [intOf]; omega
      | false =>
        go_wp2_with (go_at_call 26; refine v1H.out.mono ?_; rintro e w1 ⟨rfl, n2, rfl⟩)
        go_ret
        have hf : L.all (okT s) = false := by rw [List.all_eq_false]; exact ⟨L[k], List.getElem_mem hlt, by rw [hxH.out]; simp⟩
        exact ⟨ret_bool hf.symm, .mk _ _⟩
    · rw [List.take_of_length_le (by omega)] at hall
      have hallH := Lib.hid hall
      clear hall
      go_wp2_with fail
      go_ret
      exact ⟨ret_bool hallH.out.symm, .mk _ _⟩

def idxTPost (s : Sg) (L : List (List Int)) (w : World) (e : Ending) (w' : World) : Prop := ∃ n : Int, e = .returned (.int .i64 n) ∧ -1 ≤ n ∧ decide (0 ≤ n) = !(L.all (okT s)) ∧ Below w.heap.size w w'
set_option maxHeartbeats 1000000 in
theorem IndexBad_any {S1 S2 : Nat → Prop} (a1 a2 : Option Addr) (c1 c2 : Nat) (s : Sg) (L : List (List Int)) (bx : Nat) (w : World) (h1 : Sign S1 w a1 c1 s) (h2 : Terms S2 w a2 c2 L) (hq : w.cell? ⟨bx, 0, none⟩ = some (.slice a1 s.length c1)) :
    Calls Try.prog 87 #[.slice a2 L.length c2, .func (.func 69) #[] #[.pointer (some ⟨bx, 0, none⟩)]] w (idxTPost s L w) := by
  have m2 := h2.le
  have hbx : bx < w.heap.size := World.block_lt_of_cell? w _ hq
  go_enter Try.func87, Try.ntmps87
  go_wp2_with fail
  go_loopw [8] (fun i wr => ∃ k : Nat, k ≤ L.length ∧ i = .int .i64 k ∧ (L.take k).all (okT s) = true ∧ Below w.heap.size w wr) (fun i _ => L.length - (intOf i).toNat)
  case atStart => exact ⟨0, Nat.zero_le _, rfl, rfl, .refl _ _⟩
  case round =>
    obtain ⟨k, hk, rfl, hall, hB⟩ := hrel
    by_cases hlt : k < L.length
    · obtain ⟨b, o, a', c', rfl, -, q, hI⟩ := h2.sub k hlt
      have q' := (hB.cell (p := ⟨b, o + k, none⟩) (World.block_lt_of_cell? _ _ q)).trans q
      have hq' := (hB.cell (p := ⟨bx, 0, none⟩) hbx).trans hq
      have v1 := Valid_any a1 a' c1 c' s L[k] wr (h1.below hB) (hI.below hB)
      obtain ⟨x, hx⟩ : ∃ x, okT s L[k] = x := ⟨_, rfl⟩
      rw [hx] at v1
      have cf : Calls Try.prog 69 #[.slice a' L[k].length c', .pointer (some ⟨bx, 0, none⟩)] wr fun e w' => e = .returned (.bool (!x)) ∧ Below wr.heap.size wr w' := by
        have v1H := Lib.hid v1
        clear v1 hI h1 h2 hx hB hall q hq
        go_enter Try.func69, Try.ntmps69
        go_wp2_with (go_at_call 16; refine v1H.out.mono ?_; rintro e w1 ⟨rfl, hb⟩)
        go_ret
        exact ⟨rfl, hb⟩
      have cfH := Lib.hid cf
      have hallH := Lib.hid hall
      have hxH := Lib.hid hx
      have hBH := Lib.hid hB
      clear v1 cf hall hI h1 h2 hx hB q hq
      cases x with
      | true =>
        go_wp2_with (go_at_call 69; refine cfH.out.mono ?_; rintro e w1 ⟨rfl, hb⟩)
        go_roundw
        case rel => exact ⟨k + 1, by omega, by go_num, by rw [List.take_succ_eq_append_getElem hlt, List.all_append, hallH.out]; simp [hxH.out], hBH.out.trans (hb.mono hBH.out.size)⟩
        case measure => simp [intOf]; omega
      | false =>
        go_wp2_with (go_at_call 69; refine cfH.out.mono ?_; rintro e w1 ⟨rfl, hb⟩)
        go_ret
        have hf : L.all (okT s) = false := by rw [List.all_eq_false]; exact ⟨L[k], List.getElem_mem hlt, by rw [hxH.out]; simp⟩
        exact ⟨k, rfl, by omega, by rw [hf]; simp, hBH.out.trans (hb.mono hBH.out.size)⟩
    · rw [List.take_of_length_le (by omega)] at hall
      have hallH := Lib.hid hall
      clear hall
      go_wp2_with fail
      go_ret
      exact ⟨-1, rfl, by omega, by rw [hallH.out]; rfl, hB⟩

def builtE (s : Sg) (y : Int) (L : List (List Int)) : List Int × Int :=
  if okSign s = true ∧ L.all (okT s) = true then
    (if 0 ≤ y ∧ y < s.length then (if (L.length : Int) = (s.getD y.toNat default).2 then (if 1 + L.flatten.length ≤ 60 then (y :: L.flatten, 0) else ([], 4)) else ([], 9)) else ([], 5))
  else ([], 1)
theorem builtE_1 {s : Sg} {y : Int} {L : List (List Int)} (h : ¬ (okSign s = true ∧ L.all (okT s) = true)) : builtE s y L = ([], 1) := by rw [builtE, if_neg h]
theorem builtE_5 {s : Sg} {y : Int} {L : List (List Int)} (h : okSign s = true ∧ L.all (okT s) = true) (h1 : ¬ (0 ≤ y ∧ y < s.length)) : builtE s y L = ([], 5) := by rw [builtE, if_pos h, if_neg h1]
theorem builtE_9 {s : Sg} {y : Int} {L : List (List Int)} (h : okSign s = true ∧ L.all (okT s) = true) (h1 : 0 ≤ y ∧ y < s.length) (h2 : ¬ (L.length : Int) = (s.getD y.toNat default).2) : builtE s y L = ([], 9) := by rw [builtE, if_pos h, if_pos h1, if_neg h2]
theorem builtE_4 {s : Sg} {y : Int} {L : List (List Int)} (h : okSign s = true ∧ L.all (okT s) = true) (h1 : 0 ≤ y ∧ y < s.length) (h2 : (L.length : Int) = (s.getD y.toNat default).2) (h3 : ¬ (1 + L.flatten.length ≤ 60)) : builtE s y L = ([], 4) := by rw [builtE, if_pos h, if_pos h1, if_pos h2, if_neg h3]
theorem builtE_0 {s : Sg} {y : Int} {L : List (List Int)} (h : okSign s = true ∧ L.all (okT s) = true) (h1 : 0 ≤ y ∧ y < s.length) (h2 : (L.length : Int) = (s.getD y.toNat default).2) (h3 : 1 + L.flatten.length ≤ 60) : builtE s y L = (y :: L.flatten, 0) := by rw [builtE, if_pos h, if_pos h1, if_pos h2, if_pos h3]
theorem rbelow {W W' : World} {l : List Int × Int} {e : Ending} (h : retE l W e W') : Below W.heap.size W W' := by obtain ⟨_, _, _, h⟩ := h; exact h

def brRel (y : Int) (L : List (List Int)) (w : World) (B : Nat) (out i : Value) (wr : World) : Prop := ∃ k : Nat, i = .int .i64 k ∧ k ≤ L.length ∧ OwnI wr B out (y :: (L.take k).flatten) ∧ Below B w wr
set_option maxHeartbeats 2000000 in
theorem rBuilt_any {S1 S2 : Nat → Prop} (a1 a2 : Option Addr) (c1 c2 : Nat) (s : Sg) (y : Int) (L : List (List Int)) (w : World) (h1 : Sign S1 w a1 c1 s) (h2 : Terms S2 w a2 c2 L) (hy : inRange y) (hl : L.flatten.length + 1 ≤ lim) :
    Calls Try.prog 39 #[.slice a1 s.length c1, .int .i64 y, .slice a2 L.length c2] w (retE (builtE s y L) w) := by
  have m1 := h1.le
  have m2 := h2.le
  unfold lim at hl
  have v1 := fun W (hd : Drew w W) => rValidSign_any a1 c1 s W (h1.drew hd)
  have v2 := fun W (hd : Drew w W) => rAllValid_any a1 a2 c1 c2 s L W (h1.drew hd) (h2.drew hd)
  obtain ⟨x1, hx1⟩ : ∃ x, okSign s = x := ⟨_, rfl⟩
  obtain ⟨x2, hx2⟩ : ∃ x, L.all (okT s) = x := ⟨_, rfl⟩
  rw [hx1] at v1
  rw [hx2] at v2
  have v1H := Lib.hid v1
  have v2H := Lib.hid v2
  clear v1 v2
  have cw := fun W => rwithin_any y 0 ((s.length : Int) - 1) W
  by_cases hok : x1 = true ∧ x2 = true
  · obtain ⟨rfl, rfl⟩ := hok
    by_cases hw : 0 ≤ y ∧ y < s.length
    · obtain ⟨n, rfl⟩ := Int.eq_ofNat_of_zero_le hw.1
      have hn : n < s.length := by omega
      have hb1 : (decide ((0 : Int) ≤ (n : Int)) && decide ((n : Int) ≤ (s.length : Int) - 1)) = true := by simp; omega
      simp only [hb1] at cw
      have cwH := Lib.hid cw
      obtain ⟨b, o, rfl, -, -, q, -, -⟩ := h1.sym n hn
      have hg : (s.getD (n : Int).toNat default).2 = s[n].2 := by rw [Int.toNat_natCast, List.getD_eq_getElem?_getD, List.getElem?_eq_getElem hn]; rfl
      obtain ⟨ay, hay⟩ : ∃ ay, s[n].2 = ay := ⟨_, rfl⟩
      rw [hay] at q hg
      by_cases hlen : (L.length : Int) = ay
      · subst hlen
        have hE0 : 1 + L.flatten.length ≤ 60 → builtE s n L = ((n : Int) :: L.flatten, 0) := fun h => builtE_0 ⟨hx1, hx2⟩ hw hg.symm h
        have hE4 : ¬ 1 + L.flatten.length ≤ 60 → builtE s n L = ([], 4) := fun h => builtE_4 ⟨hx1, hx2⟩ hw hg.symm h
        have hB0 : ∀ W, Drew w W → OwnI (W.alloc (.cells #[.int .i64 (n : Int)] 3)) w.heap.size (.slice (some ⟨W.heap.size, 0, none⟩) 1 1) [(n : Int)] := fun W hW => (OwnL.lit (S := fun _ => False) W [(n : Int)] 3 (by simpa using hy) (by unfold maxLen; simp)).baseMono (hW.below 0).size
        have hB0H := Lib.hid hB0
        have hE0H := Lib.hid hE0
        have hE4H := Lib.hid hE4
        generalize builtE s n L = R at *
        have hqq : ∀ W, Drew w W → W.cell? ⟨b, o + n * 2 + 1, none⟩ = some (.int .i64 L.length) := fun W hW => ((hW.below w.heap.size).cell (p := ⟨b, o + n * 2 + 1, none⟩) (World.block_lt_of_cell? _ _ q)).trans q
        have hqH := Lib.hid hqq
        clear cw hb1 hx1 hx2 hw hg hB0 hE0 hE4 q hqq h1
        go_enter Try.func39, Try.ntmps39
        go_wp2_with (first | (go_at_call 25; refine (v1H.out _ (.refl _)).mono ?_; rintro e w1 ⟨rfl, hd1⟩) | (go_at_call 71; refine (v2H.out _ hd1).mono ?_; rintro e w2 ⟨rfl, hd2⟩; have hDD := Drew.trans hd1 hd2; clear hd2; have q := hqH.out w2 hDD) | (go_at_call 56; refine (cwH.out _).mono ?_; rintro e w3 ⟨rfl, rfl⟩))
        have ho := hB0H.out _ hDD
        have hBB : Below w.heap.size w (w2.alloc (.cells #[.int .i64 (n : Int)] 3)) := (hDD.below _).trans ((below1 _ _).mono (hDD.below 0).size)
        go_loopw [8, 9] (fun out i wr => brRel n L w w.heap.size out i wr) (fun _ i _ => L.length - (intOf i).toNat)
        case atStart => exact ⟨0, rfl, Nat.zero_le _, ho, hBB⟩
        case round =>
          clear ho hBB q hB0H hqH v1H v2H cwH hd1 hDD
          obtain ⟨k, rfl, hk, ho, hB⟩ := hrel
          by_cases hlt : k < L.length
          · obtain ⟨b, o, a', c', rfl, -, q, hI⟩ := h2.sub k hlt
            have q' := (hB.cell (p := ⟨b, o + k, none⟩) (World.block_lt_of_cell? _ _ q)).trans q
            have hs := flat_take_succ hlt
            have hle := flat_take_le (L := L) (q := k + 1)
            rw [hs, List.length_append] at hle
            obtain ⟨v', w', hrunH, ho', hb'⟩ := ints_append ho (hI.below hB) (by rw [List.length_cons]; omega) hB.size
            have hsH := Lib.hid hs
            have hBH := Lib.hid (hB.trans hb'.out)
            clear hs ho hI hB h2 q hb'
            go_wp2_with (at_builtin; refine wpList_append_run rfl _ _ _ rfl rfl rfl hrunH.out ?_)
            go_roundw
            case rel => exact ⟨k + 1, by go_num, by omega, by rw [hsH.out]; exact ho'.out, hBH.out⟩
            case measure => simp [intOf]; omega
          · have hkn : L.take k = L := List.take_of_length_le (by omega)
            rw [hkn] at ho
            obtain ⟨F, hF⟩ : ∃ F, (n : Int) :: L.flatten = F := ⟨_, rfl⟩
            have hFl : F.length = 1 + L.flatten.length := by rw [← hF, List.length_cons]; omega
            rw [← hFl, hF] at hE0H
            rw [← hFl] at hE4H
            rw [hF] at ho
            have hl9 : F.length ≤ 1000000 := by omega
            obtain ⟨a8, c8, rfl, -⟩ := ho.ints
            have hoH := Lib.hid ho
            have hBH := Lib.hid hB
            by_cases h60 : F.length ≤ 60
            · have hb60 : decide ((60 : Int) < (F.length : Int)) = false := by simp; omega
              obtain rfl := hE0H.out h60
              clear ho hB hkn h2 hF hFl hl hE0H hE4H
              go_wp2_with fail
              go_ret2
              exact ⟨_, rfl, hoH.out, hBH.out⟩
            · have hb60 : decide ((60 : Int) < (F.length : Int)) = true := by simp; omega
              obtain rfl := hE4H.out h60
              clear ho hB hkn h2 hF hFl hl hE0H hE4H
              go_wp2_with fail
              go_ret2
              exact ⟨_, rfl, .nil _ _ _ _ _, hBH.out⟩
      · have hE := builtE_9 ⟨hx1, hx2⟩ hw (L := L) (by rw [hg]; exact hlen)
        rw [hE]
        have hqq : ∀ W, Drew w W → W.cell? ⟨b, o + n * 2 + 1, none⟩ = some (.int .i64 ay) := fun W hW => ((hW.below w.heap.size).cell (p := ⟨b, o + n * 2 + 1, none⟩) (World.block_lt_of_cell? _ _ q)).trans q
        have hqH := Lib.hid hqq
        have hne : ((L.length : Int) != ay) = true := by simpa using hlen
        clear cw hb1 hx1 hx2 hw hg q hqq h1 h2 hay hE hlen
        go_enter Try.func39, Try.ntmps39
        go_wp2_with (first | (go_at_call 25; refine (v1H.out _ (.refl _)).mono ?_; rintro e w1 ⟨rfl, hd1⟩) | (go_at_call 71; refine (v2H.out _ hd1).mono ?_; rintro e w2 ⟨rfl, hd2⟩; have hDD := Drew.trans hd1 hd2; clear hd2; have q := hqH.out w2 hDD) | (go_at_call 56; refine (cwH.out _).mono ?_; rintro e w3 ⟨rfl, rfl⟩))
        go_ret2
        exact ⟨_, rfl, .nil _ _ _ _ _, hDD.below _⟩
    · have hE := builtE_5 ⟨hx1, hx2⟩ (L := L) hw
      rw [hE]
      have hb1 : (decide ((0 : Int) ≤ y) && decide (y ≤ (s.length : Int) - 1)) = false := by simp; omega
      simp only [hb1] at cw
      have cwH := Lib.hid cw
      clear cw hb1 hx1 hx2 hw hE h1 h2
      go_enter Try.func39, Try.ntmps39
      go_wp2_with (first | (go_at_call 25; refine (v1H.out _ (.refl _)).mono ?_; rintro e w1 ⟨rfl, hd1⟩) | (go_at_call 71; refine (v2H.out _ hd1).mono ?_; rintro e w2 ⟨rfl, hd2⟩; have hDD := Drew.trans hd1 hd2; clear hd2) | (go_at_call 56; refine (cwH.out _).mono ?_; rintro e w3 ⟨rfl, rfl⟩))
      go_ret2
      exact ⟨_, rfl, .nil _ _ _ _ _, hDD.below _⟩
  · have hE := builtE_1 (y := y) (s := s) (L := L) (by rw [hx1, hx2]; exact hok)
    rw [hE]
    clear hE hx1 hx2 h1 h2
    cases x1 with
    | false =>
      go_enter Try.func39, Try.ntmps39
      go_wp2_with (first | (go_at_call 25; refine (v1H.out _ (.refl _)).mono ?_; rintro e w1 ⟨rfl, hd1⟩))
      go_ret2
      exact ⟨_, rfl, .nil _ _ _ _ _, hd1.below _⟩
    | true =>
      cases x2 with
      | true => exact (hok ⟨rfl, rfl⟩).elim
      | false =>
        clear hok
        go_enter Try.func39, Try.ntmps39
        go_wp2_with (first | (go_at_call 25; refine (v1H.out _ (.refl _)).mono ?_; rintro e w1 ⟨rfl, hd1⟩) | (go_at_call 71; refine (v2H.out _ hd1).mono ?_; rintro e w2 ⟨rfl, hd2⟩; have hDD := Drew.trans hd1 hd2; clear hd2))
        go_ret2
        exact ⟨_, rfl, .nil _ _ _ _ _, hDD.below _⟩
end Go.Proofs.Ytgpfdflpkaeedaa
