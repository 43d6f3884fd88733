/- The law TermParts, walked. -/
import Derived.Test.YtjiffkpgadjodaaPartsP
import Derived.Test.YtjiffkpgadjodaaRegion
import Derived.Test.YtjiffkpgadjodaaWalkS
namespace Go.Proofs.Ytjiffkpgadjodaa
open Go Go.RowKit Go.Maps

theorem pathsT_len60 {s : Sg} {t v : List Int} (h : okT s t = true) : (pathsT s t v).length ≤ 60 := by
  have h1 := pathsK_len (s := s) (t := t) (v := v) t.length
  rw [pathsK_all h] at h1
  have := (okT_parts h).2.2.1; omega
theorem parts_each {s : Sg} {t x : List Int} (hx : x ∈ (partsE s t).1) : ∃ PX, pathsE s t x = (PX, 0) ∧ PX ≠ [] ∧ PX.length ≤ 60 := by
  unfold partsE at hx
  split at hx
  · rename_i h
    obtain ⟨h1, h2⟩ := part_path h hx
    exact ⟨pathsT s t x, by unfold pathsE; rw [if_pos ⟨h, h2⟩], h1, pathsT_len60 h⟩
  · simp at hx
theorem partsE_asc {s : Sg} {t : List Int} : Asc (partsE s t).1 := by
  unfold partsE
  split
  · exact partsT_asc s t
  · exact List.Pairwise.nil
theorem asc_next {l : List (List Int)} (h : Asc l) {j : Nat} (hj : j + 1 < l.length) : compareT l[j] l[j + 1] = -1 := by
  have h1 : compareT l[j] l[j + 1] < 0 := List.pairwise_iff_getElem.1 h j (j + 1) (by omega) hj (by omega)
  have := (compareT_range l[j] l[j + 1]).1
  omega

set_option maxRecDepth 20000 in
set_option maxHeartbeats 8000000 in
theorem TermParts_walk {S S' : Nat → Prop} (p q : Option Addr) (k c : Nat) (s : Sg) (t : List Int) (w : World) (hs : Sign S' w p k s) (ht : Ints S w q c t) :
    Calls Try.prog 3 #[.slice p s.length k, .slice q t.length c] w fun e w' => e = .returned (.bool true) ∧ Below w.heap.size w w' := by
  have mt := ht.le
  go_enter Try.func3, Try.ntmps3
  go_wp2_with fail
  have hB := below1 w (.cells #[.slice q t.length c] 25)
  have hTs := Sl.new (E := slE intE) (S := fun _ => True) w [[.slice q t.length c]] [t] 25 rfl (by unfold big; simp) (fun i g1 g2 => by
      match i, g1 with
      | 0, _ => exact ⟨_, _, rfl, ht.any⟩)
  have hs1 := hs.below hB
  have ht1 := ht.below hB
  refine (Small_any p (some ⟨w.heap.size, 0, none⟩) k 1 s [t] (w.alloc (.cells #[.slice q t.length c] 25)) hs1 hTs).mono ?_
  clear hTs hs ht
  generalize w.alloc (.cells #[.slice q t.length c] 25) = W at *
  generalize smallT s [t] = sm
  rintro e w' ⟨rfl, rfl⟩
  cases sm with
  | false =>
    go_wp2_with fail
    refine (awake_any W).mono ?_
    rintro e w1 ⟨rfl, hb1⟩
    go_wp2_with fail
    go_ret
    exact ⟨rfl, bcall hB hb1⟩
  | true =>
    have k1 := fun W' (hb : Below W.heap.size W W') => Parts_any p q k c s t W' (hs1.below hb) (ht1.below hb)
    have k2 := fun W' (hb : Below W.heap.size W W') => rParts_any p q k c s t W' (hs1.below hb) (ht1.below hb)
    have hat := fun x => parts_each (s := s) (t := t) (x := x)
    have hasc := partsE_asc (s := s) (t := t)
    have hll : (partsE s t).1.length ≤ 60 := by
      unfold partsE
      split
      · rename_i h; exact partsT_len h
      · simp
    obtain ⟨⟨L, en⟩, hce⟩ : ∃ r, partsE s t = r := ⟨_, rfl⟩
    rw [hce] at k1 k2 hll hasc
    simp only [hce] at hat
    have k1H := Lib.hid k1
    have k2H := Lib.hid k2
    have hatH := Lib.hid hat
    have hascH := Lib.hid hasc
    have e1 : (en != en) = false := by simp
    have hd : decide (L = L) = true := by simp
    have hs1H := Lib.hid hs1
    have ht1H := Lib.hid ht1
    simp only at hll
    clear k1 k2 hs1 ht1 hat hce hasc
    go_wp2_with fail
    refine (k1H.out _ (.refl _ _)).mono ?_
    rintro e w1 ⟨v1, rfl, o1, b1⟩
    obtain ⟨a3, c3, rfl, i1⟩ := OwnL.sl o1
    clear o1
    go_wp2_with fail
    refine (k2H.out _ b1).mono ?_
    rintro e w2 ⟨v2, rfl, o2, b2'⟩
    obtain ⟨a4, c4, rfl, i2⟩ := OwnL.sl o2
    have b2 := bcall b1 b2'
    have i1 := i1.below b2'
    clear b2' o2 b1
    go_wp2_with fail
    refine (SameTerms_any a3 a4 c3 c4 L L w2 i1 i2).mono ?_
    rintro e w3 ⟨rfl, n3, rfl⟩
    have b3 := below_drewN b2 n3
    have i1 := i1.drewN n3
    have b3H := Lib.hid b3
    have i1H := Lib.hid i1
    have hbH := Lib.hid hB
    clear i2 b2 b3 i1 k1H k2H
    go_wp2_with fail
    clear e1 hd
    go_loopw [9] (fun i wr => ∃ m : Nat, i = .int .i64 m ∧ m ≤ L.length ∧ Below (w2.drewN n3).heap.size (w2.drewN n3) wr) (fun i _ => L.length - (intOf i).toNat)
    case atStart => exact ⟨0, rfl, Nat.zero_le _, .refl _ _⟩
    case round =>
      obtain ⟨m, rfl, hm, hBr⟩ := hrel
      have hbb := bcall b3H.out hBr
      have hbbH := Lib.hid hbb
      by_cases hml : m < L.length
      · have iR := i1H.out.below hBr
        obtain ⟨b, o, a5, c5, rfl, -, q5, hI5⟩ := iR.sub m hml
        obtain ⟨PX, hpx, hne, hpl⟩ := hatH.out L[m] (List.getElem_mem hml)
        have kA := Paths_any p q a5 k c c5 s t L[m] wr (hs1H.out.below hbb) (ht1H.out.below hbb) hI5
        rw [hpx] at kA
        have kAH := Lib.hid kA
        have hBrH := Lib.hid hBr
        have hI5H := Lib.hid hI5
        have iRH := Lib.hid iR
        have hP0 : 0 < PX.length := List.length_pos_iff.2 hne
        have hP1 : ((PX.length : Int) == 0) = false := by simp; intro e; exact hne e
        clear kA hI5 hbb hBr hpx hne iR
        go_wp2_with fail
        (with_reducible refine kAH.out.mono ?_)
        rintro e w4 ⟨v4, rfl, o4, b4⟩
        obtain ⟨a6, c6, rfl, -⟩ := OwnL.sl o4
        have b4H := Lib.hid b4
        have q5' := Lib.hid (cell_later b4 q5)
        clear o4 q5 kAH
        cases m with
        | zero =>
          clear b4
          go_wp2_with fail
          refine wp_region_held_drew (S := (fun w' => Below w4.heap.size w4 w')) (by kernel_rfl) (Below.drew (.refl _ _)) (fun hS => ?_)
          refine region_take 0 (some 55) (v := ?_) rfl rfl (by kernel_rfl) (by kernel_rfl) (by kernel_rfl) (fun _ _ _ h => h) rfl ?_ hS ?_
          rotate_left
          · (intro w9 hS9; go_simp; try (with_reducible rfl))
          simp only [Act.put, List.setIfInBounds_toArray, List.set_cons_zero, List.set_cons_succ]
          refine region_take 1 (some 56) (v := ?_) rfl rfl (by kernel_rfl) (by kernel_rfl) (by kernel_rfl) (fun _ _ _ h => h) rfl ?_ hS ?_
          rotate_left
          · (intro w9 hS9; go_simp; try (with_reducible rfl))
          simp only [Act.put, List.setIfInBounds_toArray, List.set_cons_zero, List.set_cons_succ]
          refine region_take 2 (some 57) (v := ?_) rfl rfl (by kernel_rfl) (by kernel_rfl) (by kernel_rfl) (fun _ _ _ h => h) rfl ?_ hS ?_
          rotate_left
          · (intro w9 hS9; go_simp; try (with_reducible rfl))
          simp only [Act.put, List.setIfInBounds_toArray, List.set_cons_zero, List.set_cons_succ]
          refine region_take 3 (some 58) (v := ?_) rfl rfl (by kernel_rfl) (by kernel_rfl) (by kernel_rfl) (fun _ _ _ h => h) rfl ?_ hS ?_
          rotate_left
          · (intro w9 hS9; go_simp; try (with_reducible rfl))
          simp only [Act.put, List.setIfInBounds_toArray, List.set_cons_zero, List.set_cons_succ]
          refine region_take 4 (some 59) (v := ?_) rfl rfl (by kernel_rfl) (by kernel_rfl) (by kernel_rfl) (fun _ _ _ h => h) rfl ?_ hS ?_
          rotate_left
          · (intro w9 hS9; go_simp; try (with_reducible rfl))
          simp only [Act.put, List.setIfInBounds_toArray, List.set_cons_zero, List.set_cons_succ]
          refine region_take 5 (some 60) (v := ?_) rfl rfl (by kernel_rfl) (by kernel_rfl) (by kernel_rfl) (fun _ _ _ h => h) rfl ?_ hS ?_
          rotate_left
          · (intro w9 hS9; go_simp; try (with_reducible rfl))
          simp only [Act.put, List.setIfInBounds_toArray, List.set_cons_zero, List.set_cons_succ]
          refine region_take 6 (some 61) (v := ?_) rfl rfl (by kernel_rfl) (by kernel_rfl) (by kernel_rfl) (fun _ _ _ h => h) rfl ?_ hS ?_
          rotate_left
          · (intro w9 hS9; go_simp; try (with_reducible rfl))
          simp only [Act.put, List.setIfInBounds_toArray, List.set_cons_zero, List.set_cons_succ]
          refine region_take 7 (some 62) (v := ?_) rfl rfl (by kernel_rfl) (by kernel_rfl) (by kernel_rfl) (fun _ _ _ h => h) rfl ?_ hS ?_
          rotate_left
          · (intro w9 hS9; go_simp; try (with_reducible rfl))
          simp only [Act.put, List.setIfInBounds_toArray, List.set_cons_zero, List.set_cons_succ]
          refine region_take 8 (some 63) (v := ?_) rfl rfl (by kernel_rfl) (by kernel_rfl) (by kernel_rfl) (fun _ _ _ h => h) rfl ?_ hS ?_
          rotate_left
          · (intro w9 hS9; go_simp; try (with_reducible rfl))
          simp only [Act.put, List.setIfInBounds_toArray, List.set_cons_zero, List.set_cons_succ]
          refine region_take 9 (some 64) (v := ?_) rfl rfl (by kernel_rfl) (by kernel_rfl) (by kernel_rfl) (fun _ _ _ h => h) rfl ?_ hS ?_
          rotate_left
          · (intro w9 hS9; go_simp; try (with_reducible rfl))
          simp only [Act.put, List.setIfInBounds_toArray, List.set_cons_zero, List.set_cons_succ]
          refine region_take 10 (some 65) (v := ?_) rfl rfl (by kernel_rfl) (by kernel_rfl) (by kernel_rfl) (fun _ _ _ h => h) rfl ?_ hS ?_
          rotate_left
          · (intro w9 hS9; go_simp; try (with_reducible rfl))
          simp only [Act.put, List.setIfInBounds_toArray, List.set_cons_zero, List.set_cons_succ]
          refine region_skip 11 (some 66) rfl rfl (by kernel_rfl) (by kernel_rfl) (by kernel_rfl) (fun _ _ _ h => h) rfl hS ?_
          simp only [Act.put, List.setIfInBounds_toArray, List.set_cons_zero, List.set_cons_succ]
          refine region_skip 12 (some 67) rfl rfl (by kernel_rfl) (by kernel_rfl) (by kernel_rfl) (fun _ _ _ h => h) rfl hS ?_
          simp only [Act.put, List.setIfInBounds_toArray, List.set_cons_zero, List.set_cons_succ]
          refine region_skip 13 (some 68) rfl rfl (by kernel_rfl) (by kernel_rfl) (by kernel_rfl) (fun _ _ _ h => h) rfl hS ?_
          simp only [Act.put, List.setIfInBounds_toArray, List.set_cons_zero, List.set_cons_succ]
          refine region_skip 14 (some 69) rfl rfl (by kernel_rfl) (by kernel_rfl) (by kernel_rfl) (fun _ _ _ h => h) rfl hS ?_
          simp only [Act.put, List.setIfInBounds_toArray, List.set_cons_zero, List.set_cons_succ]
          refine region_skip 15 (some 70) rfl rfl (by kernel_rfl) (by kernel_rfl) (by kernel_rfl) (fun _ _ _ h => h) rfl hS ?_
          simp only [Act.put, List.setIfInBounds_toArray, List.set_cons_zero, List.set_cons_succ]
          refine region_skip 16 (some 71) rfl rfl (by kernel_rfl) (by kernel_rfl) (by kernel_rfl) (fun _ _ _ h => h) rfl hS ?_
          simp only [Act.put, List.setIfInBounds_toArray, List.set_cons_zero, List.set_cons_succ]
          refine region_skip 17 (some 72) rfl rfl (by kernel_rfl) (by kernel_rfl) (by kernel_rfl) (fun _ _ _ h => h) rfl hS ?_
          simp only [Act.put, List.setIfInBounds_toArray, List.set_cons_zero, List.set_cons_succ]
          refine region_skip 18 (some 73) rfl rfl (by kernel_rfl) (by kernel_rfl) (by kernel_rfl) (fun _ _ _ h => h) rfl hS ?_
          simp only [Act.put, List.setIfInBounds_toArray, List.set_cons_zero, List.set_cons_succ]
          refine region_skip 19 (some 74) rfl rfl (by kernel_rfl) (by kernel_rfl) (by kernel_rfl) (fun _ _ _ h => h) rfl hS ?_
          simp only [Act.put, List.setIfInBounds_toArray, List.set_cons_zero, List.set_cons_succ]
          refine region_skip 20 (some 75) rfl rfl (by kernel_rfl) (by kernel_rfl) (by kernel_rfl) (fun _ _ _ h => h) rfl hS ?_
          simp only [Act.put, List.setIfInBounds_toArray, List.set_cons_zero, List.set_cons_succ]
          refine region_skip 21 (some 76) rfl rfl (by kernel_rfl) (by kernel_rfl) (by kernel_rfl) (fun _ _ _ h => h) rfl hS ?_
          simp only [Act.put, List.setIfInBounds_toArray, List.set_cons_zero, List.set_cons_succ]
          refine region_take 22 (some 77) (v := ?_) rfl rfl (by kernel_rfl) (by kernel_rfl) (by kernel_rfl) (fun _ _ _ h => h) rfl ?_ hS ?_
          rotate_left
          · (intro w9 hS9; go_simp; try (with_reducible rfl))
          simp only [Act.put, List.setIfInBounds_toArray, List.set_cons_zero, List.set_cons_succ]
          refine region_take 23 (some 78) (v := ?_) rfl rfl (by kernel_rfl) (by kernel_rfl) (by kernel_rfl) (fun _ _ _ h => h) rfl ?_ hS ?_
          rotate_left
          · (intro w9 hS9; go_simp; try (with_reducible rfl))
          simp only [Act.put, List.setIfInBounds_toArray, List.set_cons_zero, List.set_cons_succ]
          refine wpAnyH_done (by kernel_rfl) ?_ _
          have b5H := Lib.hid (bcall hBrH.out (b4H.out.trans (hS.mono b4H.out.size)))
          clear hS
          go_wp2_with fail
          go_roundw
          case rel => exact ⟨0 + 1, by go_num, by omega, b5H.out⟩
          case measure => simp [intOf]; omega
        | succ j =>
          obtain ⟨b', o', a7, c7, he, -, q7, hI7⟩ := iRH.out.sub j (by omega)
          cases he
          have cc := fun W' (hb : Below w4.heap.size w4 W') => Compare_any a7 a5 c7 c5 L[j] L[j + 1] W' ((hI7.below b4).below hb) ((hI5H.out.below b4).below hb)
          have q7' := cell_later b4 q7
          rw [asc_next hascH.out (by omega)] at cc
          have ccH := Lib.hid cc
          have ew : IntKind.i64.wrap ((j : Nat) : Int) = (j : Int) := IntWalk.i64_in _ (by omega)
          have e3 : ((j : Nat) : Int) < L.length := by omega
          have e4 : (0 : Int) ≤ ((j : Nat) : Int) + 1 := by omega
          have e5 : ((j : Nat) : Int) + 1 < L.length := by omega
          have e2 : (0 : Int) ≤ ((j : Nat) : Int) := by omega
          have q7H := Lib.hid q7'
          clear cc q7 hI7 q7' b4
          go_wp2_with fail
          refine wp_region_held_drew (S := (fun w' => w'.cell? ⟨b, o + j, none⟩ = some (.slice a7 L[j].length c7) ∧ w'.cell? ⟨b, o + (j + 1), none⟩ = some (.slice a5 L[j + 1].length c5) ∧ Below w4.heap.size w4 w')) (by kernel_rfl) ⟨q7H.out, q5'.out, Below.drew (.refl _ _)⟩ (fun hS => ?_)
          refine region_take 0 (some 55) (v := ?_) rfl rfl (by kernel_rfl) (by kernel_rfl) (by kernel_rfl) (fun _ _ _ h => h) rfl ?_ hS ?_
          rotate_left
          · (intro w9 hS9; go_simp; try (with_reducible rfl))
          simp only [Act.put, List.setIfInBounds_toArray, List.set_cons_zero, List.set_cons_succ]
          refine region_take 1 (some 56) (v := ?_) rfl rfl (by kernel_rfl) (by kernel_rfl) (by kernel_rfl) (fun _ _ _ h => h) rfl ?_ hS ?_
          rotate_left
          · (intro w9 hS9; go_simp; try (with_reducible rfl))
          simp only [Act.put, List.setIfInBounds_toArray, List.set_cons_zero, List.set_cons_succ]
          refine region_take 2 (some 57) (v := ?_) rfl rfl (by kernel_rfl) (by kernel_rfl) (by kernel_rfl) (fun _ _ _ h => h) rfl ?_ hS ?_
          rotate_left
          · (intro w9 hS9; go_simp; try (with_reducible rfl))
          simp only [Act.put, List.setIfInBounds_toArray, List.set_cons_zero, List.set_cons_succ]
          refine region_take 3 (some 58) (v := ?_) rfl rfl (by kernel_rfl) (by kernel_rfl) (by kernel_rfl) (fun _ _ _ h => h) rfl ?_ hS ?_
          rotate_left
          · (intro w9 hS9; go_simp; try (with_reducible rfl))
          simp only [Act.put, List.setIfInBounds_toArray, List.set_cons_zero, List.set_cons_succ]
          refine region_take 4 (some 59) (v := ?_) rfl rfl (by kernel_rfl) (by kernel_rfl) (by kernel_rfl) (fun _ _ _ h => h) rfl ?_ hS ?_
          rotate_left
          · (intro w9 hS9; go_simp; try (with_reducible rfl))
          simp only [Act.put, List.setIfInBounds_toArray, List.set_cons_zero, List.set_cons_succ]
          refine region_take 5 (some 60) (v := ?_) rfl rfl (by kernel_rfl) (by kernel_rfl) (by kernel_rfl) (fun _ _ _ h => h) rfl ?_ hS ?_
          rotate_left
          · (intro w9 hS9; go_simp; try (with_reducible rfl))
          simp only [Act.put, List.setIfInBounds_toArray, List.set_cons_zero, List.set_cons_succ]
          refine region_take 6 (some 61) (v := ?_) rfl rfl (by kernel_rfl) (by kernel_rfl) (by kernel_rfl) (fun _ _ _ h => h) rfl ?_ hS ?_
          rotate_left
          · (intro w9 hS9; go_simp; try (with_reducible rfl))
          simp only [Act.put, List.setIfInBounds_toArray, List.set_cons_zero, List.set_cons_succ]
          refine region_take 7 (some 62) (v := ?_) rfl rfl (by kernel_rfl) (by kernel_rfl) (by kernel_rfl) (fun _ _ _ h => h) rfl ?_ hS ?_
          rotate_left
          · (intro w9 hS9; go_simp; try (with_reducible rfl))
          simp only [Act.put, List.setIfInBounds_toArray, List.set_cons_zero, List.set_cons_succ]
          refine region_take 8 (some 63) (v := ?_) rfl rfl (by kernel_rfl) (by kernel_rfl) (by kernel_rfl) (fun _ _ _ h => h) rfl ?_ hS ?_
          rotate_left
          · (intro w9 hS9; go_simp; try (with_reducible rfl))
          simp only [Act.put, List.setIfInBounds_toArray, List.set_cons_zero, List.set_cons_succ]
          refine region_take 9 (some 64) (v := ?_) rfl rfl (by kernel_rfl) (by kernel_rfl) (by kernel_rfl) (fun _ _ _ h => h) rfl ?_ hS ?_
          rotate_left
          · (intro w9 hS9; go_simp; try (with_reducible rfl))
          simp only [Act.put, List.setIfInBounds_toArray, List.set_cons_zero, List.set_cons_succ]
          refine region_take 10 (some 65) (v := ?_) rfl rfl (by kernel_rfl) (by kernel_rfl) (by kernel_rfl) (fun _ _ _ h => h) rfl ?_ hS ?_
          rotate_left
          · (intro w9 hS9; go_simp; try (with_reducible rfl))
          simp only [Act.put, List.setIfInBounds_toArray, List.set_cons_zero, List.set_cons_succ]
          refine region_take 11 (some 66) (v := ?_) rfl rfl (by kernel_rfl) (by kernel_rfl) (by kernel_rfl) (fun _ _ _ h => h) rfl ?_ hS ?_
          rotate_left
          · (intro w9 hS9; go_simp; try (with_reducible rfl))
          simp only [Act.put, List.setIfInBounds_toArray, List.set_cons_zero, List.set_cons_succ]
          refine region_take 12 (some 67) (v := ?_) rfl rfl (by kernel_rfl) (by kernel_rfl) (by kernel_rfl) (fun _ _ _ h => h) rfl ?_ hS ?_
          rotate_left
          · (intro w9 hS9; go_simp; try (with_reducible rfl))
          simp only [Act.put, List.setIfInBounds_toArray, List.set_cons_zero, List.set_cons_succ]
          refine region_take 13 (some 68) (v := ?_) rfl rfl (by kernel_rfl) (by kernel_rfl) (by kernel_rfl) (fun _ _ _ h => h) rfl ?_ hS ?_
          rotate_left
          · (intro w9 hS9; go_simp; try (with_reducible rfl))
          simp only [Act.put, List.setIfInBounds_toArray, List.set_cons_zero, List.set_cons_succ]
          refine region_take 14 (some 69) (v := ?_) rfl rfl (by kernel_rfl) (by kernel_rfl) (by kernel_rfl) (fun _ _ _ h => h) rfl ?_ hS ?_
          rotate_left
          · (intro w9 hS9; go_simp; try (with_reducible rfl))
          simp only [Act.put, List.setIfInBounds_toArray, List.set_cons_zero, List.set_cons_succ]
          refine region_take 15 (some 70) (v := ?_) rfl rfl (by kernel_rfl) (by kernel_rfl) (by kernel_rfl) (fun _ _ _ h => h) rfl ?_ hS ?_
          rotate_left
          · (intro w9 hS9; go_simp; try (with_reducible rfl))
          simp only [Act.put, List.setIfInBounds_toArray, List.set_cons_zero, List.set_cons_succ]
          refine region_take 16 (some 71) (v := ?_) rfl rfl (by kernel_rfl) (by kernel_rfl) (by kernel_rfl) (fun _ _ _ h => h) rfl ?_ hS ?_
          rotate_left
          · (intro w9 hS9; go_simp; try (with_reducible rfl))
          simp only [Act.put, List.setIfInBounds_toArray, List.set_cons_zero, List.set_cons_succ]
          refine region_take 17 (some 72) (v := ?_) rfl rfl (by kernel_rfl) (by kernel_rfl) (by kernel_rfl) (fun _ _ _ h => h) rfl ?_ hS ?_
          rotate_left
          · (intro w9 hS9; go_simp; try (with_reducible rfl))
          simp only [Act.put, List.setIfInBounds_toArray, List.set_cons_zero, List.set_cons_succ]
          refine region_take 18 (some 73) (v := ?_) rfl rfl (by kernel_rfl) (by kernel_rfl) (by kernel_rfl) (fun _ _ _ h => h) rfl ?_ hS ?_
          rotate_left
          · (intro w9 hS9; go_simp; try (with_reducible rfl))
          simp only [Act.put, List.setIfInBounds_toArray, List.set_cons_zero, List.set_cons_succ]
          refine region_take 19 (some 74) (v := ?_) rfl rfl (by kernel_rfl) (by kernel_rfl) (by kernel_rfl) (fun _ _ _ h => h) rfl ?_ hS ?_
          rotate_left
          · (intro w9 hS9; go_simp; try (with_reducible rfl))
          simp only [Act.put, List.setIfInBounds_toArray, List.set_cons_zero, List.set_cons_succ]
          refine region_call 20 rfl (by kernel_rfl) (fun K hK => ?_)
          go_simp
          (with_reducible refine (ccH.out _ hS.2.2).mono ?_)
          rintro e w8 ⟨rfl, hb8⟩
          refine hK.out _ _ ⟨cell_later hb8 hS.1, cell_later hb8 hS.2.1, bcall hS.2.2 hb8⟩ ?_
          clear hS hK
          intro hS
          refine region_take 21 (some 76) (v := ?_) rfl rfl (by kernel_rfl) (by kernel_rfl) (by kernel_rfl) (fun _ _ _ h => h) rfl ?_ hS ?_
          rotate_left
          · (intro w9 hS9; go_simp; try (with_reducible rfl))
          simp only [Act.put, List.setIfInBounds_toArray, List.set_cons_zero, List.set_cons_succ]
          refine region_take 22 (some 77) (v := ?_) rfl rfl (by kernel_rfl) (by kernel_rfl) (by kernel_rfl) (fun _ _ _ h => h) rfl ?_ hS ?_
          rotate_left
          · (intro w9 hS9; go_simp; try (with_reducible rfl))
          simp only [Act.put, List.setIfInBounds_toArray, List.set_cons_zero, List.set_cons_succ]
          refine region_take 23 (some 78) (v := ?_) rfl rfl (by kernel_rfl) (by kernel_rfl) (by kernel_rfl) (fun _ _ _ h => h) rfl ?_ hS ?_
          rotate_left
          · (intro w9 hS9; go_simp; try (with_reducible rfl))
          simp only [Act.put, List.setIfInBounds_toArray, List.set_cons_zero, List.set_cons_succ]
          refine wpAnyH_done (by kernel_rfl) ?_ _
          have b5H := Lib.hid (bcall hBrH.out (b4H.out.trans (hS.2.2.mono b4H.out.size)))
          clear hS ew e3 e4 e5 e2
          go_wp2_with fail
          go_roundw
          case rel => exact ⟨j + 1 + 1, by go_num, by omega, b5H.out⟩
          case measure => simp [intOf]; omega
      · obtain rfl : m = L.length := by omega
        clear hbb hBr
        go_wp2_with fail
        (with_reducible refine (awake_any _).mono ?_)
        rintro e w4 ⟨rfl, b4⟩
        go_wp2_with fail
        go_ret
        exact ⟨rfl, bcall hbH.out (bcall hbbH.out b4)⟩
end Go.Proofs.Ytjiffkpgadjodaa
