/- The law TermPaths, walked. -/
import Derived.Test.YtgpfdflpkaeedaaPaths
import Derived.Test.YtgpfdflpkaeedaaWalkO
namespace Go.Proofs.Ytgpfdflpkaeedaa
open Go Go.RowKit Go.Maps

theorem pathsT_len {s : Sg} {t v : List Int} (h : okT s t = true) : (pathsT s t v).length ≤ 60 := by
  have h1 := pathsK_len (s := s) (t := t) (v := v) t.length
  rw [pathsK_all h] at h1
  have := (okT_parts h).2.2.1; omega
set_option maxRecDepth 20000 in
set_option maxHeartbeats 8000000 in
theorem TermPaths_walk {S S' S'' : Nat → Prop} (p q r : Option Addr) (k c d : Nat) (s : Sg) (t u : List Int) (w : World) (hs : Sign S' w p k s) (ht : Ints S w q c t) (hu : Ints S'' w r d u) :
    Calls Try.prog 10 #[.slice p s.length k, .slice q t.length c, .slice r u.length d] w fun e w' => e = .returned (.bool true) ∧ Below w.heap.size w w' := by
  have mt := ht.le
  have mu := hu.le
  go_enter Try.func10, Try.ntmps10
  go_wp2_with fail
  have hB := below1 w (.cells #[.slice q t.length c, .slice r u.length d] 25)
  have hTs := Sl.new (E := slE intE) (S := fun _ => True) w [[.slice q t.length c], [.slice r u.length d]] [t, u] 25 rfl (by unfold big; simp) (fun i g1 g2 => by
      match i, g1 with
      | 0, _ => exact ⟨_, _, rfl, ht.any⟩
      | 1, _ => exact ⟨_, _, rfl, hu.any⟩)
  have hs1 := hs.below hB
  have ht1 := ht.below hB
  have hu1 := hu.below hB
  refine (Small_any p (some ⟨w.heap.size, 0, none⟩) k 2 s [t, u] (w.alloc (.cells #[.slice q t.length c, .slice r u.length d] 25)) hs1 hTs).mono ?_
  clear hTs hs ht hu
  generalize w.alloc (.cells #[.slice q t.length c, .slice r u.length d] 25) = W at *
  generalize smallT s [t, u] = sm
  rintro e w' ⟨rfl, rfl⟩
  cases sm with
  | false =>
    go_wp2_with fail
    refine (awake_any W).mono ?_
    rintro e w1 ⟨rfl, hb1⟩
    go_wp2_with fail
    go_ret
    exact ⟨rfl, bcall hB hb1⟩
  | true =>
    have k1 := fun W' (hb : Below W.heap.size W W') => Paths_any p q r k c d s t u W' (hs1.below hb) (ht1.below hb) (hu1.below hb)
    have k2 := fun W' (hb : Below W.heap.size W W') => rPaths_any p q r k c d s t u W' (hs1.below hb) (ht1.below hb) (hu1.below hb)
    have hat : ∀ x ∈ (pathsE s t u).1, atE s t x = (u, 0) := by
      intro x hx
      unfold pathsE at hx
      split at hx
      · rename_i h; exact pathsT_at h.1 x hx
      · simp at hx
    have hll : (pathsE s t u).1.length ≤ 60 := by
      unfold pathsE
      split
      · rename_i h; exact pathsT_len h.1
      · simp
    obtain ⟨⟨L, en⟩, hce⟩ : ∃ r, pathsE s t u = r := ⟨_, rfl⟩
    rw [hce] at k1 k2 hat hll
    have k1H := Lib.hid k1
    have k2H := Lib.hid k2
    have hatH := Lib.hid hat
    have e1 : (en != en) = false := by simp
    have hd : decide (L = L) = true := by simp
    have hs1H := Lib.hid hs1
    have ht1H := Lib.hid ht1
    have hu1H := Lib.hid hu1
    simp only at hll
    clear k1 k2 hs1 ht1 hu1 hat hce
    go_wp2_with fail
    refine (k1H.out _ (.refl _ _)).mono ?_
    rintro e w1 ⟨v1, rfl, o1, b1⟩
    obtain ⟨a3, c3, rfl, i1⟩ := OwnL.sl o1
    clear o1
    go_wp2_with fail
    refine (k2H.out _ b1).mono ?_
    rintro e w2 ⟨v2, rfl, o2, b2'⟩
    obtain ⟨a4, c4, rfl, i2⟩ := OwnL.sl o2
    have b2 := bcall b1 b2'
    have i1 := i1.below b2'
    clear b2' o2 b1
    go_wp2_with fail
    refine (SamePaths_any a3 a4 c3 c4 L L w2 i1 i2).mono ?_
    rintro e w3 ⟨rfl, n3, rfl⟩
    have b3 := below_drewN b2 n3
    have i1 := i1.drewN n3
    have b3H := Lib.hid b3
    have i1H := Lib.hid i1
    have hbH := Lib.hid hB
    clear i2 b2 b3 i1 k1H k2H
    go_wp2_with fail
    clear e1 hd
    go_loopw [11] (fun i wr => ∃ m : Nat, i = .int .i64 m ∧ m ≤ L.length ∧ Below (w2.drewN n3).heap.size (w2.drewN n3) wr) (fun i _ => L.length - (intOf i).toNat)
    case atStart => exact ⟨0, rfl, Nat.zero_le _, .refl _ _⟩
    case round =>
      obtain ⟨m, rfl, hm, hBr⟩ := hrel
      have hbb := bcall b3H.out hBr
      have hbbH := Lib.hid hbb
      by_cases hml : m < L.length
      · obtain ⟨b, o, a5, c5, rfl, -, q5, hI5⟩ := (i1H.out.below hBr).sub m hml
        have kA := At_any p q a5 k c c5 s t L[m] wr (hs1H.out.below hbb) (ht1H.out.below hbb) hI5
        rw [hatH.out L[m] (List.getElem_mem hml)] at kA
        have kAH := Lib.hid kA
        have hBrH := Lib.hid hBr
        clear kA hI5 hbb hBr
        go_wp2_with fail
        (with_reducible refine kAH.out.mono ?_)
        rintro e w4 ⟨v4, rfl, o4, b4⟩
        obtain ⟨a6, c6, rfl, i6⟩ := OwnI.ints o4
        have hu4 := hu1H.out.below (bcall hbbH.out b4)
        have b4H := Lib.hid b4
        clear o4 b4
        have cs := Same_any a6 r c6 d u u w4 i6 hu4
        rw [show decide (u = u) = true from decide_eq_true rfl] at cs
        have csH := Lib.hid cs
        clear cs i6 hu4
        go_wp2_with fail
        (with_reducible refine csH.out.mono ?_)
        rintro e w5 ⟨rfl, hd5⟩
        have b5H := Lib.hid (bcall hBrH.out (b4H.out.trans (hd5.below _)))
        clear hd5
        go_wp2_with fail
        go_roundw
        case rel => exact ⟨m + 1, by go_num, by omega, b5H.out⟩
        case measure => simp [intOf]; omega
      · obtain rfl : m = L.length := by omega
        clear hbb hBr
        go_wp2_with fail
        (with_reducible refine (awake_any _).mono ?_)
        rintro e w4 ⟨rfl, b4⟩
        go_wp2_with fail
        go_ret
        exact ⟨rfl, bcall hbH.out (bcall hbbH.out b4)⟩
end Go.Proofs.Ytgpfdflpkaeedaa
