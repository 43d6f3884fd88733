/- The law TermCanonical, walked. -/
import Derived.Test.YtgpfdflpkaeedaaWalkI
namespace Go.Proofs.Ytgpfdflpkaeedaa
open Go Go.RowKit Go.Maps

set_option maxHeartbeats 4000000 in
theorem TermCanonical_walk {S : Nat → Prop} (p q : Option Addr) (k c : Nat) (s : Sg) (t : List Int) (w : World) (hs : Sign S w p k s) (ht : Ints S w q c t) :
    Calls Try.prog 4 #[.slice p s.length k, .slice q t.length c] w fun e w' => e = .returned (.bool true) ∧ Below w.heap.size w w' := by
  go_enter Try.func4, Try.ntmps4
  go_wp2_with fail
  have hB := below1 w (.cells #[.slice q t.length c] 25)
  have hTs := Sl.new (E := slE intE) (S := S) w [[.slice q t.length c]] [t] 25 rfl (by unfold big; simp) (fun i g1 g2 => by
      match i, g1 with
      | 0, _ => exact ⟨_, _, rfl, ht⟩)
  have hs1 := hs.below hB
  have ht1 := ht.below hB
  refine (Small_any p (some ⟨w.heap.size, 0, none⟩) k 1 s [t] (w.alloc (.cells #[.slice q t.length c] 25)) hs1 hTs).mono ?_
  clear hTs hs ht
  generalize w.alloc (.cells #[.slice q t.length c] 25) = W at *
  generalize smallT s [t] = sm
  rintro e w' ⟨rfl, rfl⟩
  cases sm with
  | false =>
    go_wp2_with fail
    refine (awake_any W).mono ?_
    rintro e w1 ⟨rfl, hb1⟩
    go_wp2_with fail
    go_ret
    exact ⟨rfl, bcall hB hb1⟩
  | true =>
    have hok : okT s t = true → canonE s t = (canon t, 0) ∧ canonE s (canon t) = (canon t, 0) ∧ isCanonT s (canon t) = true ∧ alikeT s t (canon t) = true := fun h =>
      ⟨errE_ok h, by rw [canonE, errE_ok (okT_canon h), canon_canon], by unfold isCanonT; rw [okT_canon h, canon_canon]; simp, by unfold alikeT; rw [h, okT_canon h, canon_canon]; simp⟩
    have hno : okT s t = false → (canonE s t).2 = 1 := fun h => by rw [canonE, errE_no h]
    have k1 := fun W' (hb : Below W.heap.size W W') => CanonicalE p q k c s t W' (hs1.below hb) (ht1.below hb)
    have k2 := fun W' (hb : Below W.heap.size W W') => rCanonicalE p q k c s t W' (hs1.below hb) (ht1.below hb)
    have k3 := fun W' (hb : Below W.heap.size W W') => IsCanonical_any p q k c s t W' (hs1.below hb) (ht1.below hb)
    have k4 := fun W' (hb : Below W.heap.size W W') => rIsCanonical_any p q k c s t W' (hs1.below hb) (ht1.below hb)
    have k5 := fun W' (hb : Below W.heap.size W W') => ShapeE p q k c s t W' (hs1.below hb) (ht1.below hb)
    have k6 := fun W' (hb : Below W.heap.size W W') => rShapeE p q k c s t W' (hs1.below hb) (ht1.below hb)
    generalize isCanonT s t = ic at *
    generalize flatE s t = fl at *
    generalize hce : canonE s t = ce at *
    obtain ⟨cl, cn⟩ := ce
    obtain ⟨fl, fn⟩ := fl
    have k1H := Lib.hid k1
    have k2H := Lib.hid k2
    have k3H := Lib.hid k3
    have k4H := Lib.hid k4
    have k5H := Lib.hid k5
    have k6H := Lib.hid k6
    have hokH := Lib.hid hok
    have hnoH := Lib.hid hno
    have e1 : (cn != cn) = false := by simp
    have e2 : (ic != ic) = false := by simp
    have e3 : (fn != fn) = false := by simp
    clear k1 k2 k3 k4 k5 k6 hok hno hce
    go_wp2_with fail
    refine (k1H.out W (.refl _ _)).mono ?_
    rintro e w1 ⟨v1, rfl, o1, b1⟩
    obtain ⟨a1, c1, rfl, i1⟩ := OwnI.ints o1
    go_wp2_with fail
    refine (k2H.out w1 b1).mono ?_
    rintro e w2 ⟨v2, rfl, o2, b2'⟩
    obtain ⟨a2, c2, rfl, i2⟩ := OwnI.ints o2
    have b2 := bcall b1 b2'
    have i1 := i1.below b2'
    go_wp2_with fail
    refine (Same_any a1 a2 c1 c2 _ _ w2 i1 i2).mono ?_
    rintro e w3 ⟨rfl, n3, rfl⟩
    have b3 := below_drewN b2 n3
    have i1 := i1.drewN n3
    have e4 : decide (cl = cl) = true := by simp
    clear i2 o1 o2 b2'
    go_wp2_with fail
    refine (k3H.out _ b3).mono ?_
    rintro e w4 ⟨rfl, b4'⟩
    have b4 := bcall b3 b4'
    go_wp2_with fail
    refine (k4H.out _ b4).mono ?_
    rintro e w5 ⟨rfl, b5'⟩
    have b5 := bcall b4 b5'
    have i1 := (i1.below b4').below b5'
    clear b4' b5' b1 b2 b3 b4
    go_wp2_with fail
    refine (k5H.out _ b5).mono ?_
    rintro e w6 ⟨v6, rfl, o6, b6'⟩
    obtain ⟨a6, c6, rfl, i6⟩ := OwnI.ints o6
    have b6 := bcall b5 b6'
    go_wp2_with fail
    refine (k6H.out _ b6).mono ?_
    rintro e w7 ⟨v7, rfl, o7, b7'⟩
    obtain ⟨a7, c7, rfl, i7⟩ := OwnI.ints o7
    have b7 := bcall b6 b7'
    have i1 := (i1.below b6').below b7'
    have i6 := i6.below b7'
    have e5 : decide (fl = fl) = true := by simp
    clear b6' b7' b5 b6 o6 o7
    go_wp2_with fail
    refine (Same_any a6 a7 c6 c7 _ _ w7 i6 i7).mono ?_
    rintro e w8 ⟨rfl, n8, rfl⟩
    have b8 := below_drewN b7 n8
    have i1 := i1.drewN n8
    clear i6 i7 b7
    obtain ⟨ok, hk⟩ : ∃ ok, okT s t = ok := ⟨_, rfl⟩
    cases ok with
    | false =>
      obtain rfl : cn = 1 := hnoH.out hk
      clear hk
      go_wp2_with fail
      refine (awake_any _).mono ?_
      rintro e w9 ⟨rfl, b9⟩
      go_wp2_with fail
      go_ret
      exact ⟨rfl, bcall hB (bcall b8 b9)⟩
    | true =>
      obtain ⟨r1, r2, r3, r4⟩ := hokH.out hk
      obtain ⟨rfl, rfl⟩ := Prod.mk.inj r1
      have k7 := fun W' (hb : Below (w7.drewN n8).heap.size (w7.drewN n8) W') => CanonicalE p a1 k c1 s (canon t) W' ((hs1.below b8).below hb) (i1.below hb)
      have k8 := fun W' (hb : Below (w7.drewN n8).heap.size (w7.drewN n8) W') => IsCanonical_any p a1 k c1 s (canon t) W' ((hs1.below b8).below hb) (i1.below hb)
      have k9 := fun W' (hb : Below (w7.drewN n8).heap.size (w7.drewN n8) W') => Alike_any p q a1 k c c1 s t (canon t) W' ((hs1.below b8).below hb) ((ht1.below b8).below hb) (i1.below hb)
      rw [r2] at k7
      rw [r3] at k8
      rw [r4] at k9
      have k7H := Lib.hid k7
      have k8H := Lib.hid k8
      have k9H := Lib.hid k9
      clear k7 k8 k9 r1 r2 r3 r4 hk
      generalize canon t = cl at *
      go_wp2_with fail
      refine (k7H.out _ (.refl _ _)).mono ?_
      rintro e w9 ⟨v9, rfl, o9, b9⟩
      obtain ⟨a9, c9, rfl, i9⟩ := OwnI.ints o9
      have i1 := i1.below b9
      go_wp2_with fail
      refine (Same_any a9 a1 c9 c1 _ _ w9 i9 i1).mono ?_
      rintro e w10 ⟨rfl, n10, rfl⟩
      have b10 := below_drewN b9 n10
      clear i9 i1 o9
      go_wp2_with fail
      refine (k8H.out _ b10).mono ?_
      rintro e w11 ⟨rfl, b11'⟩
      have b11 := bcall b10 b11'
      go_wp2_with fail
      refine (k9H.out _ b11).mono ?_
      rintro e w12 ⟨rfl, b12'⟩
      have b12 := bcall b11 b12'
      go_wp2_with fail
      refine (awake_any _).mono ?_
      rintro e w13 ⟨rfl, b13⟩
      go_wp2_with fail
      go_ret
      exact ⟨rfl, bcall hB (bcall b8 (bcall b12 b13))⟩
end Go.Proofs.Ytgpfdflpkaeedaa
