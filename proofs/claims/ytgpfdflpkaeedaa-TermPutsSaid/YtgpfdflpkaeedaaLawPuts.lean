/- The law TermPuts, walked. -/
import Derived.Test.YtgpfdflpkaeedaaWalkU
namespace Go.Proofs.Ytgpfdflpkaeedaa
open Go Go.RowKit Go.Maps

set_option maxRecDepth 20000 in
set_option maxHeartbeats 8000000 in
theorem TermPuts_walk {S S' : Nat → Prop} (p : Option Addr) (k : Nat) (s : Sg) (a0 a1 a2 : Option Addr) (c0 c1 c2 : Nat) (t0 t1 t2 : List Int) (w : World) (hs : Sign S' w p k s) (h0 : Ints S w a0 c0 t0) (h1 : Ints S w a1 c1 t1) (h2 : Ints S w a2 c2 t2) :
    Calls Try.prog 11 #[.slice p s.length k, .agg #[.slice a0 t0.length c0, .slice a1 t1.length c1, .slice a2 t2.length c2]] w fun e w' => e = .returned (.bool true) ∧ Below w.heap.size w w' := by
  have m2 := h2.le
  go_enter Try.func11, Try.ntmps11
  go_wp2_with fail
  have hB := below2 w (.cells #[.slice a0 t0.length c0, .slice a1 t1.length c1, .slice a2 t2.length c2] 43) (.cells #[.slice a0 t0.length c0, .slice a1 t1.length c1] 25)
  have hTs0 := Sl.new (E := slE intE) (S := S) (w.alloc (.cells #[.slice a0 t0.length c0, .slice a1 t1.length c1, .slice a2 t2.length c2] 43)) [[.slice a0 t0.length c0], [.slice a1 t1.length c1]] [t0, t1] 25 rfl (by unfold big; simp) (fun i g1 g2 => by
      match i, g1 with
      | 0, _ => exact ⟨_, _, rfl, h0.below (below1 w (.cells #[.slice a0 t0.length c0, .slice a1 t1.length c1, .slice a2 t2.length c2] 43))⟩
      | 1, _ => exact ⟨_, _, rfl, h1.below (below1 w (.cells #[.slice a0 t0.length c0, .slice a1 t1.length c1, .slice a2 t2.length c2] 43))⟩)
  rw [World.size_alloc] at hTs0
  have hTs := hTs0.any
  have q0 : ((w.alloc (.cells #[.slice a0 t0.length c0, .slice a1 t1.length c1, .slice a2 t2.length c2] 43)).alloc (.cells #[.slice a0 t0.length c0, .slice a1 t1.length c1] 25)).cell? ⟨w.heap.size, 0, none⟩ = some (.slice a0 t0.length c0) := by go_simp
  have q1 : ((w.alloc (.cells #[.slice a0 t0.length c0, .slice a1 t1.length c1, .slice a2 t2.length c2] 43)).alloc (.cells #[.slice a0 t0.length c0, .slice a1 t1.length c1] 25)).cell? ⟨w.heap.size, 1, none⟩ = some (.slice a1 t1.length c1) := by go_simp
  have q2 : ((w.alloc (.cells #[.slice a0 t0.length c0, .slice a1 t1.length c1, .slice a2 t2.length c2] 43)).alloc (.cells #[.slice a0 t0.length c0, .slice a1 t1.length c1] 25)).cell? ⟨w.heap.size, 2, none⟩ = some (.slice a2 t2.length c2) := by go_simp
  have hs1 := hs.below hB
  have h01 := h0.below hB
  have h11 := h1.below hB
  have h21 := h2.below hB
  refine (Small_any p (some ⟨w.heap.size + 1, 0, none⟩) k 2 s [t0, t1] ((w.alloc (.cells #[.slice a0 t0.length c0, .slice a1 t1.length c1, .slice a2 t2.length c2] 43)).alloc (.cells #[.slice a0 t0.length c0, .slice a1 t1.length c1] 25)) hs1 hTs).mono ?_
  clear hTs hTs0 hs h0 h1 h2
  generalize ((w.alloc (.cells #[.slice a0 t0.length c0, .slice a1 t1.length c1, .slice a2 t2.length c2] 43)).alloc (.cells #[.slice a0 t0.length c0, .slice a1 t1.length c1] 25)) = W at *
  generalize smallT s [t0, t1] = sm
  rintro e w' ⟨rfl, rfl⟩
  cases sm with
  | false =>
    go_wp2_with fail
    refine (awake_any W).mono ?_
    rintro e w1 ⟨rfl, hb1⟩
    go_wp2_with fail
    go_ret
    exact ⟨rfl, hB.trans (hb1.mono hB.size)⟩
  | true =>
    by_cases hlen : t2.length ≤ 100
    · have hl4 : decide ((100 : Int) < (t2.length : Int)) = false := by simp; omega
      have k1 := fun W' (hb : Below W.heap.size W W') => At_any p a0 a2 k c0 c2 s t0 t2 W' (hs1.below hb) (h01.below hb) (h21.below hb)
      have k2 := fun W' (hb : Below W.heap.size W W') => rAt_any p a0 a2 k c0 c2 s t0 t2 W' (hs1.below hb) (h01.below hb) (h21.below hb)
      have k3 := fun W' (hb : Below W.heap.size W W') => Put_any p a0 a2 a1 k c0 c2 c1 s t0 t2 t1 W' (hs1.below hb) (h01.below hb) (h21.below hb) (h11.below hb)
      have k4 := fun W' (hb : Below W.heap.size W W') => rPut_any p a0 a2 a1 k c0 c2 c1 s t0 t2 t1 W' (hs1.below hb) (h01.below hb) (h21.below hb) (h11.below hb)
      obtain ⟨⟨al, an⟩, hce⟩ : ∃ r, atE s t0 t2 = r := ⟨_, rfl⟩
      obtain ⟨⟨cl, cn⟩, hpe⟩ : ∃ r, putE s t0 t2 t1 = r := ⟨_, rfl⟩
      rw [hce] at k1
      rw [hce] at k2
      rw [hpe] at k3
      rw [hpe] at k4
      have k1H := Lib.hid k1
      have k2H := Lib.hid k2
      have k3H := Lib.hid k3
      have k4H := Lib.hid k4
      have hceH := Lib.hid hce
      have hpeH := Lib.hid hpe
      have hs1H := Lib.hid hs1
      have h01H := Lib.hid h01
      have h11H := Lib.hid h11
      have h21H := Lib.hid h21
      have e1 : (an != an) = false := by simp
      have e2 : (cn != cn) = false := by simp
      have d1 : decide (al = al) = true := by simp
      have d2 : decide (cl = cl) = true := by simp
      clear k1 k2 k3 k4 hce hpe hs1 h01 h11 h21 hlen
      go_wp2_with fail
      refine (k1H.out _ (.refl _ _)).mono ?_
      rintro e w1 ⟨v1, rfl, o1, b1⟩
      obtain ⟨a3, c3, rfl, i3⟩ := OwnI.ints o1
      have q0 := cell_later b1 q0
      have q1 := cell_later b1 q1
      have q2 := cell_later b1 q2
      clear o1
      go_wp2_with fail
      refine (k2H.out _ b1).mono ?_
      rintro e w2 ⟨v2, rfl, o2, b2'⟩
      obtain ⟨a4, c4, rfl, i4⟩ := OwnI.ints o2
      have b2 := bcall b1 b2'
      have i3 := i3.below b2'
      have q0 := cell_later b2' q0
      have q1 := cell_later b2' q1
      have q2 := cell_later b2' q2
      clear o2 b2'
      go_wp2_with fail
      refine (Same_any a3 a4 c3 c4 al al w2 i3 i4).mono ?_
      rintro e w3 ⟨rfl, n3, rfl⟩
      have b3 := below_drewN b2 n3
      have i3 := i3.drewN n3
      have q0 : (w2.drewN n3).cell? ⟨w.heap.size, 0, none⟩ = some (.slice a0 t0.length c0) := q0
      have q1 : (w2.drewN n3).cell? ⟨w.heap.size, 1, none⟩ = some (.slice a1 t1.length c1) := q1
      have q2 : (w2.drewN n3).cell? ⟨w.heap.size, 2, none⟩ = some (.slice a2 t2.length c2) := q2
      clear i4 k1H k2H
      go_wp2_with fail
      refine (k3H.out _ b3).mono ?_
      rintro e w4 ⟨v4, rfl, o4, b4'⟩
      obtain ⟨a5, c5, rfl, i5⟩ := OwnI.ints o4
      have b4 := bcall b3 b4'
      have i3 := i3.below b4'
      have q0 := cell_later b4' q0
      have q1 := cell_later b4' q1
      have q2 := cell_later b4' q2
      clear o4 b4'
      go_wp2_with fail
      refine (k4H.out _ b4).mono ?_
      rintro e w5 ⟨v5, rfl, o5, b5'⟩
      obtain ⟨a6, c6, rfl, i6⟩ := OwnI.ints o5
      have b5 := bcall b4 b5'
      have i3 := i3.below b5'
      have i5 := i5.below b5'
      have q0 := cell_later b5' q0
      have q1 := cell_later b5' q1
      have q2 := cell_later b5' q2
      clear o5 b5'
      go_wp2_with fail
      refine (Same_any a5 a6 c5 c6 cl cl w5 i5 i6).mono ?_
      rintro e w6 ⟨rfl, n6, rfl⟩
      have b := below_drewN b5 n6
      have i3 := i3.drewN n6
      have i5 := i5.drewN n6
      have q0 : (w5.drewN n6).cell? ⟨w.heap.size, 0, none⟩ = some (.slice a0 t0.length c0) := q0
      have q1 : (w5.drewN n6).cell? ⟨w.heap.size, 1, none⟩ = some (.slice a1 t1.length c1) := q1
      have q2 : (w5.drewN n6).cell? ⟨w.heap.size, 2, none⟩ = some (.slice a2 t2.length c2) := q2
      clear i6 k3H k4H
      have dt : decide (t0 = t0) = true := by simp
      have du : decide (t1 = t1) = true := by simp
      by_cases han : an = 0
      · subst han
        have hps := put_same (s := s) (t := t0) (p := t2) (by rw [hceH.out])
        rw [hceH.out, show (al, (0 : Int)).1 = al from rfl] at hps
        have k5 := Put_any p a0 a2 a3 k c0 c2 c3 s t0 t2 al _ (hs1H.out.below b) (h01H.out.below b) (h21H.out.below b) i3
        rw [hps] at k5
        have k5H := Lib.hid k5
        clear k5 hps i3
        go_wp2_with fail
        refine k5H.out.mono ?_
        rintro e w7 ⟨v7, rfl, o7, b7⟩
        obtain ⟨a9, c9, rfl, i9⟩ := OwnI.ints o7
        have q0 := cell_later b7 q0
        have q1 := cell_later b7 q1
        have q2 := cell_later b7 q2
        have i5 := i5.below b7
        have b := bcall b b7
        clear b7 o7 k5H
        go_wp2_with fail
        refine (Same_any a9 a0 c9 c0 t0 t0 w7 i9 (h01H.out.below b)).mono ?_
        rintro e w8 ⟨rfl, n8, rfl⟩
        have b := below_drewN b n8
        have i5 := i5.drewN n8
        have q1 : (w7.drewN n8).cell? ⟨w.heap.size, 1, none⟩ = some (.slice a1 t1.length c1) := q1
        have q2 : (w7.drewN n8).cell? ⟨w.heap.size, 2, none⟩ = some (.slice a2 t2.length c2) := q2
        clear i9 q0
        by_cases hcn : cn = 0
        · subst hcn
          obtain ⟨-, -, hat⟩ := put_at (s := s) (t := t0) (p := t2) (u := t1) (by rw [hpeH.out])
          rw [hpeH.out] at hat
          have k7 := At_any p a5 a2 k c5 c2 s cl t2 _ (hs1H.out.below b) i5 (h21H.out.below b)
          rw [show (cl, (0 : Int)).1 = cl from rfl] at hat
          rw [hat] at k7
          have k7H := Lib.hid k7
          clear k7 hat i5
          go_wp2_with fail
          refine k7H.out.mono ?_
          rintro e w7 ⟨v7, rfl, o7, b7⟩
          obtain ⟨a7, c7, rfl, i7⟩ := OwnI.ints o7
          have q1 := cell_later b7 q1
          have b := bcall b b7
          clear b7 o7 k7H
          go_wp2_with fail
          refine (Same_any a7 a1 c7 c1 t1 t1 w7 i7 (h11H.out.below b)).mono ?_
          rintro e w8 ⟨rfl, hd8⟩
          have b := b.trans (hd8.below _)
          clear i7 hd8
          go_wp2_with fail
          refine (awake_any _).mono ?_
          rintro e w9 ⟨rfl, b9⟩
          go_wp2_with fail
          go_ret
          exact ⟨rfl, bcall hB (bcall b b9)⟩
        · have hcn2 : (cn != 0) = true := by simpa using hcn
          clear i5
          go_wp2_with fail
          refine (awake_any _).mono ?_
          rintro e w9 ⟨rfl, b9⟩
          go_wp2_with fail
          go_ret
          exact ⟨rfl, bcall hB (bcall b b9)⟩
      · have han2 : (an == 0) = false := by simpa using han
        clear i3 q0
        by_cases hcn : cn = 0
        · subst hcn
          obtain ⟨-, -, hat⟩ := put_at (s := s) (t := t0) (p := t2) (u := t1) (by rw [hpeH.out])
          rw [hpeH.out] at hat
          have k7 := At_any p a5 a2 k c5 c2 s cl t2 _ (hs1H.out.below b) i5 (h21H.out.below b)
          rw [show (cl, (0 : Int)).1 = cl from rfl] at hat
          rw [hat] at k7
          have k7H := Lib.hid k7
          clear k7 hat i5
          go_wp2_with fail
          refine k7H.out.mono ?_
          rintro e w7 ⟨v7, rfl, o7, b7⟩
          obtain ⟨a7, c7, rfl, i7⟩ := OwnI.ints o7
          have q1 := cell_later b7 q1
          have b := bcall b b7
          clear b7 o7 k7H
          go_wp2_with fail
          refine (Same_any a7 a1 c7 c1 t1 t1 w7 i7 (h11H.out.below b)).mono ?_
          rintro e w8 ⟨rfl, hd8⟩
          have b := b.trans (hd8.below _)
          clear i7 hd8
          go_wp2_with fail
          refine (awake_any _).mono ?_
          rintro e w9 ⟨rfl, b9⟩
          go_wp2_with fail
          go_ret
          exact ⟨rfl, bcall hB (bcall b b9)⟩
        · have hcn2 : (cn != 0) = true := by simpa using hcn
          clear i5
          go_wp2_with fail
          refine (awake_any _).mono ?_
          rintro e w9 ⟨rfl, b9⟩
          go_wp2_with fail
          go_ret
          exact ⟨rfl, bcall hB (bcall b b9)⟩
    · have hl4 : decide ((100 : Int) < (t2.length : Int)) = true := by simp; omega
      clear hlen
      go_wp2_with fail
      refine (awake_any W).mono ?_
      rintro e w1 ⟨rfl, hb1⟩
      go_wp2_with fail
      go_ret
      exact ⟨rfl, hB.trans (hb1.mono hB.size)⟩
end Go.Proofs.Ytgpfdflpkaeedaa
