/- The law TermDown, walked. -/
import Derived.Test.YtgpfdflpkaeedaaWalkO
import Derived.Test.YtgpfdflpkaeedaaRegion
namespace Go.Proofs.Ytgpfdflpkaeedaa
open Go Go.RowKit Go.Maps

theorem Four.call {p0 p1 p2 p3 : Addr} {u0 u1 u2 u3 : Value} {W w1 w2 : World} (h : w1.cell? p0 = some u0 ∧ w1.cell? p1 = some u1 ∧ w1.cell? p2 = some u2 ∧ w1.cell? p3 = some u3 ∧ Below W.heap.size W w1) (hb : Below w1.heap.size w1 w2) :
    w2.cell? p0 = some u0 ∧ w2.cell? p1 = some u1 ∧ w2.cell? p2 = some u2 ∧ w2.cell? p3 = some u3 ∧ Below W.heap.size W w2 :=
  ⟨cell_later hb h.1, cell_later hb h.2.1, cell_later hb h.2.2.1, cell_later hb h.2.2.2.1, h.2.2.2.2.trans (hb.mono h.2.2.2.2.size)⟩
theorem Four.start {p0 p1 p2 p3 : Addr} {u0 u1 u2 u3 : Value} {W w1 : World} (h0 : w1.cell? p0 = some u0) (h1 : w1.cell? p1 = some u1) (h2 : w1.cell? p2 = some u2) (h3 : w1.cell? p3 = some u3) (hb : Below W.heap.size W w1) :
    w1.drew.cell? p0 = some u0 ∧ w1.drew.cell? p1 = some u1 ∧ w1.drew.cell? p2 = some u2 ∧ w1.drew.cell? p3 = some u3 ∧ Below W.heap.size W w1.drew := ⟨h0, h1, h2, h3, hb.drew⟩

set_option maxHeartbeats 4000000 in
theorem TermDown_walk {S S' : Nat → Prop} (p : Option Addr) (k : Nat) (s : Sg) (a0 a1 a2 : Option Addr) (c0 c1 c2 : Nat) (t0 t1 t2 : List Int) (w : World) (hs : Sign S' w p k s) (h0 : Ints S w a0 c0 t0) (_h1 : Ints S w a1 c1 t1) (h2 : Ints S w a2 c2 t2) :
    Calls Try.prog 6 #[.slice p s.length k, .agg #[.slice a0 t0.length c0, .slice a1 t1.length c1, .slice a2 t2.length c2]] w fun e w' => e = .returned (.bool true) ∧ Below w.heap.size w w' := by
  have m2 := h2.le
  go_enter Try.func6, Try.ntmps6
  go_wp2_with fail
  have hB := below2 w (.cells #[.slice a0 t0.length c0, .slice a1 t1.length c1, .slice a2 t2.length c2] 43) (.cells #[.slice a0 t0.length c0] 25)
  have hTs0 := Sl.new (E := slE intE) (S := S) (w.alloc (.cells #[.slice a0 t0.length c0, .slice a1 t1.length c1, .slice a2 t2.length c2] 43)) [[.slice a0 t0.length c0]] [t0] 25 rfl (by unfold big; simp) (fun i g1 g2 => by
      match i, g1 with
      | 0, _ => exact ⟨_, _, rfl, h0.below (below1 w (.cells #[.slice a0 t0.length c0, .slice a1 t1.length c1, .slice a2 t2.length c2] 43))⟩)
  rw [World.size_alloc] at hTs0
  have hTs := hTs0.any
  have q0 : ((w.alloc (.cells #[.slice a0 t0.length c0, .slice a1 t1.length c1, .slice a2 t2.length c2] 43)).alloc (.cells #[.slice a0 t0.length c0] 25)).cell? ⟨w.heap.size, 0, none⟩ = some (.slice a0 t0.length c0) := by go_simp
  have q2 : ((w.alloc (.cells #[.slice a0 t0.length c0, .slice a1 t1.length c1, .slice a2 t2.length c2] 43)).alloc (.cells #[.slice a0 t0.length c0] 25)).cell? ⟨w.heap.size, 2, none⟩ = some (.slice a2 t2.length c2) := by go_simp
  have hs1 := hs.below hB
  have h01 := h0.below hB
  have h21 := h2.below hB
  refine (Small_any p (some ⟨w.heap.size + 1, 0, none⟩) k 1 s [t0] ((w.alloc (.cells #[.slice a0 t0.length c0, .slice a1 t1.length c1, .slice a2 t2.length c2] 43)).alloc (.cells #[.slice a0 t0.length c0] 25)) hs1 hTs).mono ?_
  clear hTs hTs0 hs h0 h2
  generalize ((w.alloc (.cells #[.slice a0 t0.length c0, .slice a1 t1.length c1, .slice a2 t2.length c2] 43)).alloc (.cells #[.slice a0 t0.length c0] 25)) = W at *
  generalize smallT s [t0] = sm
  rintro e w' ⟨rfl, rfl⟩
  cases sm with
  | false =>
    go_wp2_with fail
    refine (awake_any W).mono ?_
    rintro e w1 ⟨rfl, hb1⟩
    go_wp2_with fail
    go_ret
    exact ⟨rfl, hB.trans (hb1.mono hB.size)⟩
  | true =>
    by_cases hlen : t2.length ≤ 100 ∧ 1 ≤ t2.length
    · have hl1 : t2.length ≤ 100 := hlen.1
      have hl3 : ¬ t2 = [] := fun e => by rw [e] at hlen; simp at hlen
      have hl2 : ((t2.length : Int) == 0) = false := by simp; intro e; rw [e] at hlen; simp at hlen
      have hl5 : (1 : Int) ≤ (t2.length : Int) := by omega
      have hl4 : decide ((100 : Int) < (t2.length : Int)) = false := by simp; omega
      obtain ⟨bp, op, rfl, -, qp, -⟩ := h21.int 0 (by omega)
      have hpd : t2 = t2[0] :: t2.drop 1 := by rw [← List.drop_eq_getElem_cons (by omega)]; rfl
      obtain ⟨x, hx⟩ : ∃ x, t2[0] = x := ⟨_, rfl⟩
      rw [hx] at qp hpd
      rw [Nat.add_zero] at qp
      have k1 := fun W' (hb : Below W.heap.size W W') => At_any p a0 (some ⟨bp, op, none⟩) k c0 c2 s t0 t2 W' (hs1.below hb) (h01.below hb) (h21.below hb)
      have k2 := fun W' (hb : Below W.heap.size W W') => Args_any p a0 k c0 s t0 W' (hs1.below hb) (h01.below hb)
      obtain ⟨⟨al, an⟩, hce⟩ : ∃ r, atE s t0 t2 = r := ⟨_, rfl⟩
      obtain ⟨⟨gl, gn⟩, hge⟩ : ∃ r, argsE s t0 = r := ⟨_, rfl⟩
      rw [hce] at k1
      rw [hge] at k2
      have k1H := Lib.hid k1
      have k2H := Lib.hid k2
      clear k1 k2
      by_cases han : an = 0
      · subst han
        obtain ⟨hok, hx0, hk, hat⟩ := atE_down (s := s) (t := t0) (k := x) (ks := t2.drop 1) (by rw [← hpd, hce])
        obtain ⟨n, rfl⟩ := Int.eq_ofNat_of_zero_le hx0
        rw [argsE_ok hok] at hge
        obtain ⟨rfl, rfl⟩ := Prod.mk.inj hge
        rw [← hpd, hce] at hat
        simp only [Int.toNat_natCast] at hk hat
        obtain ⟨L, hL, hk, hat⟩ : ∃ L, argsT s t0 = L ∧ ∃ hk : n < L.length, atE s L[n] (t2.drop 1) = (al, 0) := ⟨_, rfl, hk, hat⟩
        rw [hL] at k2H
        have hkl : (t2.drop 1).length = t2.length - 1 := by rw [List.length_drop]
        have cap2 := h21.cap
        have max2 := h21.max
        unfold big at max2
        have h5 : Ints S W (if c2 = 1 then some ⟨bp, op, none⟩ else some ⟨bp, op + 1, none⟩) (c2 - 1) (t2.drop 1) := by
          by_cases hc : c2 = 1
          · rw [if_pos hc]
            have he : t2.drop 1 = [] := List.drop_eq_nil_of_le (by omega)
            rw [he, hc]
            exact ⟨Nat.le_refl _, by unfold big; omega, fun h => (by cases h), fun h => (h rfl).elim⟩
          · rw [if_neg hc]
            have := Ints.part h21 1 t2.length (c2 - 1) (by omega) (Nat.le_refl _) (by omega) (by omega)
            rwa [List.take_of_length_le (by rw [hkl]; exact Nat.le_refl _)] at this
        have hnL2 : ¬ L.length ≤ n := by omega
        have hatH := Lib.hid hat
        clear hat hpd hx hok hL hce hge
        go_wp2_with fail
        refine (k1H.out _ (.refl _ _)).mono ?_
        rintro e w2 ⟨v2, rfl, o2, b2⟩
        obtain ⟨a3, c3, rfl, i2⟩ := OwnI.ints o2
        have q0 := cell_later b2 q0
        have q2 := cell_later b2 q2
        have qp := cell_later b2 qp
        clear o2
        go_wp2_with fail
        refine (k2H.out _ b2).mono ?_
        rintro e w3 ⟨v3, rfl, o3, b3⟩
        obtain ⟨al3, c4, rfl, hT⟩ := OwnL.sl o3
        have q0 := cell_later b3 q0
        have q2 := cell_later b3 q2
        have qp := cell_later b3 qp
        have i2 := i2.below b3
        have B3 := bcall b2 b3
        obtain ⟨bl, ol, a', c', rfl, -, ql, hIn⟩ := hT.sub n hk
        have k9 := fun W' (hb : Below w3.heap.size w3 W') => At_any p a' (if c2 = 1 then some ⟨bp, op, none⟩ else some ⟨bp, op + 1, none⟩) k c' (c2 - 1) s L[n] (t2.drop 1) W' ((hs1.below B3).below hb) (hIn.below hb) ((h5.below B3).below hb)
        rw [hatH.out, hkl] at k9
        have k9H := Lib.hid k9
        clear k9 o3 hT hIn h5 k1H k2H b2 b3 hatH hkl hs1 h01 h21
        go_wp2_with fail
        refine wp_region_held_drew (S := (fun w' => w'.cell? ⟨w.heap.size, 0, none⟩ = some (.slice a0 t0.length c0) ∧ w'.cell? ⟨w.heap.size, 2, none⟩ = some (.slice (some ⟨bp, op, none⟩) t2.length c2) ∧ w'.cell? ⟨bp, op, none⟩ = some (.int .i64 n) ∧ w'.cell? ⟨bl, ol + n, none⟩ = some (.slice a' L[n].length c') ∧ Below w3.heap.size w3 w')) (by kernel_rfl) (Four.start q0 q2 qp ql (.refl _ _)) (fun hS => ?_)
        refine region_take 0 (some 68) (v := ?_) rfl rfl (by kernel_rfl) (by kernel_rfl) (by kernel_rfl) (fun _ _ _ h => h) rfl ?_ hS ?_
        rotate_left
        · (intro w9 hS9; go_simp; try (with_reducible rfl))
        simp only [Act.put, List.setIfInBounds_toArray, List.set_cons_zero, List.set_cons_succ]
        refine region_take 1 (some 69) (v := ?_) rfl rfl (by kernel_rfl) (by kernel_rfl) (by kernel_rfl) (fun _ _ _ h => h) rfl ?_ hS ?_
        rotate_left
        · (intro w9 hS9; go_simp; try (with_reducible rfl))
        simp only [Act.put, List.setIfInBounds_toArray, List.set_cons_zero, List.set_cons_succ]
        refine region_take 2 (some 70) (v := ?_) rfl rfl (by kernel_rfl) (by kernel_rfl) (by kernel_rfl) (fun _ _ _ h => h) rfl ?_ hS ?_
        rotate_left
        · (intro w9 hS9; go_simp; try (with_reducible rfl))
        simp only [Act.put, List.setIfInBounds_toArray, List.set_cons_zero, List.set_cons_succ]
        refine region_take 3 (some 71) (v := ?_) rfl rfl (by kernel_rfl) (by kernel_rfl) (by kernel_rfl) (fun _ _ _ h => h) rfl ?_ hS ?_
        rotate_left
        · (intro w9 hS9; go_simp; try (with_reducible rfl))
        simp only [Act.put, List.setIfInBounds_toArray, List.set_cons_zero, List.set_cons_succ]
        refine region_take 4 (some 72) (v := ?_) rfl rfl (by kernel_rfl) (by kernel_rfl) (by kernel_rfl) (fun _ _ _ h => h) rfl ?_ hS ?_
        rotate_left
        · (intro w9 hS9; go_simp; try (with_reducible rfl))
        simp only [Act.put, List.setIfInBounds_toArray, List.set_cons_zero, List.set_cons_succ]
        refine region_take 5 (some 73) (v := ?_) rfl rfl (by kernel_rfl) (by kernel_rfl) (by kernel_rfl) (fun _ _ _ h => h) rfl ?_ hS ?_
        rotate_left
        · (intro w9 hS9; go_simp; try (with_reducible rfl))
        simp only [Act.put, List.setIfInBounds_toArray, List.set_cons_zero, List.set_cons_succ]
        refine region_take 6 (some 74) (v := ?_) rfl rfl (by kernel_rfl) (by kernel_rfl) (by kernel_rfl) (fun _ _ _ h => h) rfl ?_ hS ?_
        rotate_left
        · (intro w9 hS9; go_simp; try (with_reducible rfl))
        simp only [Act.put, List.setIfInBounds_toArray, List.set_cons_zero, List.set_cons_succ]
        refine region_take 7 (some 75) (v := ?_) rfl rfl (by kernel_rfl) (by kernel_rfl) (by kernel_rfl) (fun _ _ _ h => h) rfl ?_ hS ?_
        rotate_left
        · (intro w9 hS9; go_simp; try (with_reducible rfl))
        simp only [Act.put, List.setIfInBounds_toArray, List.set_cons_zero, List.set_cons_succ]
        refine region_take 8 (some 76) (v := ?_) rfl rfl (by kernel_rfl) (by kernel_rfl) (by kernel_rfl) (fun _ _ _ h => h) rfl ?_ hS ?_
        rotate_left
        · (intro w9 hS9; go_simp; try (with_reducible rfl))
        simp only [Act.put, List.setIfInBounds_toArray, List.set_cons_zero, List.set_cons_succ]
        refine region_take 9 (some 77) (v := ?_) rfl rfl (by kernel_rfl) (by kernel_rfl) (by kernel_rfl) (fun _ _ _ h => h) rfl ?_ hS ?_
        rotate_left
        · (intro w9 hS9; go_simp; try (with_reducible rfl))
        simp only [Act.put, List.setIfInBounds_toArray, List.set_cons_zero, List.set_cons_succ]
        refine region_take 10 (some 78) (v := ?_) rfl rfl (by kernel_rfl) (by kernel_rfl) (by kernel_rfl) (fun _ _ _ h => h) rfl ?_ hS ?_
        rotate_left
        · (intro w9 hS9; go_simp; try (with_reducible rfl))
        simp only [Act.put, List.setIfInBounds_toArray, List.set_cons_zero, List.set_cons_succ]
        refine region_call 11 rfl (by kernel_rfl) (fun K hK => ?_)
        go_simp
        refine (k9H.out _ hS.2.2.2.2).mono ?_
        rintro e w8 ⟨v8, rfl, o8, hb8⟩
        obtain ⟨a8, c8, rfl, i8⟩ := OwnI.ints o8
        refine hK.out _ _ (Four.call hS hb8) ?_
        clear hS hK
        intro hS
        refine region_take 12 (some 67) (v := ?_) rfl rfl (by kernel_rfl) (by kernel_rfl) (by kernel_rfl) (fun _ _ _ h => h) rfl ?_ hS ?_
        rotate_left
        · (intro w9 hS9; go_simp; try (with_reducible rfl))
        simp only [Act.put, List.setIfInBounds_toArray, List.set_cons_zero, List.set_cons_succ]
        refine region_take 13 (some 80) (v := ?_) rfl rfl (by kernel_rfl) (by kernel_rfl) (by kernel_rfl) (fun _ _ _ h => h) rfl ?_ hS ?_
        rotate_left
        · (intro w9 hS9; go_simp; try (with_reducible rfl))
        simp only [Act.put, List.setIfInBounds_toArray, List.set_cons_zero, List.set_cons_succ]
        refine region_take 14 (some 81) (v := ?_) rfl rfl (by kernel_rfl) (by kernel_rfl) (by kernel_rfl) (fun _ _ _ h => h) rfl ?_ hS ?_
        rotate_left
        · (intro w9 hS9; go_simp; try (with_reducible rfl))
        simp only [Act.put, List.setIfInBounds_toArray, List.set_cons_zero, List.set_cons_succ]
        refine region_take 15 (some 9) (v := ?_) rfl rfl (by kernel_rfl) (by kernel_rfl) (by kernel_rfl) (fun _ _ _ h => h) rfl ?_ hS ?_
        rotate_left
        · (intro w9 hS9; go_simp; try (with_reducible rfl))
        simp only [Act.put, List.setIfInBounds_toArray, List.set_cons_zero, List.set_cons_succ]
        refine region_take 16 (some 10) (v := ?_) rfl rfl (by kernel_rfl) (by kernel_rfl) (by kernel_rfl) (fun _ _ _ h => h) rfl ?_ hS ?_
        rotate_left
        · (intro w9 hS9; go_simp; try (with_reducible rfl))
        simp only [Act.put, List.setIfInBounds_toArray, List.set_cons_zero, List.set_cons_succ]
        refine wpAnyH_done (by kernel_rfl) ?_ _
        generalize (if c2 = 1 then some ⟨bp, op, none⟩ else some ⟨bp, op + 1, none⟩ : Option Addr) = a5
        have B8 := hS.2.2.2.2
        clear hS k9H q0 q2 qp ql
        have i2 := i2.below B8
        have hd : decide (al = al) = true := by simp
        go_wp2_with fail
        refine (Same_any a3 a8 c3 c8 al al w8 i2 i8).mono ?_
        rintro e w9 ⟨rfl, hd9⟩
        have B9 := B8.trans (hd9.below _)
        clear i2 i8 o8 hd9
        go_wp2_with fail
        refine (awake_any _).mono ?_
        rintro e w10 ⟨rfl, b10⟩
        go_wp2_with fail
        go_ret
        exact ⟨rfl, bcall hB (bcall B3 (bcall B9 b10))⟩
      · have hn : (an != 0) = true := by simpa using han
        clear hpd hx hce hge han
        go_wp2_with fail
        refine (k1H.out _ (.refl _ _)).mono ?_
        rintro e w2 ⟨v2, rfl, -, b2⟩
        have q0 := cell_later b2 q0
        have q2 := cell_later b2 q2
        go_wp2_with fail
        refine (k2H.out _ b2).mono ?_
        rintro e w3 ⟨v3, rfl, -, b3⟩
        have B3 := bcall b2 b3
        go_wp2_with fail
        refine (awake_any _).mono ?_
        rintro e w10 ⟨rfl, b10⟩
        go_wp2_with fail
        go_ret
        exact ⟨rfl, bcall hB (bcall B3 b10)⟩
    · have hl1 : decide ((100 : Int) < (t2.length : Int)) = true ∨ (decide ((100 : Int) < (t2.length : Int)) = false ∧ ((t2.length : Int) == 0) = true) := by
        simp only [decide_eq_true_eq, decide_eq_false_iff_not, beq_iff_eq]; omega
      clear hlen
      rcases hl1 with hl | ⟨hl, hz⟩
      all_goals
        go_wp2_with fail
        refine (awake_any W).mono ?_
        rintro e w1 ⟨rfl, hb1⟩
        go_wp2_with fail
        go_ret
        exact ⟨rfl, hB.trans (hb1.mono hB.size)⟩
end Go.Proofs.Ytgpfdflpkaeedaa
