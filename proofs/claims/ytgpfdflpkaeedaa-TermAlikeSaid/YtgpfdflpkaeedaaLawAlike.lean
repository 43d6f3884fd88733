/- The law TermAlike, walked. -/
import Derived.Test.YtgpfdflpkaeedaaWalkH
import Derived.Test.YtgpfdflpkaeedaaRegion
namespace Go.Proofs.Ytgpfdflpkaeedaa
open Go Go.RowKit Go.Maps

theorem alikeT_symm (s : Sg) (a b : List Int) : alikeT s a b = alikeT s b a := by
  unfold alikeT
  rw [Bool.eq_iff_iff]
  simp only [Bool.and_eq_true, decide_eq_true_eq]
  exact ⟨fun ⟨⟨h1, h2⟩, h3⟩ => ⟨⟨h2, h1⟩, h3.symm⟩, fun ⟨⟨h1, h2⟩, h3⟩ => ⟨⟨h2, h1⟩, h3.symm⟩⟩
theorem alikeT_refl (s : Sg) (a : List Int) : alikeT s a a = okT s a := by unfold alikeT; simp
theorem alikeT_trans (s : Sg) (a b c : List Int) (h1 : alikeT s a b = true) (h2 : alikeT s b c = true) : alikeT s a c = true := by
  unfold alikeT at *
  simp only [Bool.and_eq_true, decide_eq_true_eq] at *
  exact ⟨⟨h1.1.1, h2.1.2⟩, h1.2.trans h2.2⟩

/-- three cells hold what they held, and nothing below B has turned -/
def Three (b : Nat) (u0 u1 u2 : Value) (W w' : World) : Prop :=
  w'.cell? ⟨b, 0, none⟩ = some u0 ∧ w'.cell? ⟨b, 1, none⟩ = some u1 ∧ w'.cell? ⟨b, 2, none⟩ = some u2 ∧ Below W.heap.size W w'
theorem Three.call {b : Nat} {u0 u1 u2 : Value} {W w1 w2 : World} (h : w1.cell? ⟨b, 0, none⟩ = some u0 ∧ w1.cell? ⟨b, 1, none⟩ = some u1 ∧ w1.cell? ⟨b, 2, none⟩ = some u2 ∧ Below W.heap.size W w1) (hb : Below w1.heap.size w1 w2) :
    w2.cell? ⟨b, 0, none⟩ = some u0 ∧ w2.cell? ⟨b, 1, none⟩ = some u1 ∧ w2.cell? ⟨b, 2, none⟩ = some u2 ∧ Below W.heap.size W w2 :=
  ⟨cell_later hb h.1, cell_later hb h.2.1, cell_later hb h.2.2.1, h.2.2.2.trans (hb.mono h.2.2.2.size)⟩
theorem Three.start {b : Nat} {u0 u1 u2 : Value} {W w1 : World} (h0 : w1.cell? ⟨b, 0, none⟩ = some u0) (h1 : w1.cell? ⟨b, 1, none⟩ = some u1) (h2 : w1.cell? ⟨b, 2, none⟩ = some u2) (hb : Below W.heap.size W w1) :
    w1.drew.cell? ⟨b, 0, none⟩ = some u0 ∧ w1.drew.cell? ⟨b, 1, none⟩ = some u1 ∧ w1.drew.cell? ⟨b, 2, none⟩ = some u2 ∧ Below W.heap.size W w1.drew := ⟨h0, h1, h2, hb.drew⟩

set_option maxHeartbeats 2000000 in
theorem TermAlike_walk {S : Nat → Prop} (p : Option Addr) (k : Nat) (s : Sg) (a0 a1 a2 : Option Addr) (c0 c1 c2 : Nat) (t0 t1 t2 : List Int) (w : World)
    (hs : Sign S w p k s) (h0 : Ints S w a0 c0 t0) (h1 : Ints S w a1 c1 t1) (h2 : Ints S w a2 c2 t2) :
    Calls Try.prog 3 #[.slice p s.length k, .agg #[.slice a0 t0.length c0, .slice a1 t1.length c1, .slice a2 t2.length c2]] w fun e w' => e = .returned (.bool true) ∧ Below w.heap.size w w' := by
  go_enter Try.func3, Try.ntmps3
  go_wp2_with fail
  have hTs : Terms (fun _ => True) ((w.alloc (.cells #[.slice a0 t0.length c0, .slice a1 t1.length c1, .slice a2 t2.length c2] 26)).alloc (.cells #[.slice a0 t0.length c0, .slice a1 t1.length c1, .slice a2 t2.length c2] 25)) (some ⟨w.heap.size + 1, 0, none⟩) 3 [t0, t1, t2] := by
    have h0' := h0.below (below1 w (.cells #[.slice a0 t0.length c0, .slice a1 t1.length c1, .slice a2 t2.length c2] 26))
    have h1' := h1.below (below1 w (.cells #[.slice a0 t0.length c0, .slice a1 t1.length c1, .slice a2 t2.length c2] 26))
    have h2' := h2.below (below1 w (.cells #[.slice a0 t0.length c0, .slice a1 t1.length c1, .slice a2 t2.length c2] 26))
    have := Sl.new (E := slE intE) (S := S) (w.alloc (.cells #[.slice a0 t0.length c0, .slice a1 t1.length c1, .slice a2 t2.length c2] 26)) [[.slice a0 t0.length c0], [.slice a1 t1.length c1], [.slice a2 t2.length c2]] [t0, t1, t2] 25 rfl (by unfold big; simp) (fun i g1 g2 => by
      match i, g1 with
      | 0, _ => exact ⟨_, _, rfl, h0'⟩
      | 1, _ => exact ⟨_, _, rfl, h1'⟩
      | 2, _ => exact ⟨_, _, rfl, h2'⟩)
    rw [World.size_alloc] at this
    exact this.any
  have hB := below2 w (.cells #[.slice a0 t0.length c0, .slice a1 t1.length c1, .slice a2 t2.length c2] 26) (.cells #[.slice a0 t0.length c0, .slice a1 t1.length c1, .slice a2 t2.length c2] 25)
  have q0 : ((w.alloc (.cells #[.slice a0 t0.length c0, .slice a1 t1.length c1, .slice a2 t2.length c2] 26)).alloc (.cells #[.slice a0 t0.length c0, .slice a1 t1.length c1, .slice a2 t2.length c2] 25)).cell? ⟨w.heap.size, 0, none⟩ = some (.slice a0 t0.length c0) := by go_simp
  have q1 : ((w.alloc (.cells #[.slice a0 t0.length c0, .slice a1 t1.length c1, .slice a2 t2.length c2] 26)).alloc (.cells #[.slice a0 t0.length c0, .slice a1 t1.length c1, .slice a2 t2.length c2] 25)).cell? ⟨w.heap.size, 1, none⟩ = some (.slice a1 t1.length c1) := by go_simp
  have q2 : ((w.alloc (.cells #[.slice a0 t0.length c0, .slice a1 t1.length c1, .slice a2 t2.length c2] 26)).alloc (.cells #[.slice a0 t0.length c0, .slice a1 t1.length c1, .slice a2 t2.length c2] 25)).cell? ⟨w.heap.size, 2, none⟩ = some (.slice a2 t2.length c2) := by go_simp
  generalize ((w.alloc (.cells #[.slice a0 t0.length c0, .slice a1 t1.length c1, .slice a2 t2.length c2] 26)).alloc (.cells #[.slice a0 t0.length c0, .slice a1 t1.length c1, .slice a2 t2.length c2] 25)) = W at *
  have hs' := hs.below hB
  have h0' := h0.below hB
  have h1' := h1.below hB
  have h2' := h2.below hB
  have cs := Small_any p (some ⟨w.heap.size + 1, 0, none⟩) k 3 s [t0, t1, t2] W hs' hTs
  obtain ⟨sm, hsm⟩ : ∃ sm, smallT s [t0, t1, t2] = sm := ⟨_, rfl⟩
  rw [hsm] at cs
  refine cs.mono ?_
  rintro e w' ⟨rfl, rfl⟩
  clear cs hTs hsm hs h0 h1 h2
  cases sm with
  | false =>
    go_wp2_with fail
    refine (awake_any W).mono ?_
    rintro e w1 ⟨rfl, hb1⟩
    go_wp2_with fail
    go_ret
    exact ⟨rfl, hB.trans (hb1.mono hB.size)⟩
  | true =>
    have hA01 := fun W' (hb : Below W.heap.size W W') => Alike_any p a0 a1 k c0 c1 s t0 t1 W' (hs'.below hb) (h0'.below hb) (h1'.below hb)
    have hA12 := fun W' (hb : Below W.heap.size W W') => Alike_any p a1 a2 k c1 c2 s t1 t2 W' (hs'.below hb) (h1'.below hb) (h2'.below hb)
    have hA02 := fun W' (hb : Below W.heap.size W W') => Alike_any p a0 a2 k c0 c2 s t0 t2 W' (hs'.below hb) (h0'.below hb) (h2'.below hb)
    have hA10 := fun W' (hb : Below W.heap.size W W') => Alike_any p a1 a0 k c1 c0 s t1 t0 W' (hs'.below hb) (h1'.below hb) (h0'.below hb)
    have hA00 := fun W' (hb : Below W.heap.size W W') => Alike_any p a0 a0 k c0 c0 s t0 t0 W' (hs'.below hb) (h0'.below hb) (h0'.below hb)
    have hR01 := fun W' (hb : Below W.heap.size W W') => rAlike_any p a0 a1 k c0 c1 s t0 t1 W' (hs'.below hb) (h0'.below hb) (h1'.below hb)
    have hR12 := fun W' (hb : Below W.heap.size W W') => rAlike_any p a1 a2 k c1 c2 s t1 t2 W' (hs'.below hb) (h1'.below hb) (h2'.below hb)
    have hR02 := fun W' (hb : Below W.heap.size W W') => rAlike_any p a0 a2 k c0 c2 s t0 t2 W' (hs'.below hb) (h0'.below hb) (h2'.below hb)
    have hV0 := fun W' (hb : Below W.heap.size W W') => Valid_any p a0 k c0 s t0 W' (hs'.below hb) (h0'.below hb)
    have htr := alikeT_trans s t0 t1 t2
    rw [alikeT_symm s t1 t0] at hA10
    rw [alikeT_refl] at hA00
    generalize alikeT s t0 t1 = x at *
    generalize alikeT s t1 t2 = y at *
    generalize alikeT s t0 t2 = z at *
    generalize okT s t0 = o at *
    have hA01H := Lib.hid hA01
    have hA12H := Lib.hid hA12
    have hA02H := Lib.hid hA02
    have hA10H := Lib.hid hA10
    have hA00H := Lib.hid hA00
    have hR01H := Lib.hid hR01
    have hR12H := Lib.hid hR12
    have hR02H := Lib.hid hR02
    have hV0H := Lib.hid hV0
    have htrH := Lib.hid htr
    clear hA01 hA12 hA02 hA10 hA00 hR01 hR12 hR02 hV0 htr hs' h0' h1' h2'
    go_wp2_with fail
    go_region_held3 (fun w' => w'.cell? ⟨w.heap.size, 0, none⟩ = some (.slice a0 t0.length c0) ∧ w'.cell? ⟨w.heap.size, 1, none⟩ = some (.slice a1 t1.length c1) ∧ w'.cell? ⟨w.heap.size, 2, none⟩ = some (.slice a2 t2.length c2) ∧ Below W.heap.size W w')
      ((first | exact Three.start q0 q1 q2 (.refl _ _) | (refine Three.call ?_ hb; assumption)))
      ((go_at_call 14; (first | (with_reducible refine (hA01H.out _ ?_).mono ?_) | (with_reducible refine (hA12H.out _ ?_).mono ?_) | (with_reducible refine (hA02H.out _ ?_).mono ?_)); exact (And.right (And.right (And.right ‹_›))); rintro e w' ⟨rfl, hb⟩))
    have hS3 : Three w.heap.size (.slice a0 t0.length c0) (.slice a1 t1.length c1) (.slice a2 t2.length c2) W w' := by unfold Three; assumption
    obtain ⟨r0, r1, r2, hB3⟩ := hS3
    have nx : (x != x) = false := by simp
    have ny : (y != y) = false := by simp
    have nz : (z != z) = false := by simp
    go_wp2_with fail
    refine (hR01H.out _ hB3).mono ?_
    rintro e w4 ⟨rfl, hb4⟩
    obtain ⟨r0, r1, r2, hB4⟩ := Three.call ⟨r0, r1, r2, hB3⟩ hb4
    go_wp2_with fail
    refine (hR12H.out _ hB4).mono ?_
    rintro e w5 ⟨rfl, hb5⟩
    obtain ⟨r0, r1, r2, hB5⟩ := Three.call ⟨r0, r1, r2, hB4⟩ hb5
    go_wp2_with fail
    refine (hR02H.out _ hB5).mono ?_
    rintro e w6 ⟨rfl, hb6⟩
    obtain ⟨r0, r1, r2, hB6⟩ := Three.call ⟨r0, r1, r2, hB5⟩ hb6
    go_wp2_with fail
    refine (hA10H.out _ hB6).mono ?_
    rintro e w7 ⟨rfl, hb7⟩
    obtain ⟨r0, r1, r2, hB7⟩ := Three.call ⟨r0, r1, r2, hB6⟩ hb7
    go_wp2_with fail
    have eo : (o == o) = true := by simp
    have htr := htrH.out
    clear hA01H hA12H hA02H hA10H hR01H hR12H hR02H htrH hb4 hb5 hb6 hb7 hB3 hB4 hB5 hB6 nx ny nz
    have hxyz : (x = false) ∨ (x = true ∧ y = false) ∨ (x = true ∧ y = true ∧ z = true) := by
      cases x <;> cases y <;> cases z <;> simp_all
    clear htr
    rcases hxyz with rfl | ⟨rfl, rfl⟩ | ⟨rfl, rfl, rfl⟩
    -- REGION 6
    · refine wp_region_held_drew (S := fun w' => w'.cell? ⟨w.heap.size, 0, none⟩ = some (.slice a0 t0.length c0) ∧ w'.cell? ⟨w.heap.size, 1, none⟩ = some (.slice a1 t1.length c1) ∧ w'.cell? ⟨w.heap.size, 2, none⟩ = some (.slice a2 t2.length c2) ∧ Below W.heap.size W w') (by kernel_rfl) (Three.start r0 r1 r2 hB7) (fun hS => ?_)
      refine region_take 0 (some 75) (v := ?_) rfl rfl (by kernel_rfl) (by kernel_rfl) (by kernel_rfl) (fun _ _ _ h => h) rfl ?_ hS ?_
      rotate_left
      · (intro w9 hS9; go_simp; try (with_reducible rfl))
      simp only [Act.put, List.setIfInBounds_toArray, List.set_cons_zero, List.set_cons_succ]
      refine region_take 1 (some 76) (v := ?_) rfl rfl (by kernel_rfl) (by kernel_rfl) (by kernel_rfl) (fun _ _ _ h => h) rfl ?_ hS ?_
      rotate_left
      · (intro w9 hS9; go_simp; try (with_reducible rfl))
      simp only [Act.put, List.setIfInBounds_toArray, List.set_cons_zero, List.set_cons_succ]
      refine region_take 2 (some 77) (v := ?_) rfl rfl (by kernel_rfl) (by kernel_rfl) (by kernel_rfl) (fun _ _ _ h => h) rfl ?_ hS ?_
      rotate_left
      · (intro w9 hS9; go_simp; try (with_reducible rfl))
      simp only [Act.put, List.setIfInBounds_toArray, List.set_cons_zero, List.set_cons_succ]
      refine region_take 3 (some 78) (v := ?_) rfl rfl (by kernel_rfl) (by kernel_rfl) (by kernel_rfl) (fun _ _ _ h => h) rfl ?_ hS ?_
      rotate_left
      · (intro w9 hS9; go_simp; try (with_reducible rfl))
      simp only [Act.put, List.setIfInBounds_toArray, List.set_cons_zero, List.set_cons_succ]
      refine region_take 4 (some 79) (v := ?_) rfl rfl (by kernel_rfl) (by kernel_rfl) (by kernel_rfl) (fun _ _ _ h => h) rfl ?_ hS ?_
      rotate_left
      · (intro w9 hS9; go_simp; try (with_reducible rfl))
      simp only [Act.put, List.setIfInBounds_toArray, List.set_cons_zero, List.set_cons_succ]
      refine region_take 6 (some 81) (v := ?_) rfl rfl (by kernel_rfl) (by kernel_rfl) (by kernel_rfl) (fun _ _ _ h => h) rfl ?_ hS ?_
      rotate_left
      · (intro w9 hS9; go_simp; try (with_reducible rfl))
      simp only [Act.put, List.setIfInBounds_toArray, List.set_cons_zero, List.set_cons_succ]
      refine region_take 7 (some 82) (v := ?_) rfl rfl (by kernel_rfl) (by kernel_rfl) (by kernel_rfl) (fun _ _ _ h => h) rfl ?_ hS ?_
      rotate_left
      · (intro w9 hS9; go_simp; try (with_reducible rfl))
      simp only [Act.put, List.setIfInBounds_toArray, List.set_cons_zero, List.set_cons_succ]
      refine region_take 8 (some 83) (v := ?_) rfl rfl (by kernel_rfl) (by kernel_rfl) (by kernel_rfl) (fun _ _ _ h => h) rfl ?_ hS ?_
      rotate_left
      · (intro w9 hS9; go_simp; try (with_reducible rfl))
      simp only [Act.put, List.setIfInBounds_toArray, List.set_cons_zero, List.set_cons_succ]
      refine region_call 5 rfl (by kernel_rfl) (fun K hK => ?_)
      go_simp
      refine (hA00H.out _ hS.2.2.2).mono ?_
      rintro e w8 ⟨rfl, hb8⟩
      refine hK.out _ _ (Three.call hS hb8) ?_
      clear hS hK
      intro hS
      refine region_call 9 rfl (by kernel_rfl) (fun K hK => ?_)
      go_simp
      refine (hV0H.out _ hS.2.2.2).mono ?_
      rintro e w8 ⟨rfl, hb8⟩
      refine hK.out _ _ (Three.call hS hb8) ?_
      clear hS hK
      intro hS
      refine region_take 10 (some 85) (v := ?_) rfl rfl (by kernel_rfl) (by kernel_rfl) (by kernel_rfl) (fun _ _ _ h => h) rfl ?_ hS ?_
      rotate_left
      · (intro w9 hS9; go_simp; try (with_reducible rfl))
      simp only [Act.put, List.setIfInBounds_toArray, List.set_cons_zero, List.set_cons_succ]
      refine region_take 11 (some 86) (v := ?_) rfl rfl (by kernel_rfl) (by kernel_rfl) (by kernel_rfl) (fun _ _ _ h => h) rfl ?_ hS ?_
      rotate_left
      · (intro w9 hS9; go_simp; try (with_reducible rfl))
      simp only [Act.put, List.setIfInBounds_toArray, List.set_cons_zero, List.set_cons_succ]
      refine region_take 12 (some 87) (v := ?_) rfl rfl (by kernel_rfl) (by kernel_rfl) (by kernel_rfl) (fun _ _ _ h => h) rfl ?_ hS ?_
      rotate_left
      · (intro w9 hS9; go_simp; try (with_reducible rfl))
      simp only [Act.put, List.setIfInBounds_toArray, List.set_cons_zero, List.set_cons_succ]
      refine region_take 13 (some 88) (v := ?_) rfl rfl (by kernel_rfl) (by kernel_rfl) (by kernel_rfl) (fun _ _ _ h => h) rfl ?_ hS ?_
      rotate_left
      · (intro w9 hS9; go_simp; try (with_reducible rfl))
      simp only [Act.put, List.setIfInBounds_toArray, List.set_cons_zero, List.set_cons_succ]
      refine region_take 14 (some 89) (v := ?_) rfl rfl (by kernel_rfl) (by kernel_rfl) (by kernel_rfl) (fun _ _ _ h => h) rfl ?_ hS ?_
      rotate_left
      · (intro w9 hS9; go_simp; try (with_reducible rfl))
      simp only [Act.put, List.setIfInBounds_toArray, List.set_cons_zero, List.set_cons_succ]
      refine region_skip 15 (some 90) rfl rfl (by kernel_rfl) (by kernel_rfl) (by kernel_rfl) (fun _ _ _ h => h) rfl hS ?_
      simp only [Act.put, List.setIfInBounds_toArray, List.set_cons_zero, List.set_cons_succ]
      refine region_skip 16 (some 91) rfl rfl (by kernel_rfl) (by kernel_rfl) (by kernel_rfl) (fun _ _ _ h => h) rfl hS ?_
      simp only [Act.put, List.setIfInBounds_toArray, List.set_cons_zero, List.set_cons_succ]
      refine region_take 17 (some 92) (v := ?_) rfl rfl (by kernel_rfl) (by kernel_rfl) (by kernel_rfl) (fun _ _ _ h => h) rfl ?_ hS ?_
      rotate_left
      · (intro w9 hS9; go_simp; try (with_reducible rfl))
      simp only [Act.put, List.setIfInBounds_toArray, List.set_cons_zero, List.set_cons_succ]
      refine region_take 18 (some 93) (v := ?_) rfl rfl (by kernel_rfl) (by kernel_rfl) (by kernel_rfl) (fun _ _ _ h => h) rfl ?_ hS ?_
      rotate_left
      · (intro w9 hS9; go_simp; try (with_reducible rfl))
      simp only [Act.put, List.setIfInBounds_toArray, List.set_cons_zero, List.set_cons_succ]
      refine region_skip 19 (some 94) rfl rfl (by kernel_rfl) (by kernel_rfl) (by kernel_rfl) (fun _ _ _ h => h) rfl hS ?_
      simp only [Act.put, List.setIfInBounds_toArray, List.set_cons_zero, List.set_cons_succ]
      refine region_take 20 (some 95) (v := ?_) rfl rfl (by kernel_rfl) (by kernel_rfl) (by kernel_rfl) (fun _ _ _ h => h) rfl ?_ hS ?_
      rotate_left
      · (intro w9 hS9; go_simp; try (with_reducible rfl))
      simp only [Act.put, List.setIfInBounds_toArray, List.set_cons_zero, List.set_cons_succ]
      refine region_take 21 (some 96) (v := ?_) rfl rfl (by kernel_rfl) (by kernel_rfl) (by kernel_rfl) (fun _ _ _ h => h) rfl ?_ hS ?_
      rotate_left
      · (intro w9 hS9; go_simp; try (with_reducible rfl))
      simp only [Act.put, List.setIfInBounds_toArray, List.set_cons_zero, List.set_cons_succ]
      refine region_take 22 (some 97) (v := ?_) rfl rfl (by kernel_rfl) (by kernel_rfl) (by kernel_rfl) (fun _ _ _ h => h) rfl ?_ hS ?_
      rotate_left
      · (intro w9 hS9; go_simp; try (with_reducible rfl))
      simp only [Act.put, List.setIfInBounds_toArray, List.set_cons_zero, List.set_cons_succ]
      refine region_call 23 rfl (by kernel_rfl) (fun K hK => ?_)
      go_simp
      refine (awake_any _).mono ?_
      rintro e w8 ⟨rfl, hb8⟩
      refine hK.out _ _ (Three.call hS hb8) ?_
      clear hS hK
      intro hS
      refine region_take 24 (some 99) (v := ?_) rfl rfl (by kernel_rfl) (by kernel_rfl) (by kernel_rfl) (fun _ _ _ h => h) rfl ?_ hS ?_
      rotate_left
      · (intro w9 hS9; go_simp; try (with_reducible rfl))
      simp only [Act.put, List.setIfInBounds_toArray, List.set_cons_zero, List.set_cons_succ]
      refine region_take 25 (some 4) (v := ?_) rfl rfl (by kernel_rfl) (by kernel_rfl) (by kernel_rfl) (fun _ _ _ h => h) rfl ?_ hS ?_
      rotate_left
      · (intro w9 hS9; go_simp; try (with_reducible rfl))
      simp only [Act.put, List.setIfInBounds_toArray, List.set_cons_zero, List.set_cons_succ]
      refine wpAnyH_done (by kernel_rfl) ?_ _
      go_wp2_with fail
      go_ret
      exact ⟨rfl, hB.trans (hS.2.2.2.mono hB.size)⟩
    · refine wp_region_held_drew (S := fun w' => w'.cell? ⟨w.heap.size, 0, none⟩ = some (.slice a0 t0.length c0) ∧ w'.cell? ⟨w.heap.size, 1, none⟩ = some (.slice a1 t1.length c1) ∧ w'.cell? ⟨w.heap.size, 2, none⟩ = some (.slice a2 t2.length c2) ∧ Below W.heap.size W w') (by kernel_rfl) (Three.start r0 r1 r2 hB7) (fun hS => ?_)
      refine region_take 0 (some 75) (v := ?_) rfl rfl (by kernel_rfl) (by kernel_rfl) (by kernel_rfl) (fun _ _ _ h => h) rfl ?_ hS ?_
      rotate_left
      · (intro w9 hS9; go_simp; try (with_reducible rfl))
      simp only [Act.put, List.setIfInBounds_toArray, List.set_cons_zero, List.set_cons_succ]
      refine region_take 1 (some 76) (v := ?_) rfl rfl (by kernel_rfl) (by kernel_rfl) (by kernel_rfl) (fun _ _ _ h => h) rfl ?_ hS ?_
      rotate_left
      · (intro w9 hS9; go_simp; try (with_reducible rfl))
      simp only [Act.put, List.setIfInBounds_toArray, List.set_cons_zero, List.set_cons_succ]
      refine region_take 2 (some 77) (v := ?_) rfl rfl (by kernel_rfl) (by kernel_rfl) (by kernel_rfl) (fun _ _ _ h => h) rfl ?_ hS ?_
      rotate_left
      · (intro w9 hS9; go_simp; try (with_reducible rfl))
      simp only [Act.put, List.setIfInBounds_toArray, List.set_cons_zero, List.set_cons_succ]
      refine region_take 3 (some 78) (v := ?_) rfl rfl (by kernel_rfl) (by kernel_rfl) (by kernel_rfl) (fun _ _ _ h => h) rfl ?_ hS ?_
      rotate_left
      · (intro w9 hS9; go_simp; try (with_reducible rfl))
      simp only [Act.put, List.setIfInBounds_toArray, List.set_cons_zero, List.set_cons_succ]
      refine region_take 4 (some 79) (v := ?_) rfl rfl (by kernel_rfl) (by kernel_rfl) (by kernel_rfl) (fun _ _ _ h => h) rfl ?_ hS ?_
      rotate_left
      · (intro w9 hS9; go_simp; try (with_reducible rfl))
      simp only [Act.put, List.setIfInBounds_toArray, List.set_cons_zero, List.set_cons_succ]
      refine region_take 6 (some 81) (v := ?_) rfl rfl (by kernel_rfl) (by kernel_rfl) (by kernel_rfl) (fun _ _ _ h => h) rfl ?_ hS ?_
      rotate_left
      · (intro w9 hS9; go_simp; try (with_reducible rfl))
      simp only [Act.put, List.setIfInBounds_toArray, List.set_cons_zero, List.set_cons_succ]
      refine region_take 7 (some 82) (v := ?_) rfl rfl (by kernel_rfl) (by kernel_rfl) (by kernel_rfl) (fun _ _ _ h => h) rfl ?_ hS ?_
      rotate_left
      · (intro w9 hS9; go_simp; try (with_reducible rfl))
      simp only [Act.put, List.setIfInBounds_toArray, List.set_cons_zero, List.set_cons_succ]
      refine region_take 8 (some 83) (v := ?_) rfl rfl (by kernel_rfl) (by kernel_rfl) (by kernel_rfl) (fun _ _ _ h => h) rfl ?_ hS ?_
      rotate_left
      · (intro w9 hS9; go_simp; try (with_reducible rfl))
      simp only [Act.put, List.setIfInBounds_toArray, List.set_cons_zero, List.set_cons_succ]
      refine region_call 5 rfl (by kernel_rfl) (fun K hK => ?_)
      go_simp
      refine (hA00H.out _ hS.2.2.2).mono ?_
      rintro e w8 ⟨rfl, hb8⟩
      refine hK.out _ _ (Three.call hS hb8) ?_
      clear hS hK
      intro hS
      refine region_call 9 rfl (by kernel_rfl) (fun K hK => ?_)
      go_simp
      refine (hV0H.out _ hS.2.2.2).mono ?_
      rintro e w8 ⟨rfl, hb8⟩
      refine hK.out _ _ (Three.call hS hb8) ?_
      clear hS hK
      intro hS
      refine region_take 10 (some 85) (v := ?_) rfl rfl (by kernel_rfl) (by kernel_rfl) (by kernel_rfl) (fun _ _ _ h => h) rfl ?_ hS ?_
      rotate_left
      · (intro w9 hS9; go_simp; try (with_reducible rfl))
      simp only [Act.put, List.setIfInBounds_toArray, List.set_cons_zero, List.set_cons_succ]
      refine region_take 11 (some 86) (v := ?_) rfl rfl (by kernel_rfl) (by kernel_rfl) (by kernel_rfl) (fun _ _ _ h => h) rfl ?_ hS ?_
      rotate_left
      · (intro w9 hS9; go_simp; try (with_reducible rfl))
      simp only [Act.put, List.setIfInBounds_toArray, List.set_cons_zero, List.set_cons_succ]
      refine region_take 12 (some 87) (v := ?_) rfl rfl (by kernel_rfl) (by kernel_rfl) (by kernel_rfl) (fun _ _ _ h => h) rfl ?_ hS ?_
      rotate_left
      · (intro w9 hS9; go_simp; try (with_reducible rfl))
      simp only [Act.put, List.setIfInBounds_toArray, List.set_cons_zero, List.set_cons_succ]
      refine region_take 13 (some 88) (v := ?_) rfl rfl (by kernel_rfl) (by kernel_rfl) (by kernel_rfl) (fun _ _ _ h => h) rfl ?_ hS ?_
      rotate_left
      · (intro w9 hS9; go_simp; try (with_reducible rfl))
      simp only [Act.put, List.setIfInBounds_toArray, List.set_cons_zero, List.set_cons_succ]
      refine region_take 14 (some 89) (v := ?_) rfl rfl (by kernel_rfl) (by kernel_rfl) (by kernel_rfl) (fun _ _ _ h => h) rfl ?_ hS ?_
      rotate_left
      · (intro w9 hS9; go_simp; try (with_reducible rfl))
      simp only [Act.put, List.setIfInBounds_toArray, List.set_cons_zero, List.set_cons_succ]
      refine region_take 15 (some 90) (v := ?_) rfl rfl (by kernel_rfl) (by kernel_rfl) (by kernel_rfl) (fun _ _ _ h => h) rfl ?_ hS ?_
      rotate_left
      · (intro w9 hS9; go_simp; try (with_reducible rfl))
      simp only [Act.put, List.setIfInBounds_toArray, List.set_cons_zero, List.set_cons_succ]
      refine region_take 16 (some 91) (v := ?_) rfl rfl (by kernel_rfl) (by kernel_rfl) (by kernel_rfl) (fun _ _ _ h => h) rfl ?_ hS ?_
      rotate_left
      · (intro w9 hS9; go_simp; try (with_reducible rfl))
      simp only [Act.put, List.setIfInBounds_toArray, List.set_cons_zero, List.set_cons_succ]
      refine region_take 17 (some 92) (v := ?_) rfl rfl (by kernel_rfl) (by kernel_rfl) (by kernel_rfl) (fun _ _ _ h => h) rfl ?_ hS ?_
      rotate_left
      · (intro w9 hS9; go_simp; try (with_reducible rfl))
      simp only [Act.put, List.setIfInBounds_toArray, List.set_cons_zero, List.set_cons_succ]
      refine region_take 18 (some 93) (v := ?_) rfl rfl (by kernel_rfl) (by kernel_rfl) (by kernel_rfl) (fun _ _ _ h => h) rfl ?_ hS ?_
      rotate_left
      · (intro w9 hS9; go_simp; try (with_reducible rfl))
      simp only [Act.put, List.setIfInBounds_toArray, List.set_cons_zero, List.set_cons_succ]
      refine region_skip 19 (some 94) rfl rfl (by kernel_rfl) (by kernel_rfl) (by kernel_rfl) (fun _ _ _ h => h) rfl hS ?_
      simp only [Act.put, List.setIfInBounds_toArray, List.set_cons_zero, List.set_cons_succ]
      refine region_take 20 (some 95) (v := ?_) rfl rfl (by kernel_rfl) (by kernel_rfl) (by kernel_rfl) (fun _ _ _ h => h) rfl ?_ hS ?_
      rotate_left
      · (intro w9 hS9; go_simp; try (with_reducible rfl))
      simp only [Act.put, List.setIfInBounds_toArray, List.set_cons_zero, List.set_cons_succ]
      refine region_take 21 (some 96) (v := ?_) rfl rfl (by kernel_rfl) (by kernel_rfl) (by kernel_rfl) (fun _ _ _ h => h) rfl ?_ hS ?_
      rotate_left
      · (intro w9 hS9; go_simp; try (with_reducible rfl))
      simp only [Act.put, List.setIfInBounds_toArray, List.set_cons_zero, List.set_cons_succ]
      refine region_take 22 (some 97) (v := ?_) rfl rfl (by kernel_rfl) (by kernel_rfl) (by kernel_rfl) (fun _ _ _ h => h) rfl ?_ hS ?_
      rotate_left
      · (intro w9 hS9; go_simp; try (with_reducible rfl))
      simp only [Act.put, List.setIfInBounds_toArray, List.set_cons_zero, List.set_cons_succ]
      refine region_call 23 rfl (by kernel_rfl) (fun K hK => ?_)
      go_simp
      refine (awake_any _).mono ?_
      rintro e w8 ⟨rfl, hb8⟩
      refine hK.out _ _ (Three.call hS hb8) ?_
      clear hS hK
      intro hS
      refine region_take 24 (some 99) (v := ?_) rfl rfl (by kernel_rfl) (by kernel_rfl) (by kernel_rfl) (fun _ _ _ h => h) rfl ?_ hS ?_
      rotate_left
      · (intro w9 hS9; go_simp; try (with_reducible rfl))
      simp only [Act.put, List.setIfInBounds_toArray, List.set_cons_zero, List.set_cons_succ]
      refine region_take 25 (some 4) (v := ?_) rfl rfl (by kernel_rfl) (by kernel_rfl) (by kernel_rfl) (fun _ _ _ h => h) rfl ?_ hS ?_
      rotate_left
      · (intro w9 hS9; go_simp; try (with_reducible rfl))
      simp only [Act.put, List.setIfInBounds_toArray, List.set_cons_zero, List.set_cons_succ]
      refine wpAnyH_done (by kernel_rfl) ?_ _
      go_wp2_with fail
      go_ret
      exact ⟨rfl, hB.trans (hS.2.2.2.mono hB.size)⟩
    · refine wp_region_held_drew (S := fun w' => w'.cell? ⟨w.heap.size, 0, none⟩ = some (.slice a0 t0.length c0) ∧ w'.cell? ⟨w.heap.size, 1, none⟩ = some (.slice a1 t1.length c1) ∧ w'.cell? ⟨w.heap.size, 2, none⟩ = some (.slice a2 t2.length c2) ∧ Below W.heap.size W w') (by kernel_rfl) (Three.start r0 r1 r2 hB7) (fun hS => ?_)
      refine region_take 0 (some 75) (v := ?_) rfl rfl (by kernel_rfl) (by kernel_rfl) (by kernel_rfl) (fun _ _ _ h => h) rfl ?_ hS ?_
      rotate_left
      · (intro w9 hS9; go_simp; try (with_reducible rfl))
      simp only [Act.put, List.setIfInBounds_toArray, List.set_cons_zero, List.set_cons_succ]
      refine region_take 1 (some 76) (v := ?_) rfl rfl (by kernel_rfl) (by kernel_rfl) (by kernel_rfl) (fun _ _ _ h => h) rfl ?_ hS ?_
      rotate_left
      · (intro w9 hS9; go_simp; try (with_reducible rfl))
      simp only [Act.put, List.setIfInBounds_toArray, List.set_cons_zero, List.set_cons_succ]
      refine region_take 2 (some 77) (v := ?_) rfl rfl (by kernel_rfl) (by kernel_rfl) (by kernel_rfl) (fun _ _ _ h => h) rfl ?_ hS ?_
      rotate_left
      · (intro w9 hS9; go_simp; try (with_reducible rfl))
      simp only [Act.put, List.setIfInBounds_toArray, List.set_cons_zero, List.set_cons_succ]
      refine region_take 3 (some 78) (v := ?_) rfl rfl (by kernel_rfl) (by kernel_rfl) (by kernel_rfl) (fun _ _ _ h => h) rfl ?_ hS ?_
      rotate_left
      · (intro w9 hS9; go_simp; try (with_reducible rfl))
      simp only [Act.put, List.setIfInBounds_toArray, List.set_cons_zero, List.set_cons_succ]
      refine region_take 4 (some 79) (v := ?_) rfl rfl (by kernel_rfl) (by kernel_rfl) (by kernel_rfl) (fun _ _ _ h => h) rfl ?_ hS ?_
      rotate_left
      · (intro w9 hS9; go_simp; try (with_reducible rfl))
      simp only [Act.put, List.setIfInBounds_toArray, List.set_cons_zero, List.set_cons_succ]
      refine region_take 6 (some 81) (v := ?_) rfl rfl (by kernel_rfl) (by kernel_rfl) (by kernel_rfl) (fun _ _ _ h => h) rfl ?_ hS ?_
      rotate_left
      · (intro w9 hS9; go_simp; try (with_reducible rfl))
      simp only [Act.put, List.setIfInBounds_toArray, List.set_cons_zero, List.set_cons_succ]
      refine region_take 7 (some 82) (v := ?_) rfl rfl (by kernel_rfl) (by kernel_rfl) (by kernel_rfl) (fun _ _ _ h => h) rfl ?_ hS ?_
      rotate_left
      · (intro w9 hS9; go_simp; try (with_reducible rfl))
      simp only [Act.put, List.setIfInBounds_toArray, List.set_cons_zero, List.set_cons_succ]
      refine region_take 8 (some 83) (v := ?_) rfl rfl (by kernel_rfl) (by kernel_rfl) (by kernel_rfl) (fun _ _ _ h => h) rfl ?_ hS ?_
      rotate_left
      · (intro w9 hS9; go_simp; try (with_reducible rfl))
      simp only [Act.put, List.setIfInBounds_toArray, List.set_cons_zero, List.set_cons_succ]
      refine region_call 5 rfl (by kernel_rfl) (fun K hK => ?_)
      go_simp
      refine (hA00H.out _ hS.2.2.2).mono ?_
      rintro e w8 ⟨rfl, hb8⟩
      refine hK.out _ _ (Three.call hS hb8) ?_
      clear hS hK
      intro hS
      refine region_call 9 rfl (by kernel_rfl) (fun K hK => ?_)
      go_simp
      refine (hV0H.out _ hS.2.2.2).mono ?_
      rintro e w8 ⟨rfl, hb8⟩
      refine hK.out _ _ (Three.call hS hb8) ?_
      clear hS hK
      intro hS
      refine region_take 10 (some 85) (v := ?_) rfl rfl (by kernel_rfl) (by kernel_rfl) (by kernel_rfl) (fun _ _ _ h => h) rfl ?_ hS ?_
      rotate_left
      · (intro w9 hS9; go_simp; try (with_reducible rfl))
      simp only [Act.put, List.setIfInBounds_toArray, List.set_cons_zero, List.set_cons_succ]
      refine region_take 11 (some 86) (v := ?_) rfl rfl (by kernel_rfl) (by kernel_rfl) (by kernel_rfl) (fun _ _ _ h => h) rfl ?_ hS ?_
      rotate_left
      · (intro w9 hS9; go_simp; try (with_reducible rfl))
      simp only [Act.put, List.setIfInBounds_toArray, List.set_cons_zero, List.set_cons_succ]
      refine region_take 12 (some 87) (v := ?_) rfl rfl (by kernel_rfl) (by kernel_rfl) (by kernel_rfl) (fun _ _ _ h => h) rfl ?_ hS ?_
      rotate_left
      · (intro w9 hS9; go_simp; try (with_reducible rfl))
      simp only [Act.put, List.setIfInBounds_toArray, List.set_cons_zero, List.set_cons_succ]
      refine region_take 13 (some 88) (v := ?_) rfl rfl (by kernel_rfl) (by kernel_rfl) (by kernel_rfl) (fun _ _ _ h => h) rfl ?_ hS ?_
      rotate_left
      · (intro w9 hS9; go_simp; try (with_reducible rfl))
      simp only [Act.put, List.setIfInBounds_toArray, List.set_cons_zero, List.set_cons_succ]
      refine region_take 14 (some 89) (v := ?_) rfl rfl (by kernel_rfl) (by kernel_rfl) (by kernel_rfl) (fun _ _ _ h => h) rfl ?_ hS ?_
      rotate_left
      · (intro w9 hS9; go_simp; try (with_reducible rfl))
      simp only [Act.put, List.setIfInBounds_toArray, List.set_cons_zero, List.set_cons_succ]
      refine region_take 15 (some 90) (v := ?_) rfl rfl (by kernel_rfl) (by kernel_rfl) (by kernel_rfl) (fun _ _ _ h => h) rfl ?_ hS ?_
      rotate_left
      · (intro w9 hS9; go_simp; try (with_reducible rfl))
      simp only [Act.put, List.setIfInBounds_toArray, List.set_cons_zero, List.set_cons_succ]
      refine region_take 16 (some 91) (v := ?_) rfl rfl (by kernel_rfl) (by kernel_rfl) (by kernel_rfl) (fun _ _ _ h => h) rfl ?_ hS ?_
      rotate_left
      · (intro w9 hS9; go_simp; try (with_reducible rfl))
      simp only [Act.put, List.setIfInBounds_toArray, List.set_cons_zero, List.set_cons_succ]
      refine region_take 17 (some 92) (v := ?_) rfl rfl (by kernel_rfl) (by kernel_rfl) (by kernel_rfl) (fun _ _ _ h => h) rfl ?_ hS ?_
      rotate_left
      · (intro w9 hS9; go_simp; try (with_reducible rfl))
      simp only [Act.put, List.setIfInBounds_toArray, List.set_cons_zero, List.set_cons_succ]
      refine region_take 18 (some 93) (v := ?_) rfl rfl (by kernel_rfl) (by kernel_rfl) (by kernel_rfl) (fun _ _ _ h => h) rfl ?_ hS ?_
      rotate_left
      · (intro w9 hS9; go_simp; try (with_reducible rfl))
      simp only [Act.put, List.setIfInBounds_toArray, List.set_cons_zero, List.set_cons_succ]
      refine region_take 19 (some 94) (v := ?_) rfl rfl (by kernel_rfl) (by kernel_rfl) (by kernel_rfl) (fun _ _ _ h => h) rfl ?_ hS ?_
      rotate_left
      · (intro w9 hS9; go_simp; try (with_reducible rfl))
      simp only [Act.put, List.setIfInBounds_toArray, List.set_cons_zero, List.set_cons_succ]
      refine region_take 20 (some 95) (v := ?_) rfl rfl (by kernel_rfl) (by kernel_rfl) (by kernel_rfl) (fun _ _ _ h => h) rfl ?_ hS ?_
      rotate_left
      · (intro w9 hS9; go_simp; try (with_reducible rfl))
      simp only [Act.put, List.setIfInBounds_toArray, List.set_cons_zero, List.set_cons_succ]
      refine region_take 21 (some 96) (v := ?_) rfl rfl (by kernel_rfl) (by kernel_rfl) (by kernel_rfl) (fun _ _ _ h => h) rfl ?_ hS ?_
      rotate_left
      · (intro w9 hS9; go_simp; try (with_reducible rfl))
      simp only [Act.put, List.setIfInBounds_toArray, List.set_cons_zero, List.set_cons_succ]
      refine region_take 22 (some 97) (v := ?_) rfl rfl (by kernel_rfl) (by kernel_rfl) (by kernel_rfl) (fun _ _ _ h => h) rfl ?_ hS ?_
      rotate_left
      · (intro w9 hS9; go_simp; try (with_reducible rfl))
      simp only [Act.put, List.setIfInBounds_toArray, List.set_cons_zero, List.set_cons_succ]
      refine region_call 23 rfl (by kernel_rfl) (fun K hK => ?_)
      go_simp
      refine (awake_any _).mono ?_
      rintro e w8 ⟨rfl, hb8⟩
      refine hK.out _ _ (Three.call hS hb8) ?_
      clear hS hK
      intro hS
      refine region_take 24 (some 99) (v := ?_) rfl rfl (by kernel_rfl) (by kernel_rfl) (by kernel_rfl) (fun _ _ _ h => h) rfl ?_ hS ?_
      rotate_left
      · (intro w9 hS9; go_simp; try (with_reducible rfl))
      simp only [Act.put, List.setIfInBounds_toArray, List.set_cons_zero, List.set_cons_succ]
      refine region_take 25 (some 4) (v := ?_) rfl rfl (by kernel_rfl) (by kernel_rfl) (by kernel_rfl) (fun _ _ _ h => h) rfl ?_ hS ?_
      rotate_left
      · (intro w9 hS9; go_simp; try (with_reducible rfl))
      simp only [Act.put, List.setIfInBounds_toArray, List.set_cons_zero, List.set_cons_succ]
      refine wpAnyH_done (by kernel_rfl) ?_ _
      go_wp2_with fail
      go_ret
      exact ⟨rfl, hB.trans (hS.2.2.2.mono hB.size)⟩
end Go.Proofs.Ytgpfdflpkaeedaa
