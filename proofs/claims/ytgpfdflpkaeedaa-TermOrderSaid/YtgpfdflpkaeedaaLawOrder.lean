/- The law TermOrder, walked. -/
import Derived.Test.YtgpfdflpkaeedaaWalkJ
import Derived.Test.YtgpfdflpkaeedaaRegion
namespace Go.Proofs.Ytgpfdflpkaeedaa
open Go Go.RowKit Go.Maps

theorem Three.call {b : Nat} {u0 u1 u2 : Value} {W w1 w2 : World} (h : w1.cell? ⟨b, 0, none⟩ = some u0 ∧ w1.cell? ⟨b, 1, none⟩ = some u1 ∧ w1.cell? ⟨b, 2, none⟩ = some u2 ∧ Below W.heap.size W w1) (hb : Below w1.heap.size w1 w2) :
    w2.cell? ⟨b, 0, none⟩ = some u0 ∧ w2.cell? ⟨b, 1, none⟩ = some u1 ∧ w2.cell? ⟨b, 2, none⟩ = some u2 ∧ Below W.heap.size W w2 :=
  ⟨cell_later hb h.1, cell_later hb h.2.1, cell_later hb h.2.2.1, h.2.2.2.trans (hb.mono h.2.2.2.size)⟩
theorem Three.start {b : Nat} {u0 u1 u2 : Value} {W w1 : World} (h0 : w1.cell? ⟨b, 0, none⟩ = some u0) (h1 : w1.cell? ⟨b, 1, none⟩ = some u1) (h2 : w1.cell? ⟨b, 2, none⟩ = some u2) (hb : Below W.heap.size W w1) :
    w1.drew.cell? ⟨b, 0, none⟩ = some u0 ∧ w1.drew.cell? ⟨b, 1, none⟩ = some u1 ∧ w1.drew.cell? ⟨b, 2, none⟩ = some u2 ∧ Below W.heap.size W w1.drew := ⟨h0, h1, h2, hb.drew⟩

set_option maxHeartbeats 4000000 in
theorem TermOrder_walk {S : Nat → Prop} (a0 a1 a2 : Option Addr) (c0 c1 c2 : Nat) (t0 t1 t2 : List Int) (w : World) (h0 : Ints S w a0 c0 t0) (h1 : Ints S w a1 c1 t1) (h2 : Ints S w a2 c2 t2) :
    Calls Try.prog 7 #[.agg #[.slice a0 t0.length c0, .slice a1 t1.length c1, .slice a2 t2.length c2]] w fun e w' => e = .returned (.bool true) ∧ Below w.heap.size w w' := by
  go_enter Try.func7, Try.ntmps7
  go_wp2_with fail
  have hTs : Terms (fun _ => True) ((w.alloc (.cells #[.slice a0 t0.length c0, .slice a1 t1.length c1, .slice a2 t2.length c2] 26)).alloc (.cells #[.slice a0 t0.length c0, .slice a1 t1.length c1, .slice a2 t2.length c2] 25)) (some ⟨w.heap.size + 1, 0, none⟩) 3 [t0, t1, t2] := by
    have h0' := h0.below (below1 w (.cells #[.slice a0 t0.length c0, .slice a1 t1.length c1, .slice a2 t2.length c2] 26))
    have h1' := h1.below (below1 w (.cells #[.slice a0 t0.length c0, .slice a1 t1.length c1, .slice a2 t2.length c2] 26))
    have h2' := h2.below (below1 w (.cells #[.slice a0 t0.length c0, .slice a1 t1.length c1, .slice a2 t2.length c2] 26))
    have := Sl.new (E := slE intE) (S := S) (w.alloc (.cells #[.slice a0 t0.length c0, .slice a1 t1.length c1, .slice a2 t2.length c2] 26)) [[.slice a0 t0.length c0], [.slice a1 t1.length c1], [.slice a2 t2.length c2]] [t0, t1, t2] 25 rfl (by unfold big; simp) (fun i g1 g2 => by
      match i, g1 with
      | 0, _ => exact ⟨_, _, rfl, h0'⟩
      | 1, _ => exact ⟨_, _, rfl, h1'⟩
      | 2, _ => exact ⟨_, _, rfl, h2'⟩)
    rw [World.size_alloc] at this
    exact this.any
  have hB := below2 w (.cells #[.slice a0 t0.length c0, .slice a1 t1.length c1, .slice a2 t2.length c2] 26) (.cells #[.slice a0 t0.length c0, .slice a1 t1.length c1, .slice a2 t2.length c2] 25)
  have q0 : ((w.alloc (.cells #[.slice a0 t0.length c0, .slice a1 t1.length c1, .slice a2 t2.length c2] 26)).alloc (.cells #[.slice a0 t0.length c0, .slice a1 t1.length c1, .slice a2 t2.length c2] 25)).cell? ⟨w.heap.size, 0, none⟩ = some (.slice a0 t0.length c0) := by go_simp
  have q1 : ((w.alloc (.cells #[.slice a0 t0.length c0, .slice a1 t1.length c1, .slice a2 t2.length c2] 26)).alloc (.cells #[.slice a0 t0.length c0, .slice a1 t1.length c1, .slice a2 t2.length c2] 25)).cell? ⟨w.heap.size, 1, none⟩ = some (.slice a1 t1.length c1) := by go_simp
  have q2 : ((w.alloc (.cells #[.slice a0 t0.length c0, .slice a1 t1.length c1, .slice a2 t2.length c2] 26)).alloc (.cells #[.slice a0 t0.length c0, .slice a1 t1.length c1, .slice a2 t2.length c2] 25)).cell? ⟨w.heap.size, 2, none⟩ = some (.slice a2 t2.length c2) := by go_simp
  generalize ((w.alloc (.cells #[.slice a0 t0.length c0, .slice a1 t1.length c1, .slice a2 t2.length c2] 26)).alloc (.cells #[.slice a0 t0.length c0, .slice a1 t1.length c1, .slice a2 t2.length c2] 25)) = W at *
  have h0' := h0.below hB
  have h1' := h1.below hB
  have h2' := h2.below hB
  refine (Small_any none (some ⟨w.heap.size + 1, 0, none⟩) 0 3 [] [t0, t1, t2] W (S1 := fun _ => True) .empty hTs).mono ?_
  generalize smallT [] [t0, t1, t2] = sm
  rintro e w' ⟨rfl, rfl⟩
  clear hTs h0 h1 h2
  cases sm with
  | false =>
    go_wp2_with fail
    refine (awake_any W).mono ?_
    rintro e w1 ⟨rfl, hb1⟩
    go_wp2_with fail
    go_ret
    exact ⟨rfl, hB.trans (hb1.mono hB.size)⟩
  | true =>
    have hA01 := fun W' (hb : Below W.heap.size W W') => Compare_any a0 a1 c0 c1 t0 t1 W' (h0'.below hb) (h1'.below hb)
    have hA12 := fun W' (hb : Below W.heap.size W W') => Compare_any a1 a2 c1 c2 t1 t2 W' (h1'.below hb) (h2'.below hb)
    have hA02 := fun W' (hb : Below W.heap.size W W') => Compare_any a0 a2 c0 c2 t0 t2 W' (h0'.below hb) (h2'.below hb)
    have hA10 := fun W' (hb : Below W.heap.size W W') => Compare_any a1 a0 c1 c0 t1 t0 W' (h1'.below hb) (h0'.below hb)
    have hR01 := fun W' (hb : Below W.heap.size W W') => rCompare_any a0 a1 c0 c1 t0 t1 W' (h0'.below hb) (h1'.below hb)
    have hR12 := fun W' (hb : Below W.heap.size W W') => rCompare_any a1 a2 c1 c2 t1 t2 W' (h1'.below hb) (h2'.below hb)
    have hR02 := fun W' (hb : Below W.heap.size W W') => rCompare_any a0 a2 c0 c2 t0 t2 W' (h0'.below hb) (h2'.below hb)
    have hSm := fun W' (hb : Below W.heap.size W W') => Same_any a0 a1 c0 c1 t0 t1 W' (h0'.below hb) (h1'.below hb)
    have htr := compareT_trans t0 t1 t2
    have hz := compareT_zero t0 t1
    have hr := compareT_range t0 t1
    rw [compareT_anti t0 t1] at hA10
    generalize compareT t0 t1 = x at *
    generalize compareT t1 t2 = y at *
    generalize compareT t0 t2 = z at *
    obtain ⟨sm, hsm⟩ : ∃ sm, decide (t0 = t1) = sm := ⟨_, rfl⟩
    rw [hsm] at hSm
    have e5 : ((x == 0) == sm) = true := by
      rw [← hsm]
      by_cases h : t0 = t1
      · have := hz.2 h; simp [h, this]
      · have hx : ¬ x = 0 := fun e => h (hz.1 e)
        simp [h, hx]
    have hA01H := Lib.hid hA01
    have hA12H := Lib.hid hA12
    have hA02H := Lib.hid hA02
    have hA10H := Lib.hid hA10
    have hR01H := Lib.hid hR01
    have hR12H := Lib.hid hR12
    have hR02H := Lib.hid hR02
    have hSmH := Lib.hid hSm
    have htrH := Lib.hid htr
    have e5H := Lib.hid e5
    clear hA01 hA12 hA02 hA10 hR01 hR12 hR02 hSm htr h0' h1' h2' hz hsm e5
    go_wp2_with fail
    refine wp_region_held_drew (S := (fun w' => w'.cell? ⟨w.heap.size, 0, none⟩ = some (.slice a0 t0.length c0) ∧ w'.cell? ⟨w.heap.size, 1, none⟩ = some (.slice a1 t1.length c1) ∧ w'.cell? ⟨w.heap.size, 2, none⟩ = some (.slice a2 t2.length c2) ∧ Below W.heap.size W w')) (by kernel_rfl) (Three.start q0 q1 q2 (.refl _ _)) (fun hS => ?_)
    refine region_take 0 (some 16) (v := ?_) rfl rfl (by kernel_rfl) (by kernel_rfl) (by kernel_rfl) (fun _ _ _ h => h) rfl ?_ hS ?_
    rotate_left
    · (intro w9 hS9; go_simp; try (with_reducible rfl))
    simp only [Act.put, List.setIfInBounds_toArray, List.set_cons_zero, List.set_cons_succ]
    refine region_take 1 (some 17) (v := ?_) rfl rfl (by kernel_rfl) (by kernel_rfl) (by kernel_rfl) (fun _ _ _ h => h) rfl ?_ hS ?_
    rotate_left
    · (intro w9 hS9; go_simp; try (with_reducible rfl))
    simp only [Act.put, List.setIfInBounds_toArray, List.set_cons_zero, List.set_cons_succ]
    refine region_take 2 (some 18) (v := ?_) rfl rfl (by kernel_rfl) (by kernel_rfl) (by kernel_rfl) (fun _ _ _ h => h) rfl ?_ hS ?_
    rotate_left
    · (intro w9 hS9; go_simp; try (with_reducible rfl))
    simp only [Act.put, List.setIfInBounds_toArray, List.set_cons_zero, List.set_cons_succ]
    refine region_take 3 (some 19) (v := ?_) rfl rfl (by kernel_rfl) (by kernel_rfl) (by kernel_rfl) (fun _ _ _ h => h) rfl ?_ hS ?_
    rotate_left
    · (intro w9 hS9; go_simp; try (with_reducible rfl))
    simp only [Act.put, List.setIfInBounds_toArray, List.set_cons_zero, List.set_cons_succ]
    refine region_take 5 (some 21) (v := ?_) rfl rfl (by kernel_rfl) (by kernel_rfl) (by kernel_rfl) (fun _ _ _ h => h) rfl ?_ hS ?_
    rotate_left
    · (intro w9 hS9; go_simp; try (with_reducible rfl))
    simp only [Act.put, List.setIfInBounds_toArray, List.set_cons_zero, List.set_cons_succ]
    refine region_take 6 (some 22) (v := ?_) rfl rfl (by kernel_rfl) (by kernel_rfl) (by kernel_rfl) (fun _ _ _ h => h) rfl ?_ hS ?_
    rotate_left
    · (intro w9 hS9; go_simp; try (with_reducible rfl))
    simp only [Act.put, List.setIfInBounds_toArray, List.set_cons_zero, List.set_cons_succ]
    refine region_take 7 (some 23) (v := ?_) rfl rfl (by kernel_rfl) (by kernel_rfl) (by kernel_rfl) (fun _ _ _ h => h) rfl ?_ hS ?_
    rotate_left
    · (intro w9 hS9; go_simp; try (with_reducible rfl))
    simp only [Act.put, List.setIfInBounds_toArray, List.set_cons_zero, List.set_cons_succ]
    refine region_take 8 (some 24) (v := ?_) rfl rfl (by kernel_rfl) (by kernel_rfl) (by kernel_rfl) (fun _ _ _ h => h) rfl ?_ hS ?_
    rotate_left
    · (intro w9 hS9; go_simp; try (with_reducible rfl))
    simp only [Act.put, List.setIfInBounds_toArray, List.set_cons_zero, List.set_cons_succ]
    refine region_take 10 (some 26) (v := ?_) rfl rfl (by kernel_rfl) (by kernel_rfl) (by kernel_rfl) (fun _ _ _ h => h) rfl ?_ hS ?_
    rotate_left
    · (intro w9 hS9; go_simp; try (with_reducible rfl))
    simp only [Act.put, List.setIfInBounds_toArray, List.set_cons_zero, List.set_cons_succ]
    refine region_take 11 (some 27) (v := ?_) rfl rfl (by kernel_rfl) (by kernel_rfl) (by kernel_rfl) (fun _ _ _ h => h) rfl ?_ hS ?_
    rotate_left
    · (intro w9 hS9; go_simp; try (with_reducible rfl))
    simp only [Act.put, List.setIfInBounds_toArray, List.set_cons_zero, List.set_cons_succ]
    refine region_take 12 (some 28) (v := ?_) rfl rfl (by kernel_rfl) (by kernel_rfl) (by kernel_rfl) (fun _ _ _ h => h) rfl ?_ hS ?_
    rotate_left
    · (intro w9 hS9; go_simp; try (with_reducible rfl))
    simp only [Act.put, List.setIfInBounds_toArray, List.set_cons_zero, List.set_cons_succ]
    refine region_take 13 (some 29) (v := ?_) rfl rfl (by kernel_rfl) (by kernel_rfl) (by kernel_rfl) (fun _ _ _ h => h) rfl ?_ hS ?_
    rotate_left
    · (intro w9 hS9; go_simp; try (with_reducible rfl))
    simp only [Act.put, List.setIfInBounds_toArray, List.set_cons_zero, List.set_cons_succ]
    refine region_call 4 rfl (by kernel_rfl) (fun K hK => ?_)
    go_simp
    refine (hA01H.out _ hS.2.2.2).mono ?_
    rintro e w8 ⟨rfl, hb8⟩
    refine hK.out _ _ (Three.call hS hb8) ?_
    clear hS hK
    intro hS
    refine region_call 9 rfl (by kernel_rfl) (fun K hK => ?_)
    go_simp
    refine (hA12H.out _ hS.2.2.2).mono ?_
    rintro e w8 ⟨rfl, hb8⟩
    refine hK.out _ _ (Three.call hS hb8) ?_
    clear hS hK
    intro hS
    refine region_call 14 rfl (by kernel_rfl) (fun K hK => ?_)
    go_simp
    refine (hA02H.out _ hS.2.2.2).mono ?_
    rintro e w8 ⟨rfl, hb8⟩
    refine hK.out _ _ (Three.call hS hb8) ?_
    clear hS hK
    intro hS
    refine region_take 15 (some 3) (v := ?_) rfl rfl (by kernel_rfl) (by kernel_rfl) (by kernel_rfl) (fun _ _ _ h => h) rfl ?_ hS ?_
    rotate_left
    · (intro w9 hS9; go_simp; try (with_reducible rfl))
    simp only [Act.put, List.setIfInBounds_toArray, List.set_cons_zero, List.set_cons_succ]
    refine region_take 16 (some 4) (v := ?_) rfl rfl (by kernel_rfl) (by kernel_rfl) (by kernel_rfl) (fun _ _ _ h => h) rfl ?_ hS ?_
    rotate_left
    · (intro w9 hS9; go_simp; try (with_reducible rfl))
    simp only [Act.put, List.setIfInBounds_toArray, List.set_cons_zero, List.set_cons_succ]
    refine region_take 17 (some 5) (v := ?_) rfl rfl (by kernel_rfl) (by kernel_rfl) (by kernel_rfl) (fun _ _ _ h => h) rfl ?_ hS ?_
    rotate_left
    · (intro w9 hS9; go_simp; try (with_reducible rfl))
    simp only [Act.put, List.setIfInBounds_toArray, List.set_cons_zero, List.set_cons_succ]
    refine wpAnyH_done (by kernel_rfl) ?_ _
    obtain ⟨r0, r1, r2, hB3⟩ := hS
    have nx : (x != x) = false := by simp
    have ny : (y != y) = false := by simp
    have nz : (z != z) = false := by simp
    have nw : (-x != -x) = false := by simp
    go_wp2_with fail
    refine (hR01H.out _ hB3).mono ?_
    rintro e w4 ⟨rfl, hd4⟩
    obtain ⟨r0, r1, r2, hB4⟩ := Three.call ⟨r0, r1, r2, hB3⟩ (hd4.below _)
    go_wp2_with fail
    refine (hR12H.out _ hB4).mono ?_
    rintro e w5 ⟨rfl, hd5⟩
    obtain ⟨r0, r1, r2, hB5⟩ := Three.call ⟨r0, r1, r2, hB4⟩ (hd5.below _)
    go_wp2_with fail
    refine (hR02H.out _ hB5).mono ?_
    rintro e w6 ⟨rfl, hd6⟩
    obtain ⟨r0, r1, r2, hB6⟩ := Three.call ⟨r0, r1, r2, hB5⟩ (hd6.below _)
    go_wp2_with fail
    refine (hA10H.out _ hB6).mono ?_
    rintro e w7 ⟨rfl, hb7⟩
    obtain ⟨r0, r1, r2, hB7⟩ := Three.call ⟨r0, r1, r2, hB6⟩ hb7
    have htr := htrH.out
    have e5 := e5H.out
    clear hA01H hA12H hA02H hA10H hR01H hR12H hR02H htrH hd4 hd5 hd6 hb7 hB3 hB4 hB5 hB6 nx ny nz
    have hxyz : (0 < x) ∨ (¬ 0 < x ∧ 0 < y) ∨ (¬ 0 < x ∧ ¬ 0 < y ∧ z ≤ 0) := by omega
    clear htr
    rcases hxyz with hx | ⟨hx, hy⟩ | ⟨hx, hy, hz⟩
    all_goals
      go_wp2_with fail
      refine (hSmH.out _ hB7).mono ?_
      rintro e w8 ⟨rfl, hd8⟩
      have hB8 := hB7.trans (hd8.below _)
      go_wp2_with fail
      refine (awake_any _).mono ?_
      rintro e w9 ⟨rfl, hb9⟩
      have hB9 := hB8.trans (hb9.mono hB8.size)
      go_wp2_with fail
      go_ret
      exact ⟨rfl, hB.trans (hB9.mono hB.size)⟩
end Go.Proofs.Ytgpfdflpkaeedaa
