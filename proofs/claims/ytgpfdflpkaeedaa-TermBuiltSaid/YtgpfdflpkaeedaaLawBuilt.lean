/- The law TermBuilt, walked. -/
import Derived.Test.YtgpfdflpkaeedaaWalkR
namespace Go.Proofs.Ytgpfdflpkaeedaa
open Go Go.RowKit Go.Maps

theorem flatten_bound {L : List (List Int)} {B : Nat} (h : ∀ u ∈ L, u.length ≤ B) : L.flatten.length ≤ L.length * B := by
  induction L with
  | nil => simp
  | cons x r ih =>
    rw [List.flatten_cons, List.length_append, List.length_cons, Nat.succ_mul]
    have := h x (by simp)
    have := ih (fun u hu => h u (by simp [hu]))
    omega
set_option maxHeartbeats 4000000 in
theorem TermBuilt_walk {S S' : Nat → Prop} (p a2 : Option Addr) (k c2 : Nat) (s : Sg) (y : Int) (L : List (List Int)) (w : World) (hs : Sign S w p k s) (hy : inRange y) (hT : Terms S' w a2 c2 L) :
    Calls Try.prog 8 #[.slice p s.length k, .int .i64 y, .slice a2 L.length c2] w fun e w' => e = .returned (.bool true) ∧ Below w.heap.size w w' := by
  have m2 := hT.le
  go_enter Try.func8, Try.ntmps8
  go_wp2_with fail
  obtain ⟨sm, hsm⟩ : ∃ sm, smallT s L = sm := ⟨_, rfl⟩
  have h0 := Small_any p a2 k c2 s L w hs hT
  rw [hsm] at h0
  refine h0.mono ?_
  clear h0
  rintro e w' ⟨rfl, rfl⟩
  cases sm with
  | false =>
    go_wp2_with fail
    refine (awake_any w).mono ?_
    rintro e w1 ⟨rfl, hb1⟩
    go_wp2_with fail
    go_ret
    exact ⟨rfl, hb1⟩
  | true =>
    by_cases h20 : L.length ≤ 20
    · have hfl : L.flatten.length ≤ L.length * 200 := flatten_bound (fun u hu => by
        unfold smallT at hsm
        simp only [Bool.and_eq_true, List.all_eq_true, decide_eq_true_eq] at hsm
        exact hsm.1 u hu)
      have hfl2 : L.length * 200 ≤ 4000 := by omega
      have k1 := Built_any p a2 k c2 s y L w hs hT hy (by unfold lim; omega) (by unfold lim; omega)
      have k2 := fun W (hb : Below w.heap.size w W) => rBuilt_any p a2 k c2 s y L W (hs.below hb) (hT.below hb) hy (by unfold lim; omega)
      obtain ⟨⟨fl, fn⟩, hce⟩ : ∃ r, builtE s y L = r := ⟨_, rfl⟩
      rw [hce] at k1
      rw [hce] at k2
      have k1H := Lib.hid k1
      have k2H := Lib.hid k2
      have hd2 : decide ((20 : Int) < (L.length : Int)) = false := by simp; omega
      clear k1 k2 hce hfl hfl2 hsm hs hT h20
      go_wp2_with fail
      refine k1H.out.mono ?_
      rintro e w1 ⟨v1, rfl, o1, b1⟩
      obtain ⟨a3, c3, rfl, i1⟩ := OwnI.ints o1
      go_wp2_with fail
      refine (k2H.out _ b1).mono ?_
      rintro e w2 ⟨v2, rfl, o2, b2'⟩
      obtain ⟨a4, c4, rfl, i2⟩ := OwnI.ints o2
      have b2 := bcall b1 b2'
      have i1 := i1.below b2'
      have hd : decide (fl = fl) = true := by simp
      have hn : (fn == fn) = true := by simp
      clear b2' o1 o2
      go_wp2_with fail
      refine (Same_any a3 a4 c3 c4 fl fl w2 i1 i2).mono ?_
      rintro e w3 ⟨rfl, hd3⟩
      have b3 := b2.trans (hd3.below _)
      clear i1 i2 hd3
      go_wp2_with fail
      refine (awake_any _).mono ?_
      rintro e w4 ⟨rfl, b4⟩
      go_wp2_with fail
      go_ret
      exact ⟨rfl, bcall b3 b4⟩
    · have hd2 : decide ((20 : Int) < (L.length : Int)) = true := by simp; omega
      clear hsm h20
      go_wp2_with fail
      refine (awake_any w).mono ?_
      rintro e w1 ⟨rfl, hb1⟩
      go_wp2_with fail
      go_ret
      exact ⟨rfl, hb1⟩
end Go.Proofs.Ytgpfdflpkaeedaa
