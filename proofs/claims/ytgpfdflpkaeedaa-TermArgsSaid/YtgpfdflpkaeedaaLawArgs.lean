/- The law TermArgs, walked. -/
import Derived.Test.YtgpfdflpkaeedaaWalkR
import Derived.Test.YtgpfdflpkaeedaaWalkS
namespace Go.Proofs.Ytgpfdflpkaeedaa
open Go Go.RowKit Go.Maps

theorem builtE_args {s : Sg} {n : Int} {r : List Int} (h : okT s (n :: r) = true) (hn : 0 ≤ n) : builtE s n (argsT s (n :: r)) = (n :: r, 0) ∧ (argsT s (n :: r)).flatten.length + 1 ≤ 60 ∧ (argsT s (n :: r)).length ≤ 60 := by
  obtain ⟨h1, h2, h3⟩ := argsT_spec h
  obtain ⟨g1, g2, g3, -⟩ := okT_parts h
  obtain ⟨n', r', he, hc, -⟩ := okT_head h
  simp only [List.cons.injEq] at he
  obtain ⟨rfl, rfl⟩ := he
  simp only [List.headD_cons] at h1 h2
  have hlt : n < s.length := by simp [codeOk] at hc; omega
  obtain ⟨hA, hA3⟩ := arC_ok g1 hc
  have har : arC s n = (s.getD n.toNat default).2 := by rw [arC, if_neg (by omega), if_pos ⟨hn, hlt⟩]
  have hfl : (n :: r).length = 1 + (argsT s (n :: r)).flatten.length := by
    have h4 := congrArg List.length h2
    simp only [List.length_cons] at h4 ⊢; omega
  refine ⟨?_, by omega, by omega⟩
  rw [builtE_0 ⟨g1, by rw [List.all_eq_true]; exact h3⟩ ⟨hn, hlt⟩ (by rw [h1, ← hA, har]) (by omega), ← h2]
set_option maxHeartbeats 4000000 in
theorem TermArgs_walk {S S' : Nat → Prop} (p q : Option Addr) (k c : Nat) (s : Sg) (t : List Int) (w : World) (hs : Sign S' w p k s) (ht : Ints S w q c t) :
    Calls Try.prog 9 #[.slice p s.length k, .slice q t.length c] w fun e w' => e = .returned (.bool true) ∧ Below w.heap.size w w' := by
  have mt := ht.le
  go_enter Try.func9, Try.ntmps9
  go_wp2_with fail
  have hB := below1 w (.cells #[.slice q t.length c] 25)
  have hTs := Sl.new (E := slE intE) (S := S) w [[.slice q t.length c]] [t] 25 rfl (by unfold big; simp) (fun i g1 g2 => by
      match i, g1 with
      | 0, _ => exact ⟨_, _, rfl, ht⟩)
  have hs1 := hs.below hB
  have ht1 := ht.below hB
  refine (Small_any p (some ⟨w.heap.size, 0, none⟩) k 1 s [t] (w.alloc (.cells #[.slice q t.length c] 25)) hs1 hTs).mono ?_
  clear hTs hs ht
  generalize w.alloc (.cells #[.slice q t.length c] 25) = W at *
  generalize smallT s [t] = sm
  rintro e w' ⟨rfl, rfl⟩
  cases sm with
  | false =>
    go_wp2_with fail
    refine (awake_any W).mono ?_
    rintro e w1 ⟨rfl, hb1⟩
    go_wp2_with fail
    go_ret
    exact ⟨rfl, bcall hB hb1⟩
  | true =>
    have k1 := fun W' (hb : Below W.heap.size W W') => Args_any p q k c s t W' (hs1.below hb) (ht1.below hb)
    have k2 := fun W' (hb : Below W.heap.size W W') => rArgs_any p q k c s t W' (hs1.below hb) (ht1.below hb)
    obtain ⟨⟨L, en⟩, hce⟩ : ∃ r, argsE s t = r := ⟨_, rfl⟩
    rw [hce] at k1
    rw [hce] at k2
    have k1H := Lib.hid k1
    have k2H := Lib.hid k2
    have e1 : (en != en) = false := by simp
    have hd : decide (L = L) = true := by simp
    have hs1H := Lib.hid hs1
    have ht1H := Lib.hid ht1
    clear k1 k2 hs1 ht1
    go_wp2_with fail
    refine (k1H.out _ (.refl _ _)).mono ?_
    rintro e w1 ⟨v1, rfl, o1, b1⟩
    obtain ⟨a3, c3, rfl, i1⟩ := OwnL.sl o1
    clear o1
    go_wp2_with fail
    refine (k2H.out _ b1).mono ?_
    rintro e w2 ⟨v2, rfl, o2, b2'⟩
    obtain ⟨a4, c4, rfl, i2⟩ := OwnL.sl o2
    have b2 := bcall b1 b2'
    have i1 := i1.below b2'
    clear b2' o2 b1
    go_wp2_with fail
    refine (SameTerms_any a3 a4 c3 c4 L L w2 i1 i2).mono ?_
    rintro e w3 ⟨rfl, n3, rfl⟩
    have b3 := below_drewN b2 n3
    have i1 := i1.drewN n3
    clear i2 b2
    obtain ⟨ok, hk⟩ : ∃ ok, okT s t = ok := ⟨_, rfl⟩
    cases ok with
    | false =>
      rw [argsE_no hk] at hce
      obtain ⟨rfl, rfl⟩ := Prod.mk.inj hce
      clear hk hce
      go_wp2_with fail
      refine (awake_any _).mono ?_
      rintro e w4 ⟨rfl, b4⟩
      go_wp2_with fail
      go_ret
      exact ⟨rfl, bcall hB (bcall b3 b4)⟩
    | true =>
      rw [argsE_ok hk] at hce
      obtain ⟨rfl, rfl⟩ := Prod.mk.inj hce
      clear hce
      have hl60 := (okT_parts hk).2.2.1
      have hl1 := (okT_parts hk).2.1
      obtain ⟨b, o, rfl, -, qt, hrt⟩ := ht1H.out.int 0 (by omega)
      rw [Nat.add_zero] at qt
      have qt := cell_later b3 qt
      obtain ⟨x, hx⟩ : ∃ x, t[0] = x := ⟨_, rfl⟩
      rw [hx] at qt hrt
      have hb0 : ((t.length : Int) == 0) = false := by simp; intro e; rw [e] at hl1; simp at hl1
      have hlt : (0 : Int) < t.length := by omega
      by_cases hx0 : x < 0
      · clear hk hx
        go_wp2_with fail
        refine (awake_any _).mono ?_
        rintro e w4 ⟨rfl, b4⟩
        go_wp2_with fail
        go_ret
        exact ⟨rfl, bcall hB (bcall b3 b4)⟩
      · obtain ⟨hE, hf1, hf2⟩ : builtE s x (argsT s t) = (t, 0) ∧ (argsT s t).flatten.length + 1 ≤ 60 ∧ (argsT s t).length ≤ 60 := by
          obtain ⟨n, r, rfl, -, -⟩ := okT_head hk
          simp only [List.getElem_cons_zero] at hx
          subst hx
          exact builtE_args hk (by omega)
        have k3 := Built_any p a3 k c3 s x (argsT s t) (w2.drewN n3) (hs1H.out.below b3) i1 hrt (by unfold lim; omega) (by unfold lim; omega)
        rw [hE] at k3
        have k3H := Lib.hid k3
        clear k3 hE hf1 hf2 hk hx i1
        go_wp2_with fail
        refine k3H.out.mono ?_
        rintro e w5 ⟨v5, rfl, o5, b5'⟩
        obtain ⟨a5, c5, rfl, i5⟩ := OwnI.ints o5
        have b5 := bcall b3 b5'
        have hdt : decide (t = t) = true := by simp
        have ht5 := ht1H.out.below b5
        clear o5 b5' ht1H
        go_wp2_with fail
        refine (Same_any a5 (some ⟨b, o, none⟩) c5 c t t w5 i5 ht5).mono ?_
        rintro e w6 ⟨rfl, hd6⟩
        have b6 := b5.trans (hd6.below _)
        clear i5 ht5 hd6
        go_wp2_with fail
        refine (awake_any _).mono ?_
        rintro e w7 ⟨rfl, b7⟩
        go_wp2_with fail
        go_ret
        exact ⟨rfl, bcall hB (bcall b6 b7)⟩
end Go.Proofs.Ytgpfdflpkaeedaa
