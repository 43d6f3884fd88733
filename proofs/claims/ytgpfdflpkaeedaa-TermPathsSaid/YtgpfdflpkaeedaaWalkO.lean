/- Walks: At, of both; lists of terms alike; all valid. -/
import Derived.Test.YtgpfdflpkaeedaaWalkN
namespace Go.Proofs.Ytgpfdflpkaeedaa
open Go Go.RowKit Go.Maps

set_option maxHeartbeats 2000000 in
theorem At_any {S1 S2 S3 : Nat → Prop} (a1 a2 a3 : Option Addr) (c1 c2 c3 : Nat) (s : Sg) (t p : List Int) (w : World) (h1 : Sign S1 w a1 c1 s) (h2 : Ints S2 w a2 c2 t) (h3 : Ints S3 w a3 c3 p) :
    Calls Try.prog 34 #[.slice a1 s.length c1, .slice a2 t.length c2, .slice a3 p.length c3] w (retE (atE s t p) w) := by
  have m2 := h2.le
  have v1 := Valid_any a1 a2 c1 c2 s t w h1 h2
  obtain ⟨x, hx⟩ : ∃ x, okT s t = x := ⟨_, rfl⟩
  rw [hx] at v1
  have v1H := Lib.hid v1
  clear v1
  cases x with
  | false =>
    rw [atE_no hx]
    clear hx
    go_enter Try.func34, Try.ntmps34
    go_wp2_with (go_at_call 16; refine v1H.out.mono ?_; rintro e w1 ⟨rfl, hb⟩)
    go_ret2
    exact ⟨_, rfl, .nil _ _ _ _ _, hb⟩
  | true =>
    have cs := fun W (hb : Below w.heap.size w W) => span_any a1 a2 a3 c1 c2 c3 s t p W (h1.below hb) (h2.below hb) (h3.below hb) hx
    unfold spanV at cs
    cases hp : place s t p 0 with
    | none =>
      rw [atE_none hx hp]
      simp only [hp] at cs
      have csH := Lib.hid cs
      clear hx cs hp
      go_enter Try.func34, Try.ntmps34
      go_wp2_with (first | (go_at_call 16; refine v1H.out.mono ?_; rintro e w1 ⟨rfl, hb⟩) | (go_at_call 63; refine (csH.out w1 hb).mono ?_; rintro e w2 ⟨rfl, hb2⟩))
      go_ret2
      exact ⟨_, rfl, .nil _ _ _ _ _, bcall hb hb2⟩
    | some z =>
      rw [atE_some hx hp]
      simp only [hp] at cs
      obtain ⟨r, hr, -⟩ := (place_sub p (okT_skip0 hx)).1 z hp
      obtain ⟨hoku, hlenu⟩ := okT_part hx hr
      have hrl := skip_len _ _ _ _ hr
      rw [List.length_drop] at hrl
      have ht60 := (okT_parts hx).2.2.1
      have hcap := h2.cap
      have mc := h2.max
      unfold big at mc
      obtain ⟨b, o, rfl, -, -, -⟩ := h2.int 0 (by omega)
      obtain ⟨u, hu⟩ : ∃ u, partAt s (t.drop z) = u := ⟨_, rfl⟩
      have hpart : (t.drop z).take (z + u.length - z) = u := by
        rw [Nat.add_sub_cancel_left]
        have : u = (t.drop z).take ((t.drop z).length - r.length) := by rw [← hu]; unfold partAt; rw [hr]; rfl
        rw [hu] at hlenu
        rw [hlenu, ← List.length_drop]; exact this.symm
      rw [hu] at cs hlenu ⊢
      have hsub := h2.part z (z + u.length) (c2 - z) (by omega) (by omega) (by omega) (by omega)
      rw [hpart] at hsub
      obtain ⟨y, hy⟩ : ∃ y, z + u.length = y := ⟨_, rfl⟩
      rw [hy] at cs
      have hul : u.length = y - z := by omega
      have hzy : z ≤ y := by omega
      have hzl : z < t.length := by omega
      have hyt : y ≤ t.length := by omega
      have cc := fun W hW => Clone_any (S := S2) (some ⟨b, o + z, none⟩) (c2 - z) u W hW (by unfold lim; omega)
      rw [hul] at cc
      have csH := Lib.hid cs
      have ccH := Lib.hid cc
      have hsH := Lib.hid hsub
      clear cs cc hsub hpart hu hr hp hx hoku hlenu hul hy hrl h1 h2 h3
      go_enter Try.func34, Try.ntmps34
      go_wp2_with (first | (go_at_call 16; refine v1H.out.mono ?_; rintro e w1 ⟨rfl, hb⟩) | (go_at_call 63; refine (csH.out w1 hb).mono ?_; rintro e w2 ⟨rfl, hb2⟩; have hB2 := bcall hb hb2) | (go_at_call 53; refine (ccH.out w2 (hsH.out.below hB2)).mono ?_; rintro e w3 ⟨v, rfl, ho, hb3⟩))
      go_ret2
      exact ⟨_, rfl, ho.baseMono hB2.size, bcall hB2 hb3⟩

def walkV (s : Sg) (t p : List Int) : Int := match place s t p 0 with | some z => z | none => -1
def walkRel (s : Sg) (t p : List Int) (w : World) (at_ i : Value) (wr : World) : Prop :=
  ∃ (j a : Nat) (rest : List Int), i = .int .i64 j ∧ at_ = .int .i64 a ∧ j ≤ p.length ∧ skip s 1 (t.drop a) = some rest ∧ place s t (p.drop j) a = place s t p 0 ∧ Below w.heap.size w wr
set_option maxHeartbeats 2000000 in
theorem rwalk_any {S1 S2 S3 : Nat → Prop} (a1 a2 a3 : Option Addr) (c1 c2 c3 : Nat) (s : Sg) (t p : List Int) (w : World) (h1 : Sign S1 w a1 c1 s) (h2 : Ints S2 w a2 c2 t) (h3 : Ints S3 w a3 c3 p) (hok : okT s t = true) :
    Calls Try.prog 77 #[.slice a1 s.length c1, .slice a2 t.length c2, .slice a3 p.length c3] w fun e w' => e = .returned (.int .i64 (walkV s t p)) ∧ Below w.heap.size w w' := by
  have m2 := h2.le
  have m3 := h3.le
  obtain ⟨hsg, hl1, hl2, -⟩ := okT_parts hok
  have hs0 := okT_skip0 hok
  have hs0H := Lib.hid hs0
  have hsgH := Lib.hid hsg
  clear hok hs0 hsg
  go_enter Try.func77, Try.ntmps77
  go_wp2_with fail
  go_loopw [7, 8] (fun at_ i wr => walkRel s t p w at_ i wr) (fun _ i _ => p.length - (intOf i).toNat)
  case atStart => exact ⟨0, 0, [], rfl, rfl, Nat.zero_le _, hs0H.out, rfl, .refl _ _⟩
  case round =>
    obtain ⟨j, a, rest, rfl, rfl, hj, hsk, hpl, hB⟩ := hrel
    by_cases hlt : j < p.length
    · obtain ⟨b3, o3, rfl, -, q3, hr3⟩ := h3.int j hlt
      have hb3 := World.block_lt_of_cell? w _ q3
      have ca := rArguments_any a1 a2 c1 c2 s t a rest wr (h1.below hB) (h2.below hB) hsgH.out hsk hl2
      obtain ⟨hA1, hA2, hA3, halt⟩ := part_args hsk
      have hso := step_ok hsk
      have hsn := step_no hsk
      have hPl := posK_length s t.length (ar s (t.getD a 0)) (t.drop (a + 1))
      rw [hA3] at hsn
      simp only [hA3] at hso
      obtain ⟨P, hP⟩ : ∃ P, posK s t.length (ar s (t.getD a 0)) (t.drop (a + 1)) = P := ⟨_, rfl⟩
      rw [hP] at ca hPl
      simp only [hP] at hso
      rw [← hPl] at hsn
      obtain ⟨x, hx⟩ : ∃ x, p[j] = x := ⟨_, rfl⟩
      have hpd : p.drop j = x :: p.drop (j + 1) := by rw [List.drop_eq_getElem_cons hlt, hx]
      rw [hx] at q3 hr3
      rw [hpd, place] at hpl
      have hq3 : ∀ W, Below wr.heap.size wr W → W.cell? ⟨b3, o3 + j, none⟩ = some (.int .i64 x) := fun W hW =>
        ((hB.trans (hW.mono hB.size)).cell (p := ⟨b3, o3 + j, none⟩) hb3).trans q3
      have hq3H := Lib.hid hq3
      have hPm : P.length ≤ 9223372036854775807 := by
        obtain ⟨hlt2, hc2, -⟩ := skip_drop (k := 0) hsk
        have hgd : t.getD a 0 = t[a] := by simp [hlt2]
        have := (arC_ok hsgH.out hc2).2
        rw [hgd] at hPl; omega
      by_cases hk : 0 ≤ x ∧ x < P.length
      · obtain ⟨k, rfl⟩ := Int.eq_ofNat_of_zero_le hk.1
        have hkl : k < P.length := by omega
        obtain ⟨y, r', e1, -, e3, -, e5⟩ := hso k (by omega)
        rw [e1] at hpl
        rw [List.getElem?_eq_getElem hkl] at e5
        have e5' : P[k] = (y : Int) := Option.some.inj e5
        have hb1 : (decide ((0 : Int) ≤ (k : Int)) && decide ((k : Int) ≤ (P.length : Int) - 1)) = true := by simp; omega
        have cw := fun W => rwithin_any (k : Int) 0 ((P.length : Int) - 1) W
        simp only [hb1] at cw
        have cwH := Lib.hid cw
        have caH := Lib.hid ca
        have hplH := Lib.hid hpl
        have e3H := Lib.hid e3
        have hBH := Lib.hid hB
        have e5H := Lib.hid e5'
        clear hb1 cw ca hpl e1 e3 e5 e5' hB hpd hso hsn hA1 hA2 hA3 hsk hx hP hq3 hPl q3 h1 h2 h3
        go_wp2_with (first | (go_at_call 72; refine caH.out.mono ?_; rintro e w1 ⟨v, rfl, ho0, hb1'⟩; obtain ⟨a4, c4, rfl, hI⟩ := ho0.ints; clear ho0; have hBn := Lib.hid (hBH.out.trans (hb1'.mono hBH.out.size)); have q3 := hq3H.out w1 hb1'; clear hb1'; obtain ⟨bt, ot, rfl, -, qk, -⟩ := hI.int k hkl; rw [e5H.out] at qk; clear hI) | (go_at_call 56; refine (cwH.out _).mono ?_; rintro e w2 ⟨rfl, rfl⟩))
        go_roundw
        case rel => exact ⟨j + 1, y, r', by go_num, rfl, by omega, e3H.out, hplH.out, hBn.out⟩
        case measure => simp [intOf]; omega
      · rw [hsn x hk] at hpl
        have hv : walkV s t p = -1 := by rw [walkV, ← hpl]; rfl
        have hb1 : (decide ((0 : Int) ≤ x) && decide (x ≤ (P.length : Int) - 1)) = false := by simp; omega
        have cw := fun W => rwithin_any x 0 ((P.length : Int) - 1) W
        simp only [hb1] at cw
        have cwH := Lib.hid cw
        have hvH := Lib.hid hv
        have caH := Lib.hid ca
        have hBH := Lib.hid hB
        clear hb1 cw hv ca hB hpl hpd hso hsn hA1 hA2 hA3 hsk hx hP hk hq3 hPl q3 h1 h2 h3
        go_wp2_with (first | (go_at_call 72; refine caH.out.mono ?_; rintro e w1 ⟨v, rfl, ho0, hb1'⟩; obtain ⟨a4, c4, rfl, hI⟩ := ho0.ints; clear ho0; have hBn := Lib.hid (hBH.out.trans (hb1'.mono hBH.out.size)); have q3 := hq3H.out w1 hb1'; clear hb1' hI) | (go_at_call 56; refine (cwH.out _).mono ?_; rintro e w2 ⟨rfl, rfl⟩))
        go_ret
        exact ⟨ret_int hvH.out.symm, hBn.out⟩
    · have hv : walkV s t p = a := by
        rw [List.drop_eq_nil_of_le (by omega), place] at hpl
        rw [walkV, ← hpl]
      have hvH := Lib.hid hv
      clear hv hpl hsk
      go_wp2_with fail
      go_ret
      exact ⟨ret_int hvH.out.symm, hB⟩

set_option maxHeartbeats 2000000 in
theorem rAt_any {S1 S2 S3 : Nat → Prop} (a1 a2 a3 : Option Addr) (c1 c2 c3 : Nat) (s : Sg) (t p : List Int) (w : World) (h1 : Sign S1 w a1 c1 s) (h2 : Ints S2 w a2 c2 t) (h3 : Ints S3 w a3 c3 p) :
    Calls Try.prog 45 #[.slice a1 s.length c1, .slice a2 t.length c2, .slice a3 p.length c3] w (retE (atE s t p) w) := by
  have m2 := h2.le
  have v1 := rValid_any a1 a2 c1 c2 s t w h1 h2
  obtain ⟨x, hx⟩ : ∃ x, okT s t = x := ⟨_, rfl⟩
  rw [hx] at v1
  have v1H := Lib.hid v1
  clear v1
  cases x with
  | false =>
    rw [atE_no hx]
    clear hx
    go_enter Try.func45, Try.ntmps45
    go_wp2_with (go_at_call 26; refine v1H.out.mono ?_; rintro e w1 ⟨rfl, hd⟩)
    go_ret2
    exact ⟨_, rfl, .nil _ _ _ _ _, hd.below _⟩
  | true =>
    have cs := fun W (hb : Below w.heap.size w W) => rwalk_any a1 a2 a3 c1 c2 c3 s t p W (h1.below hb) (h2.below hb) (h3.below hb) hx
    unfold walkV at cs
    cases hp : place s t p 0 with
    | none =>
      rw [atE_none hx hp]
      simp only [hp] at cs
      have csH := Lib.hid cs
      clear hx cs hp
      go_enter Try.func45, Try.ntmps45
      go_wp2_with (first | (go_at_call 26; refine v1H.out.mono ?_; rintro e w1 ⟨rfl, hd⟩; have hb := hd.below w.heap.size) | (go_at_call 77; refine (csH.out w1 hb).mono ?_; rintro e w2 ⟨rfl, hb2⟩))
      go_ret2
      exact ⟨_, rfl, .nil _ _ _ _ _, bcall hb hb2⟩
    | some z =>
      rw [atE_some hx hp]
      simp only [hp] at cs
      obtain ⟨r, hr, -⟩ := (place_sub p (okT_skip0 hx)).1 z hp
      obtain ⟨hsg, hl1, hl2, -⟩ := okT_parts hx
      have cc := fun W hW1 hW2 => rPart_any (S1 := S1) (S2 := S2) a1 a2 c1 c2 s t z r W hW1 hW2 hsg hr hl2
      obtain ⟨u, hu⟩ : ∃ u, partAt s (t.drop z) = u := ⟨_, rfl⟩
      rw [hu] at cc ⊢
      have csH := Lib.hid cs
      have ccH := Lib.hid cc
      clear cs cc hu hr hp hx hsg
      go_enter Try.func45, Try.ntmps45
      go_wp2_with (first | (go_at_call 26; refine v1H.out.mono ?_; rintro e w1 ⟨rfl, hd⟩; have hb := hd.below w.heap.size) | (go_at_call 77; refine (csH.out w1 hb).mono ?_; rintro e w2 ⟨rfl, hb2⟩; have hB2 := bcall hb hb2) | (go_at_call 73; refine (ccH.out w2 (h1.below hB2) (h2.below hB2)).mono ?_; rintro e w3 ⟨v, rfl, ho, hb3⟩))
      go_ret2
      exact ⟨_, rfl, ho.baseMono hB2.size, bcall hB2 hb3⟩
end Go.Proofs.Ytgpfdflpkaeedaa
