/- Walks of package unify: solved, apart, Meets, Unifiable. -/
import Derived.Test.YtgkddhakhapjlaaUSolve
import Derived.Test.YtgkddhakhapjlaaUEx
namespace Go.Proofs.Ytgkddhakhapjlaa
open Go Go.RowKit Go.Maps

def apRel (t : List Int) (w : World) (B0 g cap : Nat) (i : Value) (wr : World) : Prop :=
  ∃ k : Nat, i = .int .i64 k ∧ k ≤ t.length ∧ OwnI wr B0 (.slice (some ⟨g, 0, none⟩) t.length cap) (doneTo apN t k) ∧ Below w.heap.size w wr
set_option maxHeartbeats 1000000 in
theorem apart_any {S : Nat → Prop} (a : Option Addr) (c : Nat) (t : List Int) (w : World) (h : Ints S w a c t) (hl : t.length ≤ lim) (hne : t ≠ []) (hr : ∀ x ∈ t, x < 0 → -12 ≤ x) :
    Calls Try.prog 20 #[.slice a t.length c] w (retOwn w (apartT t)) := by
  have m := h.le
  have cc := Clone_any a c t w h hl
  have ccH := Lib.hid cc
  have hrH := Lib.hid hr
  clear cc hr
  go_enter Try.func20, Try.ntmps20
  go_wp2_with fail
  refine ccH.out.mono ?_
  rintro e w1 ⟨v, rfl, ho, hB⟩
  obtain ⟨g, cap, rfl, hg1, hg2⟩ := ho.form hne
  clear ccH
  go_wp2_with fail
  go_loopw [10] (fun i wr => apRel t w w.heap.size g cap i wr) (fun i _ => t.length - (intOf i).toNat)
  case atStart => exact ⟨0, rfl, Nat.zero_le _, by rw [doneTo_zero]; exact ho, hB⟩
  case round =>
    obtain ⟨k, rfl, hk, ho, hB⟩ := hrel
    by_cases hlt : k < t.length
    · obtain ⟨b, o, rfl, -, q, hrg⟩ := (h.below hB).int k hlt
      have hxr := hrH.out t[k] (List.getElem_mem hlt)
      have hset := doneTo_set hlt (f := apN)
      have hsame := doneTo_same hlt (f := apN)
      have hget := doneTo_get hlt (f := apN)
      obtain ⟨hc1, hf1⟩ := ho.cellInt (by rw [doneTo_length]) k (by rw [doneTo_length]; exact hlt)
      rw [hget] at hc1
      obtain ⟨x, hx⟩ : ∃ x, t[k] = x := ⟨_, rfl⟩
      rw [hx] at q hrg hset hsame hc1 hxr
      clear hget hx
      by_cases h0 : x < 0
      · have hx12 := hxr h0
        have hap : apN x = x - 12 := by unfold apN; exact if_pos h0
        rw [hap] at hset
        have hsub : IntKind.i64.wrap (x - 12) = x - 12 := IntWalk.i64_in _ (by omega)
        obtain ⟨ho2, hg3⟩ := ho.setInt (by rw [doneTo_length]) k (x - 12) (by unfold inRange; omega)
        rw [hset] at ho2
        have hoH := Lib.hid ho2
        have hBH := Lib.hid (hB.grown hg3 hB.size (fun j e => by cases e; omega))
        clear ho ho2 hset hsame hg3 hap hxr
        go_wp2_with fail
        go_roundw
        case rel => exact ⟨k + 1, by go_num, by omega, hoH.out, hBH.out⟩
        case measure => simp [intOf]; omega
      · have hs2 := hsame (by unfold apN; exact if_neg h0)
        have hoH := Lib.hid ho
        have hsH := Lib.hid hs2
        clear ho hset hsame hs2 hxr
        go_wp2_with fail
        go_roundw
        case rel => exact ⟨k + 1, by go_num, by omega, by rw [← hsH.out]; exact hoH.out, hB⟩
        case measure => simp [intOf]; omega
    · rw [doneTo_all _ _ _ (by omega)] at ho
      have hoH := Lib.hid ho
      clear ho
      go_wp2_with fail
      go_ret
      exact ⟨_, rfl, hoH.out, hB⟩

def solvedRet (w : World) (a1 : Option Addr) (c1 : Nat) (s : Sg) (a b : List Int) (e : Ending) (w' : World) : Prop :=
  ∃ xb mb r, e = .returned (.tuple #[.pointer (some ⟨xb, 0, none⟩), .bool r]) ∧ Below w.heap.size w w' ∧ (r = false → ∀ η, Wsub s η → ap η a ≠ ap η b) ∧
    (r = true → ∃ B θ ρ n, Slv s B θ ρ ∧ RgB B ∧ IsMgu s a b θ ∧ SolvW w w' xb mb n a1 c1 s B)
set_option maxHeartbeats 1000000 in
theorem solved_any {S1 S2 S3 : Nat → Prop} (a1 a2 a3 : Option Addr) (c1 c2 c3 : Nat) (s : Sg) (a b : List Int) (w : World) (h1 : Sign S1 w a1 c1 s) (h2 : Ints S2 w a2 c2 a) (h3 : Ints S3 w a3 c3 b) (hok : okSign s = true)
    (ha : W1 s a) (hb : W1 s b) (ra : Rg a) (rb : Rg b) (la : a.length ≤ 1000) (lb : b.length ≤ 1000) :
    Calls Try.prog 19 #[.slice a1 s.length c1, .slice a2 a.length c2, .slice a3 b.length c3] w (solvedRet w a1 c1 s a b) := by
  have hmm := @run_makeMap Try.prog
  have h1' : Sign (fun b => b < w.heap.size) w a1 c1 s := h1.lt.weak (fun _ h => h.2)
  have h2' : T0 w a2 c2 a := h2.lt.weak (fun _ h => h.2)
  have h3' : T0 w a3 c3 b := h3.lt.weak (fun _ h => h.2)
  have m2 := h2.le
  have m3 := h3.le
  obtain ⟨W, hW⟩ : ∃ W, (w.alloc (.map #[] 0)).alloc (.cells #[.slice a1 s.length c1, .map (some w.heap.size)] 66) = W := ⟨_, rfl⟩
  have hbW : Below w.heap.size w W := by rw [← hW]; exact below2 _ _ _
  have k0 : W.cell? ⟨w.heap.size + 1, 0, none⟩ = some (.slice a1 s.length c1) := by rw [← hW]; clear hW; go_simp
  have k1 : W.cell? ⟨w.heap.size + 1, 1, none⟩ = some (.map (some w.heap.size)) := by rw [← hW]; clear hW; go_simp
  have hmap : BdMap w W w.heap.size 0 (fun _ => none) := by
    rw [← hW]; exact (BdMap.made w w).below (below1 _ _) (by simp)
  have hS : SolvW w W (w.heap.size + 1) w.heap.size 0 a1 c1 s (fun _ => none) := ⟨k0, k1, hmap, Nat.le_succ _, Nat.le_refl _, by omega, h1', hbW, fun _ _ h => by cases h⟩
  have cs := solve_any hok hS h2' h3' ha hb ra rb la lb
  have csH := Lib.hid cs
  have hWH := Lib.hid hW
  clear cs hS hmap k0 k1 hbW hW h1 h2 h3 h1' h2' h3'
  go_enter Try.func19, Try.ntmps19
  go_wp2_with fail
  rw [hWH.out]
  refine csH.out.mono ?_
  rintro e w1 ⟨r, rfl, hB, hf, ht⟩
  have hBH := Lib.hid hB
  have hfH := Lib.hid hf
  have htH := Lib.hid ht
  clear hB hf ht
  go_wp2_with fail
  go_ret2
  exact ⟨_, _, r, rfl, hBH.out, hfH.out, fun h => by obtain ⟨B, θ, ρ, n, g1, g2, g3, g4, -⟩ := htH.out h; exact ⟨B, θ, ρ, n, g1, g2, ⟨B, ρ, g1, g3⟩, g4⟩⟩
theorem solved_uniB {w w' : World} {a1 : Option Addr} {c1 xb mb : Nat} {s : Sg} {a b : List Int} {r : Bool} (hf : r = false → ∀ η, Wsub s η → ap η a ≠ ap η b) (ht : r = true → ∃ B θ ρ n, Slv s B θ ρ ∧ RgB B ∧ IsMgu s a b θ ∧ SolvW w w' xb mb n a1 c1 s B) : r = uniB s a b := by
  cases r with
  | false => exact (uniB_none (hf rfl)).symm
  | true => obtain ⟨B, θ, ρ, n, -, -, h, -⟩ := ht rfl; exact (uniB_some h).symm

set_option maxHeartbeats 1000000 in
theorem Unifiable_any {S1 S2 S3 : Nat → Prop} (a1 a2 a3 : Option Addr) (c1 c2 c3 : Nat) (s : Sg) (a b : List Int) (w : World) (h1 : Sign S1 w a1 c1 s) (h2 : Ints S2 w a2 c2 a) (h3 : Ints S3 w a3 c3 b) :
    Calls Try.prog 14 #[.slice a1 s.length c1, .slice a2 a.length c2, .slice a3 b.length c3] w fun e w' => e = .returned (.bool (unifB s a b)) ∧ Below w.heap.size w w' := by
  have m2 := h2.le
  have m3 := h3.le
  have v1 := Valid_any a1 a2 c1 c2 s a w h1 h2
  have v2 := fun W (hb : Below w.heap.size w W) => Valid_any a1 a3 c1 c3 s b W (h1.below hb) (h3.below hb)
  have v3 : okT s a = true → okT s b = true → ∀ W, Below w.heap.size w W → _ := fun e1 e2 W hb => solved_any a1 a2 a3 c1 c2 c3 s a b W (h1.below hb) (h2.below hb) (h3.below hb) (okT_parts e1).1 (okT_w1 e1) (okT_w1 e2) (okT_Rg e1) (okT_Rg e2) (by have := (okT_parts e1).2.2.1; omega) (by have := (okT_parts e2).2.2.1; omega)
  unfold unifB
  generalize okT s a = x at *
  generalize okT s b = y at *
  have v1H := Lib.hid v1
  have v2H := Lib.hid v2
  have v3H := Lib.hid v3
  clear v1 v2 v3 h1 h2 h3
  cases x with
  | false =>
    go_enter Try.func14, Try.ntmps14
    go_wp2_with (go_at_call 15; refine v1H.out.mono ?_; rintro e w1 ⟨rfl, hb1⟩)
    go_ret
    exact ⟨rfl, hb1⟩
  | true =>
    cases y with
    | false =>
      go_enter Try.func14, Try.ntmps14
      go_wp2_with fail
      refine v1H.out.mono ?_
      rintro e w1 ⟨rfl, hb1⟩
      go_wp2_with fail
      refine (v2H.out _ hb1).mono ?_
      rintro e w2 ⟨rfl, hb2⟩
      go_wp2_with fail
      go_ret
      exact ⟨rfl, bcall hb1 hb2⟩
    | true =>
      go_enter Try.func14, Try.ntmps14
      go_wp2_with fail
      refine v1H.out.mono ?_
      rintro e w1 ⟨rfl, hb1⟩
      go_wp2_with fail
      refine (v2H.out _ hb1).mono ?_
      rintro e w2 ⟨rfl, hb2⟩
      have hbb := bcall hb1 hb2
      go_wp2_with fail
      refine (v3H.out trivial trivial _ hbb).mono ?_
      rintro e w3 ⟨xb, mb, r, rfl, hb3, hf, ht⟩
      have hrH := Lib.hid (solved_uniB hf ht)
      clear hf ht
      go_wp2_with fail
      go_ret
      exact ⟨by rw [hrH.out]; simp, bcall hbb hb3⟩

set_option maxHeartbeats 1000000 in
theorem Meets_any {S1 S2 S3 : Nat → Prop} (a1 a2 a3 : Option Addr) (c1 c2 c3 : Nat) (s : Sg) (a b : List Int) (w : World) (h1 : Sign S1 w a1 c1 s) (h2 : Ints S2 w a2 c2 a) (h3 : Ints S3 w a3 c3 b) :
    Calls Try.prog 13 #[.slice a1 s.length c1, .slice a2 a.length c2, .slice a3 b.length c3] w fun e w' => e = .returned (.bool (meetB s a b)) ∧ Below w.heap.size w w' := by
  have m2 := h2.le
  have m3 := h3.le
  have v1 := Valid_any a1 a2 c1 c2 s a w h1 h2
  have v2 := fun W (hb : Below w.heap.size w W) => Valid_any a1 a3 c1 c3 s b W (h1.below hb) (h3.below hb)
  have v4 : okT s b = true → ∀ W, Below w.heap.size w W → _ := fun e2 W hb => apart_any a3 c3 b W (h3.below hb) (by have := (okT_parts e2).2.2.1; unfold lim; omega) (okT_ne e2) (okT_rg e2)
  have v3 : okT s a = true → okT s b = true → ∀ W, Below w.heap.size w W → ∀ (T : Nat → Prop) a4 c4, Ints T W a4 c4 (apartT b) → _ := fun e1 e2 W hb T a4 c4 hi => solved_any a1 a2 a4 c1 c2 c4 s a (apartT b) W (h1.below hb) (h2.below hb) hi (okT_parts e1).1 (okT_w1 e1) (apartT_w (okT_w1 e2)) (okT_Rg e1) (apartT_rg e2) (by have := (okT_parts e1).2.2.1; omega) (by rw [apartT_len]; have := (okT_parts e2).2.2.1; omega)
  unfold meetB
  have hal := apartT_len b
  generalize okT s a = x at *
  generalize okT s b = y at *
  have v1H := Lib.hid v1
  have v2H := Lib.hid v2
  have v3H := Lib.hid v3
  have v4H := Lib.hid v4
  have halH := Lib.hid hal
  clear v1 v2 v3 v4 h1 h2 h3 hal
  cases x with
  | false =>
    go_enter Try.func13, Try.ntmps13
    go_wp2_with (go_at_call 15; refine v1H.out.mono ?_; rintro e w1 ⟨rfl, hb1⟩)
    go_ret
    exact ⟨rfl, hb1⟩
  | true =>
    cases y with
    | false =>
      go_enter Try.func13, Try.ntmps13
      go_wp2_with fail
      refine v1H.out.mono ?_
      rintro e w1 ⟨rfl, hb1⟩
      go_wp2_with fail
      refine (v2H.out _ hb1).mono ?_
      rintro e w2 ⟨rfl, hb2⟩
      go_wp2_with fail
      go_ret
      exact ⟨rfl, bcall hb1 hb2⟩
    | true =>
      go_enter Try.func13, Try.ntmps13
      go_wp2_with fail
      refine v1H.out.mono ?_
      rintro e w1 ⟨rfl, hb1⟩
      go_wp2_with fail
      refine (v2H.out _ hb1).mono ?_
      rintro e w2 ⟨rfl, hb2⟩
      have hbb := bcall hb1 hb2
      clear hb1 hb2
      go_wp2_with fail
      refine (v4H.out trivial _ hbb).mono ?_
      rintro e w3 ⟨v, rfl, ho, hb3⟩
      obtain ⟨a4, c4, rfl, hI⟩ := OwnI.ints ho
      have hbb := bcall hbb hb3
      clear hb3 ho
      go_wp2_with fail
      refine (v3H.out trivial trivial _ hbb _ _ _ hI).mono ?_
      rintro e w4 ⟨xb, mb, r, rfl, hb3, hf, ht⟩
      have hrH := Lib.hid (solved_uniB hf ht)
      clear hf ht
      go_wp2_with fail
      go_ret
      exact ⟨by rw [hrH.out]; simp, bcall hbb hb3⟩
end Go.Proofs.Ytgkddhakhapjlaa
