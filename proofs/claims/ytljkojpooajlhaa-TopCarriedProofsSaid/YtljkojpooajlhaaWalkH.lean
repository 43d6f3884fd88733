/- Walks: Alike, Canonical, Depth; what the laws begin with. -/
import Derived.Test.YtljkojpooajlhaaWalkG
import Derived.Test.YtljkojpooajlhaaLit
namespace Go.Proofs.Ytljkojpooajlhaa
open Go Go.RowKit Go.Maps

def alikeT (s : Sg) (a b : List Int) : Bool := okT s a && okT s b && decide (canon a = canon b)
theorem canon_length (t : List Int) : (canon t).length = t.length := by simp [canon]
theorem okT_lim {s : Sg} {t : List Int} (h : okT s t = true) : t.length ≤ lim := by
  obtain ⟨_, _, h, _⟩ := okT_parts h; unfold lim; omega

set_option maxHeartbeats 1000000 in
theorem Alike_any {S S1 S2 : Nat → Prop} (a0 a1 a2 : Option Addr) (c0 c1 c2 : Nat) (s : Sg) (t u : List Int) (w : World) (h0 : Sign S w a0 c0 s) (h1 : Ints S1 w a1 c1 t) (h2 : Ints S2 w a2 c2 u) :
    Calls Try.prog 11 #[.slice a0 s.length c0, .slice a1 t.length c1, .slice a2 u.length c2] w fun e w' => e = .returned (.bool (alikeT s t u)) ∧ Below w.heap.size w w' := by
  have m1 := h1.le
  have m2 := h2.le
  obtain ⟨x, hx⟩ : ∃ x, okT s t = x := ⟨_, rfl⟩
  obtain ⟨y, hy⟩ : ∃ y, okT s u = y := ⟨_, rfl⟩
  have v1 := fun W (hb : Below w.heap.size w W) => Valid_any a0 a1 c0 c1 s t W (h0.below hb) (h1.below hb)
  have v2 := fun W (hb : Below w.heap.size w W) => Valid_any a0 a2 c0 c2 s u W (h0.below hb) (h2.below hb)
  rw [hx] at v1
  rw [hy] at v2
  have v1H := Lib.hid v1
  have v2H := Lib.hid v2
  clear v1 v2
  cases x with
  | false =>
    have hf : alikeT s t u = false := by unfold alikeT; rw [hx]; rfl
    have hfH := Lib.hid hf
    clear hf hx hy
    go_enter Try.func11, Try.ntmps11
    go_wp2_with fail
    refine (v1H.out w (.refl _ _)).mono ?_
    rintro e w1 ⟨rfl, hb1⟩
    go_wp2_with fail
    go_ret
    exact ⟨ret_bool hfH.out.symm, hb1⟩
  | true =>
    cases y with
    | false =>
      have hf : alikeT s t u = false := by unfold alikeT; rw [hx, hy]; rfl
      have hfH := Lib.hid hf
      clear hf hx hy
      go_enter Try.func11, Try.ntmps11
      go_wp2_with fail
      refine (v1H.out w (.refl _ _)).mono ?_
      rintro e w1 ⟨rfl, hb1⟩
      go_wp2_with fail
      refine (v2H.out w1 hb1).mono ?_
      rintro e w2 ⟨rfl, hb2⟩
      go_wp2_with fail
      go_ret
      exact ⟨ret_bool hfH.out.symm, hb1.trans (hb2.mono hb1.size)⟩
    | true =>
      have hf : alikeT s t u = decide (canon t = canon u) := by unfold alikeT; rw [hx, hy]; rfl
      have hfH := Lib.hid hf
      have hl1 := okT_lim hx
      have hl2 := okT_lim hy
      have hn1 := okT_ne hx
      have hn2 := okT_ne hy
      have e1 := canon_length t
      have e2 := canon_length u
      have c1 := fun W (hb : Below w.heap.size w W) => canonical_any a1 c1 t W (h1.below hb) hl1 hn1
      have c2 := fun W (hb : Below w.heap.size w W) => canonical_any a2 c2 u W (h2.below hb) hl2 hn2
      generalize canon t = C1 at *
      generalize canon u = C2 at *
      have c1H := Lib.hid c1
      have c2H := Lib.hid c2
      clear hf hx hy c1 c2 e1 e2 hn1 hn2
      go_enter Try.func11, Try.ntmps11
      go_wp2_with fail
      refine (v1H.out w (.refl _ _)).mono ?_
      rintro e w1 ⟨rfl, hb1⟩
      go_wp2_with fail
      refine (v2H.out w1 hb1).mono ?_
      rintro e w2 ⟨rfl, hb2⟩
      have hb2' := hb1.trans (hb2.mono hb1.size)
      go_wp2_with fail
      refine (c1H.out w2 hb2').mono ?_
      rintro e w3 ⟨r1, rfl, ho1, hb3⟩
      have hb3' := hb2'.trans (hb3.mono hb2'.size)
      go_wp2_with fail
      refine (c2H.out w3 hb3').mono ?_
      rintro e w4 ⟨r2, rfl, ho2, hb4⟩
      have hb4' := hb3'.trans (hb4.mono hb3'.size)
      obtain ⟨p1, q1, rfl, hi1⟩ := OwnI.ints (ho1.call hb4)
      obtain ⟨p2, q2, rfl, hi2⟩ := ho2.ints
      go_wp2_with fail
      refine (Equal_any p1 p2 q1 q2 C1 C2 w4 hi1 hi2).mono ?_
      rintro e w5 ⟨rfl, n5, rfl⟩
      go_wp2_with fail
      go_ret
      exact ⟨ret_bool hfH.out.symm, below_drewN hb4' _⟩

set_option maxHeartbeats 1000000 in
theorem Canonical_any {S1 S2 : Nat → Prop} (a1 a2 : Option Addr) (c1 c2 : Nat) (s : Sg) (t : List Int) (w : World) (h1 : Sign S1 w a1 c1 s) (h2 : Ints S2 w a2 c2 t) :
    Calls Try.prog 48 #[.slice a1 s.length c1, .slice a2 t.length c2] w fun e w' =>
      ∃ v n, e = .returned (.tuple #[v, .int .i64 n]) ∧ Below w.heap.size w w' ∧ (okT s t = false → v = .slice none 0 0 ∧ n = 1) ∧ (okT s t = true → n = 0 ∧ OwnI w' w.heap.size v (canon t)) := by
  have m2 := h2.le
  have v1 := Valid_any a1 a2 c1 c2 s t w h1 h2
  obtain ⟨x, hx⟩ : ∃ x, okT s t = x := ⟨_, rfl⟩
  rw [hx] at v1
  have v1H := Lib.hid v1
  clear v1
  cases x with
  | false =>
    have hxH := Lib.hid hx
    clear hx
    go_enter Try.func48, Try.ntmps48
    go_wp2_with (go_at_call 16; refine v1H.out.mono ?_; rintro e w1 ⟨rfl, hb1⟩)
    go_ret2
    exact ⟨_, _, rfl, hb1, fun _ => ⟨rfl, rfl⟩, fun h => by rw [hxH.out] at h; cases h⟩
  | true =>
    have hl1 := okT_lim hx
    have hn1 := okT_ne hx
    have c1 := fun W (hb : Below w.heap.size w W) => canonical_any a2 c2 t W (h2.below hb) hl1 hn1
    have c1H := Lib.hid c1
    have hxH := Lib.hid hx
    clear hx c1
    go_enter Try.func48, Try.ntmps48
    go_wp2_with (first | (go_at_call 16; refine v1H.out.mono ?_; rintro e w1 ⟨rfl, hb1⟩) | (go_at_call 21; refine (c1H.out w1 hb1).mono ?_; rintro e w2 ⟨v, rfl, ho, hb2⟩))
    go_ret2
    exact ⟨_, _, rfl, hb1.trans (hb2.mono hb1.size), (fun h => by rw [hxH.out] at h; cases h), fun _ => ⟨rfl, ho.baseMono hb1.size⟩⟩

def smallT (s : Sg) (l : List (List Int)) : Bool := l.all (fun t => decide (t.length ≤ 200)) && decide (s.length ≤ 40)
set_option maxHeartbeats 1000000 in
theorem Small_any {S1 S2 : Nat → Prop} (a1 a2 : Option Addr) (c1 c2 : Nat) (s : Sg) (l : List (List Int)) (w : World) (h1 : Sign S1 w a1 c1 s) (h2 : Terms S2 w a2 c2 l) :
    Calls Try.prog 5 #[.slice a1 s.length c1, .slice a2 l.length c2] w fun e w' => e = .returned (.bool (smallT s l)) ∧ w = w' := by
  have m1 := h1.le
  have m2 := h2.le
  clear h1
  go_enter Try.func5, Try.ntmps5
  go_wp2_with fail
  go_loop [5] (fun i => ∃ k : Nat, k ≤ l.length ∧ i = .int .i64 k ∧ (l.take k).all (fun t => decide (t.length ≤ 200)) = true) (fun i => l.length - (intOf i).toNat)
  case atStart => exact ⟨0, by omega, rfl, by simp⟩
  case round =>
    obtain ⟨k, hk, rfl, hn⟩ := hrel
    have hnH := Lib.hid hn
    clear hn
    by_cases hlt : k < l.length
    · obtain ⟨b, o, a', c', rfl, -, q, hsub⟩ := h2.sub k hlt
      have msub := hsub.le
      clear h2 hsub
      by_cases h200 : l[k].length ≤ 200
      · go_wp2_with fail
        go_round
        case rel => exact ⟨k + 1, by omega, by go_num, by rw [List.take_succ_eq_append_getElem hlt, List.all_append, hnH.out]; simp; omega⟩
        case measure => simp [intOf]; omega
      · have hf : smallT s l = false := by
          have : l.all (fun t => decide (t.length ≤ 200)) = false := by rw [List.all_eq_false]; exact ⟨l[k], List.getElem_mem hlt, by simpa using h200⟩
          unfold smallT; rw [this]; rfl
        have hfH := Lib.hid hf
        clear hf
        go_wp2_with fail
        go_ret
        exact ⟨ret_bool hfH.out.symm, rfl⟩
    · go_wp2_with fail
      go_ret
      refine ⟨ret_bool ?_, rfl⟩
      have := hnH.out
      rw [List.take_of_length_le (by omega)] at this
      unfold smallT
      rw [this, Bool.true_and, Bool.eq_iff_iff]; simp; omega

def awS : Sg := [(⟨#[67]⟩, 2), (⟨#[78]⟩, 1)]
def awT : List Int := [0, -1, 0, -2, -1]
def awU : List Int := [0, -3, -3]
theorem aw1 : okT awS awT = true := by decide +kernel
theorem aw2 : okT awS awU = true := by decide +kernel
theorem aw3 : depth awS awT = 3 := by decide +kernel
theorem aw4 : canon awU = [0, -1, -1] := by decide +kernel
theorem awSign (w : World) : Sign (fun b => b = w.heap.size) (w.alloc (.cells #[.string ⟨#[67]⟩, .int .i64 2, .string ⟨#[78]⟩, .int .i64 1] 46)) (some ⟨w.heap.size, 0, none⟩) 2 awS := by
  have := Sl.new (E := symE) (S := fun _ => False) w [[.string ⟨#[67]⟩, .int .i64 2], [.string ⟨#[78]⟩, .int .i64 1]] awS 46 rfl (by decide) (fun i h1 h2 => by
    match i, h1 with
    | 0, _ => exact ⟨[_], [_], rfl, ⟨rfl, (by decide : 1 ≤ big)⟩, ⟨rfl, (by unfold inRange; decide : inRange 2)⟩⟩
    | 1, _ => exact ⟨[_], [_], rfl, ⟨rfl, (by decide : 1 ≤ big)⟩, ⟨rfl, (by unfold inRange; decide : inRange 1)⟩⟩)
  exact this.weak (fun b h => h.resolve_left (fun h => h))
end Go.Proofs.Ytljkojpooajlhaa
