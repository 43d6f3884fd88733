/- Walks: Alike, Canonical, Depth; what the laws begin with. -/
import Derived.Test.YtjiffkpgadjodaaWalkG
import Derived.Test.YtjiffkpgadjodaaLit
namespace Go.Proofs.Ytjiffkpgadjodaa
open Go Go.RowKit Go.Maps

def alikeT (s : Sg) (a b : List Int) : Bool := okT s a && okT s b && decide (canon a = canon b)
theorem canon_length (t : List Int) : (canon t).length = t.length := by simp [canon]
theorem okT_lim {s : Sg} {t : List Int} (h : okT s t = true) : t.length ≤ lim := by
  obtain ⟨_, _, h, _⟩ := okT_parts h; unfold lim; omega

set_option maxHeartbeats 1000000 in
theorem Depth_any {S1 S2 : Nat → Prop} (a1 a2 : Option Addr) (c1 c2 : Nat) (s : Sg) (t : List Int) (w : World) (h1 : Sign S1 w a1 c1 s) (h2 : Ints S2 w a2 c2 t) :
    Calls Try.prog 11 #[.slice a1 s.length c1, .slice a2 t.length c2] w fun e w' =>
      e = .returned (.tuple (if okT s t then #[.int .i64 (depth s t : Nat), .int .i64 0] else #[.int .i64 0, .int .i64 1])) ∧ Below w.heap.size w w' := by
  have m2 := h2.le
  have v1 := Valid_any a1 a2 c1 c2 s t w h1 h2
  obtain ⟨x, hx⟩ : ∃ x, okT s t = x := ⟨_, rfl⟩
  rw [hx] at v1 ⊢
  have v1H := Lib.hid v1
  clear v1
  cases x with
  | false =>
    clear hx
    go_enter Try.func11, Try.ntmps11
    go_wp2_with (go_at_call 14; refine v1H.out.mono ?_; rintro e w1 ⟨rfl, hb1⟩)
    go_ret2
    exact ⟨rfl, hb1⟩
  | true =>
    obtain ⟨h3, h4, h5, h6⟩ := okT_parts hx
    have he : endOf s t 0 ≠ -1 := by
      have := endOf_zero (s := s) h4
      rw [decide_eq_true h6, decide_eq_true_eq] at this
      rw [this]; omega
    have heH := Lib.hid he
    have h3H := Lib.hid h3
    clear hx h6 he h3
    go_enter Try.func11, Try.ntmps11
    go_wp2_with (first | (go_at_call 14; refine v1H.out.mono ?_; rintro e w1 ⟨rfl, hb1⟩) | (go_at_call 28; refine (end_any h3H.out 0 _ (.inr ⟨Int.le_refl _, Int.natCast_nonneg _⟩) (h1.below hb1) (h2.below hb1)).mono ?_; rintro e w2 ⟨d, rfl, hd, hb2⟩))
    go_ret2
    have := hd heH.out t.length (Nat.sub_le _ _)
    simp at this
    refine ⟨?_, hb1.trans (hb2.mono hb1.size)⟩
    rw [this]; rfl

set_option maxHeartbeats 1000000 in
theorem Canonical_any {S1 S2 : Nat → Prop} (a1 a2 : Option Addr) (c1 c2 : Nat) (s : Sg) (t : List Int) (w : World) (h1 : Sign S1 w a1 c1 s) (h2 : Ints S2 w a2 c2 t) :
    Calls Try.prog 12 #[.slice a1 s.length c1, .slice a2 t.length c2] w fun e w' =>
      ∃ v n, e = .returned (.tuple #[v, .int .i64 n]) ∧ Below w.heap.size w w' ∧ (okT s t = false → v = .slice none 0 0 ∧ n = 1) ∧ (okT s t = true → n = 0 ∧ OwnI w' w.heap.size v (canon t)) := by
  have m2 := h2.le
  have v1 := Valid_any a1 a2 c1 c2 s t w h1 h2
  obtain ⟨x, hx⟩ : ∃ x, okT s t = x := ⟨_, rfl⟩
  rw [hx] at v1
  have v1H := Lib.hid v1
  clear v1
  cases x with
  | false =>
    have hxH := Lib.hid hx
    clear hx
    go_enter Try.func12, Try.ntmps12
    go_wp2_with (go_at_call 14; refine v1H.out.mono ?_; rintro e w1 ⟨rfl, hb1⟩)
    go_ret2
    exact ⟨_, _, rfl, hb1, fun _ => ⟨rfl, rfl⟩, fun h => by rw [hxH.out] at h; cases h⟩
  | true =>
    have hl1 := okT_lim hx
    have hn1 := okT_ne hx
    have c1 := fun W (hb : Below w.heap.size w W) => canonical_any a2 c2 t W (h2.below hb) hl1 hn1
    have c1H := Lib.hid c1
    have hxH := Lib.hid hx
    clear hx c1
    go_enter Try.func12, Try.ntmps12
    go_wp2_with (first | (go_at_call 14; refine v1H.out.mono ?_; rintro e w1 ⟨rfl, hb1⟩) | (go_at_call 29; refine (c1H.out w1 hb1).mono ?_; rintro e w2 ⟨v, rfl, ho, hb2⟩))
    go_ret2
    exact ⟨_, _, rfl, hb1.trans (hb2.mono hb1.size), (fun h => by rw [hxH.out] at h; cases h), fun _ => ⟨rfl, ho.baseMono hb1.size⟩⟩

def smallT (s : Sg) (l : List (List Int)) : Bool := l.all (fun t => decide (t.length ≤ 200)) && decide (s.length ≤ 40)
set_option maxHeartbeats 1000000 in
theorem Small_any {S1 S2 : Nat → Prop} (a1 a2 : Option Addr) (c1 c2 : Nat) (s : Sg) (l : List (List Int)) (w : World) (h1 : Sign S1 w a1 c1 s) (h2 : Terms S2 w a2 c2 l) :
    Calls Try.prog 4 #[.slice a1 s.length c1, .slice a2 l.length c2] w fun e w' => e = .returned (.bool (smallT s l)) ∧ w = w' := by
  have m1 := h1.le
  have m2 := h2.le
  clear h1
  go_enter Try.func4, Try.ntmps4
  go_wp2_with fail
  go_loop [5] (fun i => ∃ k : Nat, k ≤ l.length ∧ i = .int .i64 k ∧ (l.take k).all (fun t => decide (t.length ≤ 200)) = true) (fun i => l.length - (intOf i).toNat)
  case atStart => exact ⟨0, by omega, rfl, by simp⟩
  case round =>
    obtain ⟨k, hk, rfl, hn⟩ := hrel
    have hnH := Lib.hid hn
    clear hn
    by_cases hlt : k < l.length
    · obtain ⟨b, o, a', c', rfl, -, q, hsub⟩ := h2.sub k hlt
      have msub := hsub.le
      clear h2 hsub
      by_cases h200 : l[k].length ≤ 200
      · go_wp2_with fail
        go_round
        case rel => exact ⟨k + 1, by omega, by go_num, by rw [List.take_succ_eq_append_getElem hlt, List.all_append, hnH.out]; simp; omega⟩
        case measure => simp [intOf]; omega
      · have hf : smallT s l = false := by
          have : l.all (fun t => decide (t.length ≤ 200)) = false := by rw [List.all_eq_false]; exact ⟨l[k], List.getElem_mem hlt, by simpa using h200⟩
          unfold smallT; rw [this]; rfl
        have hfH := Lib.hid hf
        clear hf
        go_wp2_with fail
        go_ret
        exact ⟨ret_bool hfH.out.symm, rfl⟩
    · go_wp2_with fail
      go_ret
      refine ⟨ret_bool ?_, rfl⟩
      have := hnH.out
      rw [List.take_of_length_le (by omega)] at this
      unfold smallT
      rw [this, Bool.true_and, Bool.eq_iff_iff]; simp; omega

def awS : Sg := [(⟨#[67]⟩, 2), (⟨#[78]⟩, 1)]
def awT : List Int := [0, -1, 0, -2, -1]
def awU : List Int := [0, -3, -3]
theorem aw1 : okT awS awT = true := by decide +kernel
theorem aw2 : okT awS awU = true := by decide +kernel
theorem aw3 : depth awS awT = 3 := by decide +kernel
theorem aw4 : canon awU = [0, -1, -1] := by decide +kernel
theorem awSign (w : World) : Sign (fun b => b = w.heap.size) (w.alloc (.cells #[.string ⟨#[67]⟩, .int .i64 2, .string ⟨#[78]⟩, .int .i64 1] 39)) (some ⟨w.heap.size, 0, none⟩) 2 awS := by
  have := Sl.new (E := symE) (S := fun _ => False) w [[.string ⟨#[67]⟩, .int .i64 2], [.string ⟨#[78]⟩, .int .i64 1]] awS 39 rfl (by decide) (fun i h1 h2 => by
    match i, h1 with
    | 0, _ => exact ⟨[_], [_], rfl, ⟨rfl, (by decide : 1 ≤ big)⟩, ⟨rfl, (by unfold inRange; decide : inRange 2)⟩⟩
    | 1, _ => exact ⟨[_], [_], rfl, ⟨rfl, (by decide : 1 ≤ big)⟩, ⟨rfl, (by unfold inRange; decide : inRange 1)⟩⟩)
  exact this.weak (fun b h => h.resolve_left (fun h => h))
set_option maxHeartbeats 1000000 in
theorem awake_any (w : World) :
    Calls Try.prog 5 #[] w fun e w' => e = .returned (.bool true) ∧ Below w.heap.size w w' := by
  have hS := awSign w
  go_enter Try.func5, Try.ntmps5
  go_wp2_with fail
  have hB0 := below1 w (.cells #[.string ⟨#[67]⟩, .int .i64 2, .string ⟨#[78]⟩, .int .i64 1] 39)
  have hT := Ints.new (w.alloc (.cells #[.string ⟨#[67]⟩, .int .i64 2, .string ⟨#[78]⟩, .int .i64 1] 39)) awT 3 (by decide) (by unfold inRange; decide)
  have hB1 := hB0.trans ((below1 (w.alloc (.cells #[.string ⟨#[67]⟩, .int .i64 2, .string ⟨#[78]⟩, .int .i64 1] 39)) (.cells (awT.map (Value.int .i64)).toArray 3)).mono hB0.size)
  have hS1 := hS.below (below1 _ (.cells (awT.map (Value.int .i64)).toArray 3))
  rw [World.size_alloc] at hT
  refine (Depth_any (some ⟨w.heap.size, 0, none⟩) (some ⟨w.heap.size + 1, 0, none⟩) 2 5 awS awT _ hS1 hT).mono ?_
  rw [if_pos aw1, aw3]
  rintro e w1 ⟨rfl, hb1⟩
  have hS2 := hS1.below hb1
  have hB2 := hB1.trans (hb1.mono hB1.size)
  clear hS hS1 hT hB0 hB1 hb1
  go_wp2_with fail
  have hU := Ints.new w1 awU 3 (by decide) (by unfold inRange; decide)
  have hb2 := below1 w1 (.cells (awU.map (Value.int .i64)).toArray 3)
  refine (Canonical_any (some ⟨w.heap.size, 0, none⟩) (some ⟨w1.heap.size, 0, none⟩) 2 3 awS awU _ (hS2.below hb2) hU).mono ?_
  rintro e w2 ⟨v, n, rfl, hb3, -, hv⟩
  obtain ⟨rfl, ho⟩ := hv aw2
  rw [aw4] at ho
  obtain ⟨a, c, rfl, hI⟩ := OwnI.ints ho
  have hB3 := hB2.trans ((hb2.mono hB2.size).trans (hb3.mono (Nat.le_trans hB2.size hb2.size)))
  clear hS2 hU hB2 hb2 hb3 ho hv
  go_wp2_with fail
  have hR := Ints.new w2 [0, -1, -1] 3 (by decide) (by unfold inRange; decide)
  have hb4 := below1 w2 (.cells ([0, -1, -1].map (Value.int .i64)).toArray 3)
  refine (Same_any a (some ⟨w2.heap.size, 0, none⟩) c 3 [0, -1, -1] [0, -1, -1] _ (hI.below hb4) hR).mono ?_
  rintro e w3 ⟨rfl, n3, rfl⟩
  go_wp2_with fail
  go_ret
  exact ⟨rfl, below_drewN (hB3.trans (hb4.mono hB3.size)) _⟩
end Go.Proofs.Ytjiffkpgadjodaa
