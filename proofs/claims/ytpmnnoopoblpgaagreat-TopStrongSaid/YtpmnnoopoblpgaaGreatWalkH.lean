/- Walks: Alike, Canonical, Depth; what the laws begin with. -/
import Derived.Test.YtpmnnoopoblpgaaGreatWalkG
import Derived.Test.YtpmnnoopoblpgaaGreatLit
namespace Go.Proofs.YtpmnnoopoblpgaaGreat
open Go Go.RowKit Go.Maps

def alikeT (s : Sg) (a b : List Int) : Bool := okT s a && okT s b && decide (canon a = canon b)
theorem canon_length (t : List Int) : (canon t).length = t.length := by simp [canon]
theorem okT_lim {s : Sg} {t : List Int} (h : okT s t = true) : t.length ≤ lim := by
  obtain ⟨_, _, h, _⟩ := okT_parts h; unfold lim; omega

set_option maxHeartbeats 1000000 in
theorem Canonical_any {S1 S2 : Nat → Prop} (a1 a2 : Option Addr) (c1 c2 : Nat) (s : Sg) (t : List Int) (w : World) (h1 : Sign S1 w a1 c1 s) (h2 : Ints S2 w a2 c2 t) :
    Calls Tryz.prog 208 #[.slice a1 s.length c1, .slice a2 t.length c2] w fun e w' =>
      ∃ v n, e = .returned (.tuple #[v, .int .i64 n]) ∧ Below w.heap.size w w' ∧ (okT s t = false → v = .slice none 0 0 ∧ n = 1) ∧ (okT s t = true → n = 0 ∧ OwnI w' w.heap.size v (canon t)) := by
  have m2 := h2.le
  have v1 := Valid_any a1 a2 c1 c2 s t w h1 h2
  obtain ⟨x, hx⟩ : ∃ x, okT s t = x := ⟨_, rfl⟩
  rw [hx] at v1
  have v1H := Lib.hid v1
  clear v1
  cases x with
  | false =>
    have hxH := Lib.hid hx
    clear hx
    go_enter Tryz.func208, Tryz.ntmps208
    go_wp2_with (go_at_call 119; refine v1H.out.mono ?_; rintro e w1 ⟨rfl, hb1⟩)
    go_ret2
    exact ⟨_, _, rfl, hb1, fun _ => ⟨rfl, rfl⟩, fun h => by rw [hxH.out] at h; cases h⟩
  | true =>
    have hl1 := okT_lim hx
    have hn1 := okT_ne hx
    have c1 := fun W (hb : Below w.heap.size w W) => canonical_any a2 c2 t W (h2.below hb) hl1 hn1
    have c1H := Lib.hid c1
    have hxH := Lib.hid hx
    clear hx c1
    go_enter Tryz.func208, Tryz.ntmps208
    go_wp2_with (first | (go_at_call 119; refine v1H.out.mono ?_; rintro e w1 ⟨rfl, hb1⟩) | (go_at_call 121; refine (c1H.out w1 hb1).mono ?_; rintro e w2 ⟨v, rfl, ho, hb2⟩))
    go_ret2
    exact ⟨_, _, rfl, hb1.trans (hb2.mono hb1.size), (fun h => by rw [hxH.out] at h; cases h), fun _ => ⟨rfl, ho.baseMono hb1.size⟩⟩

def smallT (s : Sg) (l : List (List Int)) : Bool := l.all (fun t => decide (t.length ≤ 200)) && decide (s.length ≤ 40)
def awS : Sg := [(⟨#[67]⟩, 2), (⟨#[78]⟩, 1)]
def awT : List Int := [0, -1, 0, -2, -1]
def awU : List Int := [0, -3, -3]
theorem aw1 : okT awS awT = true := by decide +kernel
theorem aw2 : okT awS awU = true := by decide +kernel
theorem aw3 : depth awS awT = 3 := by decide +kernel
theorem aw4 : canon awU = [0, -1, -1] := by decide +kernel
theorem awSign (w : World) : Sign (fun b => b = w.heap.size) (w.alloc (.cells #[.string ⟨#[67]⟩, .int .i64 2, .string ⟨#[78]⟩, .int .i64 1] 115)) (some ⟨w.heap.size, 0, none⟩) 2 awS := by
  have := Sl.new (E := symE) (S := fun _ => False) w [[.string ⟨#[67]⟩, .int .i64 2], [.string ⟨#[78]⟩, .int .i64 1]] awS 115 rfl (by decide) (fun i h1 h2 => by
    match i, h1 with
    | 0, _ => exact ⟨[_], [_], rfl, ⟨rfl, (by decide : 1 ≤ big)⟩, ⟨rfl, (by unfold inRange; decide : inRange 2)⟩⟩
    | 1, _ => exact ⟨[_], [_], rfl, ⟨rfl, (by decide : 1 ≤ big)⟩, ⟨rfl, (by unfold inRange; decide : inRange 1)⟩⟩)
  exact this.weak (fun b h => h.resolve_left (fun h => h))
end Go.Proofs.YtpmnnoopoblpgaaGreat
