/- Walks: Canonical of the reference, IsCanonical, Shape, of both. -/
import Derived.Test.YtpmnnoopoblpgaaGreatWalkH
namespace Go.Proofs.YtpmnnoopoblpgaaGreat
open Go Go.RowKit Go.Maps

def retE (r : List Int × Int) (w : World) (e : Ending) (w' : World) : Prop := ∃ v, e = .returned (.tuple #[v, .int .i64 r.2]) ∧ OwnI w' w.heap.size v r.1 ∧ Below w.heap.size w w'
theorem bcall {w w1 w2 : World} (h : Below w.heap.size w w1) (hb : Below w1.heap.size w1 w2) : Below w.heap.size w w2 := h.trans (hb.mono h.size)
def canonE (s : Sg) (t : List Int) : List Int × Int := errE s t (canon t)
def flatE (s : Sg) (t : List Int) : List Int × Int := errE s t (flat t)
def isCanonT (s : Sg) (t : List Int) : Bool := okT s t && decide (canon t = t)

theorem CanonicalE {S1 S2 : Nat → Prop} (a1 a2 : Option Addr) (c1 c2 : Nat) (s : Sg) (t : List Int) (w : World) (h1 : Sign S1 w a1 c1 s) (h2 : Ints S2 w a2 c2 t) :
    Calls Tryz.prog 208 #[.slice a1 s.length c1, .slice a2 t.length c2] w (retE (canonE s t) w) := by
  refine (Canonical_any a1 a2 c1 c2 s t w h1 h2).mono ?_
  rintro e w' ⟨v, n, rfl, hb, hn, hy⟩
  cases hx : okT s t with
  | false =>
    obtain ⟨rfl, rfl⟩ := hn hx
    rw [canonE, errE_no hx]
    exact ⟨_, rfl, .nil _ _ _ _ _, hb⟩
  | true =>
    obtain ⟨rfl, ho⟩ := hy hx
    rw [canonE, errE_ok hx]
    exact ⟨_, rfl, ho, hb⟩

set_option maxHeartbeats 1000000 in
theorem IsCanonical_any {S1 S2 : Nat → Prop} (a1 a2 : Option Addr) (c1 c2 : Nat) (s : Sg) (t : List Int) (w : World) (h1 : Sign S1 w a1 c1 s) (h2 : Ints S2 w a2 c2 t) :
    Calls Tryz.prog 66 #[.slice a1 s.length c1, .slice a2 t.length c2] w fun e w' => e = .returned (.bool (isCanonT s t)) ∧ Below w.heap.size w w' := by
  have m2 := h2.le
  have v1 := Valid_any a1 a2 c1 c2 s t w h1 h2
  obtain ⟨x, hx⟩ : ∃ x, okT s t = x := ⟨_, rfl⟩
  rw [hx] at v1
  have v1H := Lib.hid v1
  clear v1
  cases x with
  | false =>
    have hf : isCanonT s t = false := by unfold isCanonT; rw [hx]; rfl
    have hfH := Lib.hid hf
    clear hx hf
    go_enter Tryz.func66, Tryz.ntmps66
    go_wp2_with (go_at_call 119; refine v1H.out.mono ?_; rintro e w1 ⟨rfl, hb1⟩)
    go_ret
    exact ⟨ret_bool hfH.out.symm, hb1⟩
  | true =>
    have hf : isCanonT s t = decide (canon t = t) := by unfold isCanonT; rw [hx]; rfl
    have hfH := Lib.hid hf
    have hl1 := okT_lim hx
    have hn1 := okT_ne hx
    have c1 := fun W (hb : Below w.heap.size w W) => canonical_any a2 c2 t W (h2.below hb) hl1 hn1
    have c1H := Lib.hid c1
    clear hx c1 hf
    go_enter Tryz.func66, Tryz.ntmps66
    go_wp2_with (first | (go_at_call 119; refine v1H.out.mono ?_; rintro e w1 ⟨rfl, hb1⟩) | (go_at_call 121; refine (c1H.out w1 hb1).mono ?_; rintro e w2 ⟨v, rfl, ho, hb2⟩; obtain ⟨a3, c3, rfl, hI⟩ := OwnI.ints ho) | (go_at_call 120; refine (Equal_any a3 a2 c3 c2 _ _ _ hI (h2.below (bcall hb1 hb2))).mono ?_; rintro e w3 ⟨rfl, n3, rfl⟩))
    go_ret
    exact ⟨ret_bool hfH.out.symm, below_drewN (bcall hb1 hb2) _⟩

set_option maxHeartbeats 1000000 in
theorem rIsCanonical_any {S1 S2 : Nat → Prop} (a1 a2 : Option Addr) (c1 c2 : Nat) (s : Sg) (t : List Int) (w : World) (h1 : Sign S1 w a1 c1 s) (h2 : Ints S2 w a2 c2 t) :
    Calls Tryz.prog 79 #[.slice a1 s.length c1, .slice a2 t.length c2] w fun e w' => e = .returned (.bool (isCanonT s t)) ∧ Below w.heap.size w w' := by
  have m2 := h2.le
  have v1 := rValid_any a1 a2 c1 c2 s t w h1 h2
  obtain ⟨x, hx⟩ : ∃ x, okT s t = x := ⟨_, rfl⟩
  rw [hx] at v1
  have v1H := Lib.hid v1
  clear v1
  cases x with
  | false =>
    have hf : isCanonT s t = false := by unfold isCanonT; rw [hx]; rfl
    have hfH := Lib.hid hf
    clear hx hf
    go_enter Tryz.func79, Tryz.ntmps79
    go_wp2_with (go_at_call 78; refine v1H.out.mono ?_; rintro e w1 ⟨rfl, hd⟩)
    go_ret
    exact ⟨ret_bool hfH.out.symm, hd.below _⟩
  | true =>
    have hf : isCanonT s t = decide (canon t = t) := by unfold isCanonT; rw [hx]; rfl
    have hfH := Lib.hid hf
    have hl1 := okT_lim hx
    have hn1 := okT_ne hx
    have ht1 := okT_tame hx
    have c1 := fun W (hb : Below w.heap.size w W) => Renamed_any a2 c2 t W (h2.below hb) hl1 ht1 hn1
    have c1H := Lib.hid c1
    clear hx c1 hf
    go_enter Tryz.func79, Tryz.ntmps79
    go_wp2_with (first | (go_at_call 78; refine v1H.out.mono ?_; rintro e w1 ⟨rfl, hd⟩; have hb1 := hd.below w.heap.size) | (go_at_call 134; refine (c1H.out w1 hb1).mono ?_; rintro e w2 ⟨v, rfl, ho, hb2⟩; obtain ⟨a3, c3, rfl, hI⟩ := OwnI.ints ho) | (go_at_call 125; refine (Same_any a3 a2 c3 c2 _ _ _ hI (h2.below (bcall hb1 hb2))).mono ?_; rintro e w3 ⟨rfl, n3, rfl⟩))
    go_ret
    exact ⟨ret_bool hfH.out.symm, below_drewN (bcall hb1 hb2) _⟩

def shRel (t : List Int) (w : World) (B g cap : Nat) (i : Value) (wr : World) : Prop :=
  ∃ k : Nat, i = .int .i64 k ∧ k ≤ t.length ∧ OwnI wr B (.slice (some ⟨g, 0, none⟩) t.length cap) (doneTo (fun n => if n < 0 then -1 else n) t k) ∧ Below B w wr
theorem flat_range {x : Int} (h : inRange x) : inRange (if x < 0 then -1 else x) := by unfold inRange at *; split <;> omega

end Go.Proofs.YtpmnnoopoblpgaaGreat
