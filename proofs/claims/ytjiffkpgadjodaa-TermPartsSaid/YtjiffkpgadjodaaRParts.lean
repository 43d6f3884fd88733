/- Walks: Parts of the reference. -/
import Derived.Test.YtjiffkpgadjodaaWith
import Derived.Test.YtjiffkpgadjodaaRPaths
import Derived.Test.YtjiffkpgadjodaaMathParts
namespace Go.Proofs.Ytjiffkpgadjodaa
open Go Go.RowKit Go.Maps

/-- the list after the first k parts -/
def partsK (s : Sg) (t : List Int) (k : Nat) : List (List Int) := ((partsL s t).take k).foldl (fun l x => withL x l) []
theorem partsK_all {s : Sg} {t : List Int} (h : okT s t = true) : partsK s t t.length = partsT s t := by
  unfold partsK partsT; rw [List.take_of_length_le (by rw [partsL_len h]; exact Nat.le_refl _)]
theorem foldl_with_len : ∀ (m l : List (List Int)), (m.foldl (fun l x => withL x l) l).length ≤ l.length + m.length
  | [], l => by simp
  | y :: m, l => by
    rw [List.foldl_cons]
    have := foldl_with_len m (withL y l)
    have := withL_len (t := y) (l := l)
    simp only [List.length_cons]; omega
theorem partsK_len {s : Sg} {t : List Int} (k : Nat) : (partsK s t k).length ≤ k := by
  have := foldl_with_len ((partsL s t).take k) []
  unfold partsK; simp only [List.length_nil, List.length_take] at this ⊢; omega
theorem partsK_succ {s : Sg} {t : List Int} (h : okT s t = true) {k : Nat} (hk : k < t.length) : partsK s t (k + 1) = withL (partAt s (t.drop k)) (partsK s t k) := by
  have hj : k < (partsL s t).length := by rw [partsL_len h]; exact hk
  unfold partsK
  rw [List.take_succ_eq_append_getElem hj, List.foldl_append, partsL_get h hj]; rfl

def rptRel (s : Sg) (t : List Int) (w2 : World) (out i : Value) (wr : World) : Prop :=
  ∃ k : Nat, i = .int .i64 k ∧ k ≤ t.length ∧ OwnTs (fun _ => True) wr w2.heap.size out (partsK s t k) ∧ Below w2.heap.size w2 wr
theorem OwnTs.baseMono' {S : Nat → Prop} {w : World} {b b' : Nat} {v : Value} {l : List (List Int)} (h : OwnTs S w b v l) (hb : b' ≤ b) : OwnTs S w b' v l := OwnL.baseMono h hb

set_option maxRecDepth 20000 in
set_option maxHeartbeats 8000000 in
theorem rParts_any {S1 S2 : Nat → Prop} (a1 a2 : Option Addr) (c1 c2 : Nat) (s : Sg) (t : List Int) (w : World) (h1 : Sign S1 w a1 c1 s) (h2 : Ints S2 w a2 c2 t) :
    Calls Try.prog 7 #[.slice a1 s.length c1, .slice a2 t.length c2] w (retTE (partsE s t) w) := by
  have m2 := h2.le
  have v1 := rValid_any a1 a2 c1 c2 s t w h1 h2
  obtain ⟨x, hx⟩ : ∃ x, okT s t = x := ⟨_, rfl⟩
  rw [hx] at v1
  have v1H := Lib.hid v1
  clear v1
  cases x with
  | false =>
    rw [show partsE s t = ([], 1) by rw [partsE, hx, if_neg (by simp)]]
    clear hx
    go_enter Try.func7, Try.ntmps7
    go_wp2_with (go_at_call 21; refine v1H.out.mono ?_; rintro e w1 ⟨rfl, hb⟩)
    go_ret2
    exact ⟨_, rfl, .nil _ _ _ _ _, hb.below _⟩
  | true =>
    rw [show partsE s t = (partsT s t, 0) by rw [partsE, hx, if_pos rfl]]
    have hl60 := (okT_parts hx).2.2.1
    have hxH := Lib.hid hx
    have h1H := Lib.hid h1
    have h2H := Lib.hid h2
    clear hx h1 h2
    go_enter Try.func7, Try.ntmps7
    go_wp2_with fail
    refine v1H.out.mono ?_
    rintro e w2 ⟨rfl, hd⟩
    have hb2 := hd.below w.heap.size
    have hb2H := Lib.hid hb2
    have h1K := Lib.hid (h1H.out.below hb2)
    have h2K := Lib.hid (h2H.out.below hb2)
    clear hd hb2 h1H h2H v1H
    go_wp2_with fail
    go_loopw [6, 7] (fun out i wr => rptRel s t w2 out i wr) (fun out i _ => t.length - (intOf i).toNat)
    case atStart => exact ⟨0, rfl, Nat.zero_le _, .nil _ _ _ _ _, .refl _ _⟩
    case round =>
      obtain ⟨k, rfl, hk, ho, hB⟩ := hrel
      by_cases hlt : k < t.length
      · obtain ⟨-, -, r, hr⟩ := (way_place hxH.out).2 k hlt
        have cp := rPart_any a1 a2 c1 c2 s t k r wr (h1K.out.below hB) (h2K.out.below hB) (okT_parts hxH.out).1 hr hl60
        have hsuc := partsK_succ hxH.out hlt
        have hkl := partsK_len (s := s) (t := t) k
        have cw : ∀ (W5 : World), Below wr.heap.size wr W5 → ∀ (a5 : Option Addr) (c5 : Nat) (pa : List Int), Ints (fun b => wr.heap.size ≤ b) W5 a5 c5 pa → ∃ a6 c6, u6 = .slice a6 (partsK s t k).length c6 ∧
            Calls Try.prog 22 #[.slice a6 (partsK s t k).length c6, .slice a5 pa.length c5] W5 (retTerms (fun _ => True) W5 (withL pa (partsK s t k))) := by
          intro W5 hb5 a5 c5 pa hI
          obtain ⟨a6, c6, he, hT⟩ := OwnL.sl (ho.call hb5)
          exact ⟨a6, c6, he, With_any a6 a5 c6 c5 _ pa W5 hT hI (by omega)⟩
        have cpH := Lib.hid cp
        have cwH := Lib.hid cw
        have hsucH := Lib.hid hsuc
        have hBH := Lib.hid hB
        clear cp cw hsuc ho hB hr hkl
        go_wp2_with fail
        (with_reducible refine cpH.out.mono ?_)
        rintro e w4 ⟨vp, rfl, hop, hb4⟩
        obtain ⟨a5, c5, rfl, hI5⟩ := OwnI.ints hop
        obtain ⟨a6, c6, rfl, cw⟩ := cwH.out w4 hb4 a5 c5 _ hI5
        have cwK := Lib.hid cw
        have hb4H := Lib.hid hb4
        clear hop hI5 cw cpH cwH hb4
        go_wp2_with fail
        (with_reducible refine cwK.out.mono ?_)
        rintro e w5 ⟨v', rfl, ho', hb5⟩
        have ho'H := Lib.hid ho'
        have hb5H := Lib.hid hb5
        clear ho' hb5 cwK
        go_wp2_with fail
        go_roundw
        case rel => exact ⟨k + 1, by go_num, by omega, by rw [hsucH.out]; exact OwnTs.baseMono' ho'H.out (Nat.le_trans hBH.out.size hb4H.out.size), hBH.out.trans ((hb4H.out.trans (hb5H.out.mono hb4H.out.size)).mono hBH.out.size)⟩
        case measure => simp [intOf]; omega
      · obtain rfl : k = t.length := by omega
        rw [partsK_all hxH.out] at ho
        have hoH := Lib.hid ho
        have hBH := Lib.hid hB
        clear ho hB
        go_wp2_with fail
        go_ret2
        exact ⟨_, rfl, OwnTs.baseMono' hoH.out hb2H.out.size, bcall hb2H.out hBH.out⟩
end Go.Proofs.Ytjiffkpgadjodaa
