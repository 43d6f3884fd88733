/- Walks: With, Parts of the reference. -/
import Derived.Test.YtjiffkpgadjodaaWalkL
import Derived.Test.YtjiffkpgadjodaaWalkM
import Derived.Test.YtjiffkpgadjodaaWalkJ
import Derived.Test.YtjiffkpgadjodaaMathParts
namespace Go.Proofs.Ytjiffkpgadjodaa
open Go Go.RowKit Go.Maps

theorem compareT_cases (a b : List Int) : compareT a b = -1 ∨ compareT a b = 0 ∨ compareT a b = 1 := by have := compareT_range a b; omega
def withRel (t : List Int) (l : List (List Int)) (w : World) (out put i : Value) (wr : World) : Prop :=
  ∃ (k : Nat) (X : List (List Int)) (b : Bool), i = .int .i64 k ∧ k ≤ l.length ∧ put = .bool b ∧ OwnTs (fun _ => True) wr w.heap.size out X ∧ Below w.heap.size w wr ∧ X.length ≤ k + 1 ∧
    (b = false → X = l.take k ∧ withL t l = l.take k ++ withL t (l.drop k)) ∧ (b = true → withL t l = X ++ l.drop k)
theorem withL_step {t : List Int} {l : List (List Int)} {k : Nat} (hk : k < l.length) (h : withL t l = l.take k ++ withL t (l.drop k)) :
    (compareT t l[k] = -1 → withL t l = (l.take k ++ [t] ++ [l[k]]) ++ l.drop (k + 1)) ∧ (compareT t l[k] = 0 → withL t l = (l.take k ++ [l[k]]) ++ l.drop (k + 1)) ∧
    (compareT t l[k] = 1 → l.take k ++ [l[k]] = l.take (k + 1) ∧ withL t l = l.take (k + 1) ++ withL t (l.drop (k + 1))) := by
  have hd : l.drop k = l[k] :: l.drop (k + 1) := List.drop_eq_getElem_cons hk
  have ht : l.take (k + 1) = l.take k ++ [l[k]] := List.take_succ_eq_append_getElem hk
  rw [hd, withL] at h
  refine ⟨fun e => ?_, fun e => ?_, fun e => ?_⟩
  · rw [e, if_pos (by omega)] at h; rw [h]; simp
  · rw [e, if_neg (by omega), if_pos rfl] at h; rw [h]; simp
  · rw [e, if_neg (by omega), if_neg (by omega)] at h
    exact ⟨ht.symm, by rw [h, ht, List.append_assoc]; rfl⟩

set_option maxRecDepth 20000 in
set_option maxHeartbeats 8000000 in
theorem With_any {S1 S2 : Nat → Prop} (a1 a2 : Option Addr) (c1 c2 : Nat) (l : List (List Int)) (t : List Int) (w : World) (h1 : Terms S1 w a1 c1 l) (h2 : Ints S2 w a2 c2 t) (hl : l.length ≤ 1000) :
    Calls Try.prog 22 #[.slice a1 l.length c1, .slice a2 t.length c2] w (retTerms (fun _ => True) w (withL t l)) := by
  have m1 := h1.le
  have m2 := h2.le
  have h1H := Lib.hid h1.lt
  have h2H := Lib.hid h2.lt
  clear h1 h2
  go_enter Try.func22, Try.ntmps22
  go_wp2_with fail
  go_loopw [5, 6, 7] (fun out put i wr => withRel t l w out put i wr) (fun _ _ i _ => l.length - (intOf i).toNat)
  case atStart => exact ⟨0, [], false, rfl, Nat.zero_le _, rfl, .nil _ _ _ _ _, .refl _ _, by simp, fun _ => by simp, fun h => by cases h⟩
  case round =>
    obtain ⟨k, X, b, rfl, hk, rfl, ho, hB, hX, hf, ht⟩ := hrel
    have hoff : ∀ (out : Value) (X : List (List Int)) (W : World), OwnTs (fun _ => True) W w.heap.size out X → ∀ b, b < w.heap.size → Off (fun _ => True) out b := fun out X W ho b hb => ⟨trivial, fun e => by have := (ho.lt b e.symm).1; omega⟩
    have hpush : ∀ (out : Value) (X : List (List Int)) (W : World), OwnTs (fun _ => True) W w.heap.size out X → Below w.heap.size w W → X.length ≤ 2000 → ∀ {S : Nat → Prop} {a : Option Addr} {c : Nat} {u : List Int}, Ints (fun b => S b ∧ b < w.heap.size) w a c u →
        ∃ v' w', RowKit.Hid ((Builtin.append_ #[28, 28] 28 #[out, .slice (some ⟨W.heap.size, 0, none⟩) 1 1]).run Try.prog (W.alloc (.cells #[.slice a u.length c] 25)) = .ok v' w') ∧ RowKit.Hid (OwnTs (fun _ => True) w' w.heap.size v' (X ++ [u])) ∧ RowKit.Hid (Below w.heap.size w w') := fun out X W ho hB hX S a c u hu =>
      Ts_push ho hB (.refl _ _) ((hu.below hB).weak (fun b hb => hoff out X W ho b hb.2)) (by omega)
    have hpushH := Lib.hid @hpush
    clear hoff hpush
    by_cases hlt : k < l.length
    · obtain ⟨bl, ol, a3, c3, rfl, -, q3, hI3⟩ := h1H.out.sub k hlt
      have q3' := cell_later hB q3
      have hst : b = false → _ := fun e => withL_step (t := t) hlt (hf e).2
      have hX0 : b = false → X = l.take k := fun e => (hf e).1
      have hd : l.drop k = l[k] :: l.drop (k + 1) := List.drop_eq_getElem_cons hlt
      rw [hd] at ht
      have cc := fun W (hb : Below w.heap.size w W) => rCompare_any a2 a3 c2 c3 t l[k] W (h2H.out.below hb) (hI3.below hb)
      obtain ⟨x, hx⟩ : ∃ x, l[k] = x := ⟨_, rfl⟩
      rw [hx] at cc hst q3' q3 hI3 ht
      have ccH := Lib.hid cc
      have hstH := Lib.hid hst
      have hX0H := Lib.hid hX0
      have htH := Lib.hid ht
      have hoH := Lib.hid ho
      have hBH := Lib.hid hB
      have hI3H := Lib.hid hI3
      have hxH := Lib.hid hx
      have q3H := Lib.hid q3
      clear cc hst hX0 ht ho hB hI3 hf hd q3 hx
      cases b with
      | true =>
        obtain ⟨v', w', r1, o1, b1⟩ := hpushH.out u5 X wr hoH.out hBH.out (by omega) hI3H.out
        clear hpushH
        go_wp2_with (at_builtin; refine wpList_append_run rfl _ _ _ rfl rfl rfl r1.out ?_)
        go_roundw
        case rel => exact ⟨k + 1, _, true, by go_num, by omega, rfl, o1.out, b1.out, by simp; omega, (fun e => by cases e), fun _ => by rw [htH.out rfl]; simp⟩
        case measure => simp [intOf]; omega
      | false =>
        have hX0 := hX0H.out rfl
        have hst := hstH.out rfl
        have hce := ccH.out
        have hXk : X.length ≤ k := by rw [hX0, List.length_take]; omega
        clear ccH
        rcases compareT_cases t x with e | e | e
        · rw [e] at hce
          have hgoal := Lib.hid (hst.1 e)
          have hX0K := Lib.hid hX0
          have hceH := Lib.hid hce
          clear hce hst e hX0
          go_wp2_with fail
          (with_reducible refine (hceH.out _ hBH.out).mono ?_)
          rintro e w4 ⟨rfl, hd4⟩
          have hd4' := hd4.below wr.heap.size
          clear hd4
          have hB4 := Lib.hid (bcall hBH.out hd4')
          have q4 := cell_later hd4' q3'
          go_wp2_with fail
          (with_reducible refine (hceH.out _ hB4.out).mono ?_)
          rintro e w5 ⟨rfl, hd5⟩
          have hd5' := hd5.below w4.heap.size
          clear hd5
          have hB5 := Lib.hid (bcall hB4.out hd5')
          have q5 := cell_later hd5' q4
          have ho5 : OwnTs (fun _ => True) w5 w.heap.size u5 X := (OwnL.call hoH.out hd4').call hd5'
          obtain ⟨v1, W1, r1, o1, b1⟩ := hpushH.out u5 X _ ho5 hB5.out (by omega) h2H.out
          obtain ⟨v2, W2, r2, o2, b2⟩ := hpushH.out v1 (X ++ [t]) W1 o1.out b1.out (by simp; omega) hI3H.out
          have q6H := Lib.hid (show W1.cell? ⟨bl, ol + k, none⟩ = some (.slice a3 x.length c3) from cell_later b1.out q3H.out)
          have q6 := q6H.out
          clear hpushH ho5 q4 q3' hd4' hd5'
          go_wp2_with (first | (at_builtin; refine wpList_append_run rfl _ _ _ rfl rfl rfl r1.out ?_; clear r1) | (at_builtin; refine wpList_append_run rfl _ _ _ rfl rfl rfl r2.out ?_))
          go_roundw
          case rel => exact ⟨k + 1, _, true, by go_num, by omega, rfl, o2.out, b2.out, by simp; omega, (fun e => by cases e), fun _ => by rw [hgoal.out, hX0K.out]⟩
          case measure => simp [intOf]; omega
        · rw [e] at hce
          have hgoal := Lib.hid (hst.2.1 e)
          have hX0K := Lib.hid hX0
          have hceH := Lib.hid hce
          clear hce hst e hX0
          go_wp2_with fail
          (with_reducible refine (hceH.out _ hBH.out).mono ?_)
          rintro e w4 ⟨rfl, hd4⟩
          have hd4' := hd4.below wr.heap.size
          clear hd4
          have hB4 := Lib.hid (bcall hBH.out hd4')
          have q4 := cell_later hd4' q3'
          go_wp2_with fail
          (with_reducible refine (hceH.out _ hB4.out).mono ?_)
          rintro e w5 ⟨rfl, hd5⟩
          have hd5' := hd5.below w4.heap.size
          clear hd5
          have hB5 := Lib.hid (bcall hB4.out hd5')
          have q5 := cell_later hd5' q4
          have ho5 : OwnTs (fun _ => True) w5 w.heap.size u5 X := (OwnL.call hoH.out hd4').call hd5'
          obtain ⟨v1, W1, r1, o1, b1⟩ := hpushH.out u5 X _ ho5 hB5.out (by omega) hI3H.out
          clear hpushH ho5 q4 q3' hd4' hd5'
          go_wp2_with (at_builtin; refine wpList_append_run rfl _ _ _ rfl rfl rfl r1.out ?_)
          go_roundw
          case rel => exact ⟨k + 1, _, true, by go_num, by omega, rfl, o1.out, b1.out, by simp; omega, (fun e => by cases e), fun _ => by rw [hgoal.out, hX0K.out]⟩
          case measure => simp [intOf]; omega
        · rw [e] at hce
          have hgoal := Lib.hid (hst.2.2 e)
          have hX0K := Lib.hid hX0
          have hceH := Lib.hid hce
          clear hce hst e hX0
          go_wp2_with fail
          (with_reducible refine (hceH.out _ hBH.out).mono ?_)
          rintro e w4 ⟨rfl, hd4⟩
          have hd4' := hd4.below wr.heap.size
          clear hd4
          have hB4 := Lib.hid (bcall hBH.out hd4')
          have q4 := cell_later hd4' q3'
          have ho4 : OwnTs (fun _ => True) w4 w.heap.size u5 X := OwnL.call hoH.out hd4'
          obtain ⟨v1, W1, r1, o1, b1⟩ := hpushH.out u5 X _ ho4 hB4.out (by omega) hI3H.out
          clear hpushH ho4 q3' hd4'
          go_wp2_with (at_builtin; refine wpList_append_run rfl _ _ _ rfl rfl rfl r1.out ?_)
          go_roundw
          case rel => exact ⟨k + 1, _, false, by go_num, by omega, rfl, o1.out, b1.out, by simp; omega, (fun _ => by rw [hX0K.out]; exact hgoal.out), fun e => by cases e⟩
          case measure => simp [intOf]; omega
    · obtain rfl : k = l.length := by omega
      have hnil : l.drop l.length = [] := List.drop_eq_nil_of_le (Nat.le_refl _)
      rw [hnil] at hf ht
      cases b with
      | true =>
        have hfin := ht rfl
        rw [List.append_nil] at hfin
        have hfinH := Lib.hid hfin
        clear hf ht hfin hnil hpushH
        go_wp2_with fail
        go_ret
        exact ⟨_, rfl, by rw [hfinH.out]; exact ho, hB⟩
      | false =>
        obtain ⟨e1, e2⟩ := hf rfl
        obtain ⟨v', w', r1, o1, b1⟩ := hpushH.out u5 X wr ho hB (by omega) h2H.out
        have hfinH : RowKit.Hid (withL t l = X ++ [t]) := Lib.hid (by rw [e2, e1]; rfl)
        clear hf ht hnil hpushH ho hB e1 e2
        go_wp2_with (at_builtin; refine wpList_append_run rfl _ _ _ rfl rfl rfl r1.out ?_)
        go_ret
        exact ⟨_, rfl, by rw [hfinH.out]; exact o1.out, b1.out⟩
end Go.Proofs.Ytjiffkpgadjodaa
