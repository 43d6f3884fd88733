/- Walks: CompactFunc of the library at lists of terms, with the closure that compares. -/
import Derived.Test.YtjiffkpgadjodaaWith
import Derived.Test.YtjiffkpgadjodaaRange
import Derived.Lib.SliceRun
namespace Go.Proofs.Ytjiffkpgadjodaa
open Go Go.RowKit Go.Maps

theorem compactL_snoc : ∀ (l : List (List Int)) (x y : List Int), compactL (l ++ [y] ++ [x]) = if y = x then compactL (l ++ [y]) else compactL (l ++ [y]) ++ [x]
  | [], x, y => by
    simp only [List.nil_append, List.cons_append, compactL]
    by_cases h : y = x
    · simp [h]
    · simp [h]
  | [a], x, y => by
    have ih := compactL_snoc [] x y
    simp only [List.nil_append] at ih
    simp only [List.cons_append, List.nil_append, compactL] at ih ⊢
    by_cases h : a = y
    · simp only [if_pos h] at ih ⊢; exact ih
    · simp only [if_neg h]
      by_cases h2 : y = x
      · simp [h2]
      · simp [h2]
  | a :: b :: r, x, y => by
    have ih := compactL_snoc (b :: r) x y
    simp only [List.cons_append] at ih ⊢
    rw [compactL, compactL]
    by_cases h : a = b
    · rw [if_pos h, if_pos h]; exact ih
    · rw [if_neg h, if_neg h, ih]
      by_cases h2 : y = x
      · rw [if_pos h2, if_pos h2]
      · rw [if_neg h2, if_neg h2]; rfl
theorem compactL_take {l : List (List Int)} {m : Nat} (h : m + 1 < l.length) : compactL (l.take (m + 2)) = if l[m] = l[m + 1] then compactL (l.take (m + 1)) else compactL (l.take (m + 1)) ++ [l[m + 1]] := by
  have h1 : l.take (m + 1) = l.take m ++ [l[m]] := List.take_succ_eq_append_getElem (by omega)
  have h2 : l.take (m + 2) = l.take (m + 1) ++ [l[m + 1]] := List.take_succ_eq_append_getElem h
  rw [h2, h1]; exact compactL_snoc _ _ _

set_option maxHeartbeats 1000000 in
theorem partsEq_any {S1 S2 : Nat → Prop} (a1 a2 : Option Addr) (c1 c2 : Nat) (l1 l2 : List Int) (w : World) (h1 : Ints S1 w a1 c1 l1) (h2 : Ints S2 w a2 c2 l2) :
    Calls Try.prog 19 #[.slice a1 l1.length c1, .slice a2 l2.length c2] w fun e w' => e = .returned (.bool (decide (l1 = l2))) ∧ Drew w w' := by
  have ce := Equal_any a1 a2 c1 c2 l1 l2 w h1 h2
  obtain ⟨x, hx⟩ : ∃ x, decide (l1 = l2) = x := ⟨_, rfl⟩
  rw [hx] at ce ⊢
  have ceH := Lib.hid ce
  clear ce h1 h2 hx
  go_enter Try.func19, Try.ntmps19
  go_wp2_with fail
  (with_reducible refine ceH.out.mono ?_)
  rintro e w1 ⟨rfl, hd⟩
  go_wp2_with fail
  go_ret
  exact ⟨rfl, hd⟩

section
variable {S : Nat → Prop} {w : World} {base g n cap : Nat} {l : List (List Int)}
theorem OwnTs.take (h : OwnTs S w base (.slice (some ⟨g, 0, none⟩) n cap) l) (hn : n = l.length) {k : Nat} (hk : k ≤ n) : OwnTs S w base (.slice (some ⟨g, 0, none⟩) k cap) (l.take k) := by
  subst hn
  obtain ⟨xs, ho, hl, hx⟩ := h
  have h1 := OwnTs.ones hl hx
  have hlk : (l.take k).length = k := by simp; omega
  have hfl : (xs.take k).flatten = xs.flatten.take k := by
    clear ho hx hl hk hlk
    induction xs generalizing k with
    | nil => simp
    | cons x r ih =>
      obtain ⟨y, rfl⟩ := List.length_eq_one_iff.1 (h1 x (by simp))
      cases k with
      | zero => rfl
      | succ k => simp only [List.take_succ_cons, List.flatten_cons, List.cons_append, List.nil_append]; rw [ih (fun z hz => h1 z (by simp [hz]))]
  refine ⟨xs.take k, ?_, by simp [hl], fun i g1 g2 => ?_⟩
  · rw [hlk, hfl]
    obtain ⟨e1, e2⟩ := ho
    simp only [slE, Nat.mul_one] at e1 e2 ⊢
    refine ⟨by simp [e1]; omega, ?_⟩
    rcases e2 with ⟨e2, -⟩ | ⟨g', cap', cur, e3, e4, e5, e6, e7, e8, e9⟩
    · cases e2
    · cases e3
      refine .inr ⟨g, cap, cur, rfl, e4, e5, by omega, e7, by rw [Nat.mul_one]; exact e8, ?_⟩
      rw [← e9, List.take_take, Nat.mul_one, Nat.min_eq_left hk]
  · simp only [List.getElem_take]
    exact hx i (by simp at g1; omega) (by simp at g2; omega)
/-- the last places are wiped -/
theorem OwnTs.wipe (h : OwnTs S w base (.slice (some ⟨g, 0, none⟩) n cap) l) (hn : n = l.length) : ∀ (m k : Nat), k + m ≤ n →
    ∃ l', OwnTs S (w.setCells g k (List.replicate m (.slice none 0 0))) base (.slice (some ⟨g, 0, none⟩) n cap) l' ∧ l'.length = l.length ∧ l'.take k = l.take k ∧ w.grownBy (w.setCells g k (List.replicate m (.slice none 0 0))) (some g) := by
  intro m
  induction m generalizing w l with
  | zero => intro k _; exact ⟨l, h, rfl, rfl, ⟨rfl, rfl, rfl, Nat.le_refl _, fun _ _ _ => rfl⟩⟩
  | succ m ih =>
    intro k hk
    rw [List.replicate_succ, World.setCells]
    have hs := OwnTs.set h hn k (a := none) (c := 0) (u := []) .empty
    obtain ⟨l', i1, i2, i3, i4⟩ := ih hs.1 (by simpa using hn) (k + 1) (by omega)
    refine ⟨l', i1, by simpa using i2, ?_, ⟨i4.os.trans hs.2.os, i4.tape.trans hs.2.tape, i4.output.trans hs.2.output, Nat.le_trans hs.2.size i4.size, fun b hb hne => (i4.block b (Nat.lt_of_lt_of_le hb hs.2.size) hne).trans (hs.2.block b hb hne)⟩⟩
    have := congrArg (List.take k) i3
    rw [List.take_take, List.take_take, Nat.min_eq_left (by omega)] at this
    rw [this, List.take_set, List.set_eq_of_length_le (by simp; omega)]
end

theorem grown_below {w w1 w2 : World} {o : Option Nat} (h : w.grownBy w1 o) (b : Below w1.heap.size w1 w2) : w.grownBy w2 o :=
  ⟨b.os.trans h.os, b.tape.trans h.tape, b.output.trans h.output, Nat.le_trans h.size b.size, fun x hx hne => (b.block x (Nat.lt_of_lt_of_le hx h.size)).trans (h.block x hx hne)⟩
theorem grown_by {w w1 w2 : World} {o : Option Nat} (h : w.grownBy w1 o) (b : w1.grownBy w2 o) : w.grownBy w2 o :=
  ⟨b.os.trans h.os, b.tape.trans h.tape, b.output.trans h.output, Nat.le_trans h.size b.size, fun x hx hne => (b.block x (Nat.lt_of_lt_of_le hx h.size) hne).trans (h.block x hx hne)⟩

def cmpRel1 (l : List (List Int)) (w : World) (i : Value) (wr : World) : Prop := ∃ k : Nat, i = .int .i64 (k + 1 : Nat) ∧ k + 1 ≤ l.length ∧ compactL (l.take (k + 1)) = l.take (k + 1) ∧ Drew w wr
def cmpRel2 (S : Nat → Prop) (l : List (List Int)) (k0 base g cap : Nat) (w : World) (i i2 : Value) (wr : World) : Prop :=
  ∃ (kk k2 : Nat) (L : List (List Int)), i = .int .i64 kk ∧ i2 = .int .i64 (k2 + 1 : Nat) ∧ k0 + k2 + 1 ≤ l.length ∧ L.length = l.length ∧ kk ≤ k0 + k2 ∧ OwnTs S wr base (.slice (some ⟨g, 0, none⟩) l.length cap) L ∧
    (compactL (l.take (k0 + k2 + 1))).length = kk ∧ L.take kk = compactL (l.take (k0 + k2 + 1)) ∧ (∀ j, k0 + k2 ≤ j → L[j]? = l[j]?) ∧ w.grownBy wr (some g)

set_option maxRecDepth 20000 in
set_option maxHeartbeats 8000000 in
theorem Compact_any {S : Nat → Prop} {w : World} {base g cap : Nat} {l : List (List Int)} (ho : OwnTs S w base (.slice (some ⟨g, 0, none⟩) l.length cap) l) (h0 : 1 ≤ l.length) (hl : l.length ≤ 1000) :
    Calls Try.prog 18 #[.slice (some ⟨g, 0, none⟩) l.length cap, .func (.func 19) #[] #[]] w fun e w' =>
      ∃ m, e = .returned (.slice (some ⟨g, 0, none⟩) m cap) ∧ m = (compactL l).length ∧ OwnTs S w' base (.slice (some ⟨g, 0, none⟩) m cap) (compactL l) ∧ w.grownBy w' (some g) := by
  have hcap : l.length ≤ cap ∧ cap ≤ 9223372036854775807 := by
    obtain ⟨a, c, he, hs⟩ := OwnL.sl ho
    cases he
    have := hs.max
    unfold big at this
    exact ⟨hs.cap, this⟩
  obtain ⟨hcap1, hcap2⟩ := hcap
  have hoH := Lib.hid ho
  clear ho
  by_cases h2 : l.length < 2
  · have h1 : l.length = 1 := by omega
    have hc : compactL l = l := by
      match l, h1 with
      | [x], _ => rfl
    have hcH := Lib.hid hc
    clear hc
    go_enter Try.func18, Try.ntmps18
    go_wp2_with fail
    go_ret
    exact ⟨l.length, rfl, by rw [hcH.out], by rw [hcH.out]; exact hoH.out, rfl, rfl, rfl, Nat.le_refl _, fun _ _ _ => rfl⟩
  · go_enter Try.func18, Try.ntmps18
    go_wp2_with fail
    go_loopw [5] (fun i wr => cmpRel1 l w i wr) (fun i _ => l.length - (intOf i).toNat)
    case atStart => exact ⟨0, rfl, by omega, by
      match l, h0 with
      | x :: r, _ => rfl, .refl _⟩
    case round =>
      obtain ⟨k, rfl, hk, hcm, hd⟩ := hrel
      have hcmH := Lib.hid hcm
      clear hcm
      by_cases hlt : k + 1 < l.length
      · have hor := OwnL.call hoH.out (hd.below _)
        obtain ⟨a1, c1, q1, i1, -⟩ := OwnTs.cell hor rfl k (by omega)
        obtain ⟨a2, c2, q2, i2, -⟩ := OwnTs.cell hor rfl (k + 1) hlt
        have ce := fun n => partsEq_any a2 a1 c2 c1 l[k + 1] l[k] (wr.drewN n) (i2.drewN n) (i1.drewN n)
        have hct := compactL_take hlt
        have hdH := Lib.hid hd
        have e1 : IntKind.i64.wrap (((k + 1 : Nat) : Int) - 1) = (k : Int) := by rw [show (((k + 1 : Nat) : Int) - 1) = (k : Int) by omega]; exact IntWalk.i64_in _ (by omega)
        have e2 : (0 : Int) ≤ ((k : Nat) : Int) := by omega
        by_cases hE : l[k + 1] = l[k]
        · rw [decide_eq_true hE] at ce
          rw [if_pos hE.symm] at hct
          have ceH := Lib.hid ce
          have hctH := Lib.hid hct
          clear ce hct hE i1 i2 hor hd
          go_wp2_with fail
          go_quiet ((go_at_call 19; exact quiet_drew (ceH.out _)))
          clear e1 e2 ceH q1 q2
          all_goals go_wp2_with fail
          go_loopw [5, 7] (fun i i2 wr2 => cmpRel2 S l (k + 1) base g cap w i i2 wr2) (fun i i2 wr2 => l.length - (intOf i2).toNat)
          case atStart =>
            have hB := (drew_more hdH.out nq).below w.heap.size
            exact ⟨k + 1, 0, l, rfl, rfl, by omega, rfl, by omega, OwnL.call hoH.out hB, by rw [Nat.add_zero, hctH.out, hcmH.out, List.length_take]; omega, by rw [Nat.add_zero, hctH.out, hcmH.out], fun _ _ => rfl, hB.os, hB.tape, hB.output, hB.size, fun b hb _ => hB.block b hb⟩
          case round =>
            obtain ⟨kk, k2, L, rfl, rfl, hk2, hL, hkk, hoL, hcl, hct2, hsame, hgr⟩ := hrel
            clear hcmH hctH hdH
            by_cases hlt2 : k + 1 + k2 + 1 < l.length
            · have hlt2' : k2 + 1 < l.length - (k + 1) := by omega
              obtain ⟨a3, c3, q3, i3, -⟩ := OwnTs.cell hoL hL.symm (k + 1 + k2) (by omega)
              obtain ⟨a4, c4, q4, i4, -⟩ := OwnTs.cell hoL hL.symm (k + 1 + (k2 + 1)) (by omega)
              have s3 : L[k + 1 + k2] = l[k + 1 + k2] := by
                have := hsame (k + 1 + k2) (Nat.le_refl _)
                rw [List.getElem?_eq_getElem (by omega), List.getElem?_eq_getElem (by omega)] at this
                exact Option.some.inj this
              have s4 : L[k + 1 + (k2 + 1)] = l[k + 1 + k2 + 1] := by
                have := hsame (k + 1 + (k2 + 1)) (by omega)
                rw [List.getElem?_eq_getElem (by omega), List.getElem?_eq_getElem (show k + 1 + (k2 + 1) < l.length by omega)] at this
                exact Option.some.inj this
              rw [s3] at q3 i3
              rw [s4] at q4 i4
              have ce := fun n => partsEq_any a4 a3 c4 c3 l[k + 1 + k2 + 1] l[k + 1 + k2] (wr.drewN n) (i4.drewN n) (i3.drewN n)
              have hct := compactL_take hlt2
              have e1 : IntKind.i64.wrap (((k2 + 1 : Nat) : Int) - 1) = (k2 : Int) := by rw [show (((k2 + 1 : Nat) : Int) - 1) = (k2 : Int) by omega]; exact IntWalk.i64_in _ (by omega)
              have e2 : (0 : Int) ≤ ((k2 : Nat) : Int) := by omega
              by_cases hE : l[k + 1 + k2 + 1] = l[k + 1 + k2]
              · rw [decide_eq_true hE] at ce
                rw [if_pos hE.symm] at hct
                have ceH := Lib.hid ce
                have hctH := Lib.hid hct
                have hoLH := Lib.hid hoL
                have hclH := Lib.hid hcl
                have hct2H := Lib.hid hct2
                have hsameH := Lib.hid hsame
                have hgrH := Lib.hid hgr
                clear ce hct hE i3 i4 s3 s4 hoL hcl hct2 hsame hgr
                go_wp2_with fail
                go_quiet ((go_at_call 19; exact quiet_drew (ceH.out _)))
                clear e1 e2 ceH q3 q4
                all_goals go_wp2_with fail
                all_goals go_roundw
                case rel =>
                  have hB := (Drew.mk wr nq).below wr.heap.size
                  exact ⟨kk, k2 + 1, L, by go_num, by go_num, by omega, hL, by omega, OwnL.call hoLH.out hB, by rw [← hclH.out]; exact congrArg List.length hctH.out, hct2H.out.trans hctH.out.symm, fun j hj => hsameH.out j (by omega), grown_below hgrH.out hB⟩
                case measure => simp [intOf]; omega
              · rw [decide_eq_false hE] at ce
                rw [if_neg (fun e => hE e.symm)] at hct
                have ceH := Lib.hid ce
                have hctH := Lib.hid hct
                have hoLH := Lib.hid hoL
                have hclH := Lib.hid hcl
                have hct2H := Lib.hid hct2
                have hsameH := Lib.hid hsame
                have hgrH := Lib.hid hgr
                obtain ⟨a5, c5, q5, -, hf5⟩ := OwnTs.cell hoL hL.symm kk (by clear e1 e2 hcl hct2 ; omega)
                have hst := Lib.hid (fun nq0 : Nat => OwnTs.set (OwnL.call hoL ((Drew.mk wr nq0).below _)) hL.symm kk (i4.drewN nq0))
                clear ce hct hE i3 i4 s3 s4 hoL hcl hct2 hsame hgr
                go_wp2_with fail
                go_quiet ((go_at_call 19; exact quiet_drew (ceH.out _)))
                clear e1 e2 ceH q3
                all_goals go_wp2_with fail
                all_goals go_roundw
                case rel =>
                  have hs := hst.out nq
                  exact ⟨kk + 1, k2 + 1, L.set kk l[k + 1 + k2 + 1], by go_num, by go_num, by omega, by rw [List.length_set]; exact hL, by omega, hs.1, by rw [show k + 1 + (k2 + 1) + 1 = k + 1 + k2 + 2 by omega, hctH.out, List.length_append, hclH.out]; rfl, by
                      rw [show k + 1 + (k2 + 1) + 1 = k + 1 + k2 + 2 by omega, hctH.out, ← hct2H.out, List.take_succ_eq_append_getElem (by rw [List.length_set]; omega), List.getElem_set_self, List.take_set_of_le (Nat.le_refl _)], fun j hj => by
                      rw [List.getElem?_set_ne (by omega)]; exact hsameH.out j (by omega), grown_by (grown_below hgrH.out ((Drew.mk wr nq).below _)) hs.2⟩
                case measure => simp [intOf]; omega
            · have hn : k + 1 + k2 + 1 = l.length := by omega
              have hkl : kk < l.length := by omega
              have hkt : kk ≤ l.length := by omega
              have hdn : 0 < l.length - kk := by omega
              rw [hn, List.take_of_length_le (Nat.le_refl _)] at hcl hct2
              obtain ⟨l', w1, w2, w3, w4⟩ := OwnTs.wipe hoL hL.symm (l.length - kk) kk (by omega)
              rw [hct2] at w3
              have w5 := OwnTs.take w1 (by rw [w2]; exact hL.symm) hkt
              rw [w3] at w5
              have hclr := fun ty => Lib.run_clear_slice (P := Try.prog) wr 28 25 ty (.slice none 0 0) rfl (fun _ => rfl) rfl rfl g kk (l.length - kk) (cap - kk) hdn
                (fun j hj => by obtain ⟨_, _, q, -, -⟩ := OwnTs.cell hoL hL.symm (kk + j) (by omega); rw [q]; rfl)
                (fun j hj => by obtain ⟨_, _, -, -, q⟩ := OwnTs.cell hoL hL.symm (kk + j) (by omega); exact q)
              have w5H := Lib.hid w5
              have hclH := Lib.hid hcl
              have hgrH := Lib.hid (grown_by hgr w4)
              have hclrH := Lib.hid hclr
              clear w5 w4 w3 w2 w1 hclr hcl hct2 hsame hgr hoL
              go_wp2_with fail
              rw [hclrH.out 0]
              clear hclrH
              go_wp2_with fail
              go_ret
              exact ⟨kk, rfl, hclH.out.symm, w5H.out, hgrH.out⟩
        · rw [decide_eq_false hE] at ce
          rw [if_neg (fun e => hE e.symm)] at hct
          have ceH := Lib.hid ce
          have hctH := Lib.hid hct
          clear ce hct hE i1 i2 hor hd
          go_wp2_with fail
          go_quiet ((go_at_call 19; exact quiet_drew (ceH.out _)))
          clear e1 e2 ceH q1 q2
          all_goals go_wp2_with fail
          all_goals go_roundw
          case rel => exact ⟨k + 1, by go_num, by omega, by rw [hctH.out, hcmH.out]; exact (List.take_succ_eq_append_getElem hlt).symm, drew_more hdH.out _⟩
          case measure => simp [intOf]; omega
      · obtain hkl : k + 1 = l.length := by omega
        have hcm := hcmH.out
        rw [hkl, List.take_of_length_le (Nat.le_refl _)] at hcm
        have hcmH := Lib.hid hcm
        have hklH := Lib.hid hkl
        clear hcm hkl
        go_wp2_with fail
        go_ret
        have hB := hd.below w.heap.size
        exact ⟨l.length, rfl, by rw [hcmH.out], by rw [hcmH.out]; exact OwnL.call hoH.out hB, hB.os, hB.tape, hB.output, hB.size, fun b hb _ => hB.block b hb⟩
end Go.Proofs.Ytjiffkpgadjodaa
