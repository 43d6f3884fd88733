/- The law TermValid, walked. -/
import Derived.Test.YtgpfdflpkaeedaaWalkX
namespace Go.Proofs.Ytgpfdflpkaeedaa
open Go Go.RowKit Go.Maps

def negs (t : List Int) : Nat := t.countP (fun x => decide (x < 0))
theorem sum_set : ∀ (l : List Int) (i : Nat) (x : Int) (h : i < l.length), (l.set i x).sum = l.sum + x - l[i]
  | [], i, _, h => by simp at h
  | a :: r, 0, x, h => by simp; omega
  | a :: r, i + 1, x, h => by
    have := sum_set r i x (by simpa using h)
    simp only [List.set_cons_succ, List.sum_cons, List.getElem_cons_succ, this]; omega
theorem cnt_sum {n : Nat} {t : List Int} (h : ∀ x ∈ t, x < 0 ∨ (0 ≤ x ∧ x < n)) : ∀ k, k ≤ t.length → (cntL n (t.take k)).sum + (negs (t.take k) : Int) = k
  | 0, _ => by
    rw [List.take_zero, cntL_nil]
    have : (List.replicate n (0 : Int)).sum = 0 := by
      induction n with
      | zero => rfl
      | succ n ih => rw [List.replicate_succ, List.sum_cons]; simp
    rw [this]; rfl
  | k + 1, hk => by
    have ih := cnt_sum h k (by omega)
    have hlt : k < t.length := by omega
    have hng : negs (t.take (k + 1)) = negs (t.take k) + (if t[k] < 0 then 1 else 0) := by
      unfold negs
      rw [List.take_succ_eq_append_getElem hlt, List.countP_append]
      congr 1
      rw [List.countP_cons, List.countP_nil]; simp
    rcases h t[k] (List.getElem_mem hlt) with hx | hx
    · rw [cntL_neg hlt hx, hng, if_pos hx]; omega
    · obtain ⟨m, hm⟩ := Int.eq_ofNat_of_zero_le hx.1
      have hmn : m < n := by omega
      rw [← cntL_pos hlt hm hmn, sum_set _ _ _ (by rw [cntL_length]; exact hmn), cntL_get hmn, hng, if_neg (by omega)]; omega
theorem cntL_nonneg {n : Nat} {t : List Int} : ∀ x ∈ cntL n t, 0 ≤ x ∧ x ≤ t.length := by
  intro x hx
  unfold cntL at hx
  obtain ⟨j, -, rfl⟩ := List.mem_map.1 hx
  have := List.count_le_length (a := (j : Int)) (l := t)
  omega
theorem sum_take_succ {l : List Int} {k : Nat} (h : k < l.length) : (l.take (k + 1)).sum = (l.take k).sum + l[k] := by
  rw [List.take_succ_eq_append_getElem h, List.sum_append]; simp
theorem negs_le (t : List Int) : negs t ≤ t.length := List.countP_le_length
def sumIRel (c : List Int) (w : World) (al i : Value) (wr : World) : Prop := ∃ k : Nat, i = .int .i64 k ∧ k ≤ c.length ∧ al = .int .i64 (c.take k).sum ∧ wr = w
def negRel (t : List Int) (A : Int) (w : World) (al i : Value) (wr : World) : Prop := ∃ k : Nat, i = .int .i64 k ∧ k ≤ t.length ∧ al = .int .i64 (A + (negs (t.take k) : Nat)) ∧ wr = w
set_option maxRecDepth 20000 in
set_option maxHeartbeats 8000000 in
theorem TermValid_walk {S S' : Nat → Prop} (p q : Option Addr) (k c : Nat) (s : Sg) (t : List Int) (w : World) (hs : Sign S' w p k s) (ht : Ints S w q c t) :
    Calls Try.prog 5 #[.slice p s.length k, .slice q t.length c] w fun e w' => e = .returned (.bool true) ∧ Below w.heap.size w w' := by
  have mt := ht.le
  go_enter Try.func5, Try.ntmps5
  go_wp2_with fail
  have hB := below1 w (.cells #[.slice q t.length c] 25)
  have hTs := Sl.new (E := slE intE) (S := S) w [[.slice q t.length c]] [t] 25 rfl (by unfold big; simp) (fun i g1 g2 => by
      match i, g1 with
      | 0, _ => exact ⟨_, _, rfl, ht⟩)
  have hs1 := hs.below hB
  have ht1 := ht.below hB
  refine (Small_any p (some ⟨w.heap.size, 0, none⟩) k 1 s [t] (w.alloc (.cells #[.slice q t.length c] 25)) hs1 hTs).mono ?_
  clear hTs hs ht
  generalize w.alloc (.cells #[.slice q t.length c] 25) = W at *
  generalize smallT s [t] = sm
  rintro e w' ⟨rfl, rfl⟩
  cases sm with
  | false =>
    go_wp2_with fail
    refine (awake_any W).mono ?_
    rintro e w1 ⟨rfl, hb1⟩
    go_wp2_with fail
    go_ret
    exact ⟨rfl, bcall hB hb1⟩
  | true =>
    have k1 := fun W' (hb : Below W.heap.size W W') => ValidSign_any p k s W' (hs1.below hb)
    have k2 := fun W' (hb : Below W.heap.size W W') => rValidSign_any p k s W' (hs1.below hb)
    have k3 := fun W' (hb : Below W.heap.size W W') => Valid_any p q k c s t W' (hs1.below hb) (ht1.below hb)
    have k4 := fun W' (hb : Below W.heap.size W W') => rValid_any p q k c s t W' (hs1.below hb) (ht1.below hb)
    have k5 := fun W' (hb : Below W.heap.size W W') => Depth_any p q k c s t W' (hs1.below hb) (ht1.below hb)
    have k6 := fun W' (hb : Below W.heap.size W W') => rDepth_any p q k c s t W' (hs1.below hb) (ht1.below hb)
    have k7 := fun W' (hb : Below W.heap.size W W') => Vars_any p q k c s t W' (hs1.below hb) (ht1.below hb)
    have k8 := fun W' (hb : Below W.heap.size W W') => rVars_any p q k c s t W' (hs1.below hb) (ht1.below hb)
    have k9 := fun W' (hb : Below W.heap.size W W') => Counts_any p q k c s t W' (hs1.below hb) (ht1.below hb)
    have k0 := fun W' (hb : Below W.heap.size W W') => rCounts_any p q k c s t W' (hs1.below hb) (ht1.below hb)
    simp only [depE_eq] at k5
    obtain ⟨x1, hx1⟩ : ∃ x, okSign s = x := ⟨_, rfl⟩
    obtain ⟨x2, hx2⟩ : ∃ x, okT s t = x := ⟨_, rfl⟩
    obtain ⟨⟨dn, de⟩, hde⟩ : ∃ r, depE s t = r := ⟨_, rfl⟩
    obtain ⟨⟨vl, vn⟩, hve⟩ : ∃ r, varsE s t = r := ⟨_, rfl⟩
    obtain ⟨⟨cl, cn⟩, hce⟩ : ∃ r, cntE s t = r := ⟨_, rfl⟩
    simp only [hx1] at k1 k2
    simp only [hx2] at k3 k4
    simp only [hde] at k5 k6
    simp only [hve] at k7 k8
    simp only [hce] at k9 k0
    have k1H := Lib.hid k1
    have k2H := Lib.hid k2
    have k3H := Lib.hid k3
    have k4H := Lib.hid k4
    have k5H := Lib.hid k5
    have k6H := Lib.hid k6
    have k7H := Lib.hid k7
    have k8H := Lib.hid k8
    have k9H := Lib.hid k9
    have k0H := Lib.hid k0
    have hceH := Lib.hid hce
    have hx2H := Lib.hid hx2
    have ht1H := Lib.hid ht1
    have e1 : (x1 != x1) = false := by simp
    have e2 : (x2 != x2) = false := by simp
    have e3 : (dn != dn) = false := by simp
    have e4 : (de != de) = false := by simp
    have e5 : (vn != vn) = false := by simp
    have e6 : (cn != cn) = false := by simp
    have d1 : decide (vl = vl) = true := by simp
    have d2 : decide (cl = cl) = true := by simp
    clear k1 k2 k3 k4 k5 k6 k7 k8 k9 k0 hce hx1 hx2 hde hve hs1 ht1
    go_wp2_with fail
    refine (k1H.out _ (.refl _ _)).mono ?_
    rintro e w1 ⟨rfl, b1⟩
    go_wp2_with fail
    refine (k2H.out _ b1).mono ?_
    rintro e w2 ⟨rfl, hd2⟩
    have b2 := b1.trans (hd2.below _)
    go_wp2_with fail
    refine (k3H.out _ b2).mono ?_
    rintro e w3 ⟨rfl, b3'⟩
    have b3 := bcall b2 b3'
    go_wp2_with fail
    refine (k4H.out _ b3).mono ?_
    rintro e w4 ⟨rfl, hd4⟩
    have b4 := b3.trans (hd4.below _)
    clear b3' hd2 hd4 k1H k2H k3H k4H
    go_wp2_with fail
    refine (k5H.out _ b4).mono ?_
    rintro e w5 ⟨rfl, b5'⟩
    have b5 := bcall b4 b5'
    go_wp2_with fail
    refine (k6H.out _ b5).mono ?_
    rintro e w6 ⟨rfl, b6'⟩
    have b6 := bcall b5 b6'
    clear b5' b6' k5H k6H
    go_wp2_with fail
    refine (k7H.out _ b6).mono ?_
    rintro e w7 ⟨v7, rfl, o7, b7'⟩
    obtain ⟨a7, c7, rfl, i7⟩ := OwnI.ints o7
    have b7 := bcall b6 b7'
    go_wp2_with fail
    refine (k8H.out _ b7).mono ?_
    rintro e w8 ⟨v8, rfl, o8, b8'⟩
    obtain ⟨a8, c8, rfl, i8⟩ := OwnI.ints o8
    have b8 := bcall b7 b8'
    have i7 := i7.below b8'
    clear o7 o8 b7' b8' k7H k8H
    go_wp2_with fail
    refine (SameInts_any a7 a8 c7 c8 vl vl w8 i7 i8).mono ?_
    rintro e w9 ⟨rfl, hd9⟩
    have b9 := b8.trans (hd9.below _)
    clear i7 i8 hd9
    go_wp2_with fail
    refine (k9H.out _ b9).mono ?_
    rintro e w10 ⟨v10, rfl, o10, b10'⟩
    obtain ⟨a10, c10, rfl, i10⟩ := OwnI.ints o10
    have b10 := bcall b9 b10'
    go_wp2_with fail
    refine (k0H.out _ b10).mono ?_
    rintro e w11 ⟨v11, rfl, o11, b11'⟩
    obtain ⟨a11, c11, rfl, i11⟩ := OwnI.ints o11
    have b11 := bcall b10 b11'
    have i10 := i10.below b11'
    clear o10 o11 b10' b11' k9H k0H
    go_wp2_with fail
    refine (SameInts_any a10 a11 c10 c11 cl cl w11 i10 i11).mono ?_
    rintro e w12 ⟨rfl, n12, rfl⟩
    have b12 := below_drewN b11 n12
    have i10 := i10.drewN n12
    clear i11 b11 b10 b9 b8 b7 b6 b5 b4 b3 b2 b1
    have mc := i10.le
    have ht2 := ht1H.out.below b12
    cases x2 with
    | false =>
      have hce := hceH.out
      rw [cntE, errE_no hx2H.out] at hce
      obtain ⟨rfl, rfl⟩ := Prod.mk.inj hce
      clear hce
      go_wp2_with fail
      refine (awake_any _).mono ?_
      rintro e w13 ⟨rfl, b13⟩
      go_wp2_with fail
      go_ret
      exact ⟨rfl, bcall hB (bcall b12 b13)⟩
    | true =>
      have hce := hceH.out
      rw [cntE, errE_ok hx2H.out] at hce
      obtain ⟨rfl, rfl⟩ := Prod.mk.inj hce
      have hco := okT_codes hx2H.out
      have hl60 := (okT_parts hx2H.out).2.2.1
      have hs12 := (okSign_len (okT_parts hx2H.out).1).2
      have hsum := cnt_sum hco t.length (Nat.le_refl _)
      rw [List.take_of_length_le (Nat.le_refl _)] at hsum
      have hnn := cntL_nonneg (n := s.length) (t := t)
      have hcl := cntL_length s.length t
      obtain ⟨cl, hclE⟩ : ∃ cl, cntL s.length t = cl := ⟨_, rfl⟩
      rw [hclE] at hsum hnn hcl i10 mc
      rw [hclE]
      have hpart : ∀ j, j ≤ cl.length → 0 ≤ (cl.take j).sum ∧ (cl.take j).sum ≤ 60 * j := by
        intro j
        induction j with
        | zero => intro _; simp
        | succ j ih =>
          intro hj
          have h1 := ih (by omega)
          have h2 := hnn cl[j] (List.getElem_mem (by omega))
          rw [sum_take_succ (by omega)]
          omega
      have hpartH := Lib.hid hpart
      have hsumH := Lib.hid hsum
      clear hce hclE hnn hco hpart hsum hceH hx2H ht1H
      go_wp2_with fail
      go_loopw [13, 14] (fun al i wr => sumIRel cl (w11.drewN n12) al i wr) (fun _ i _ => cl.length - (intOf i).toNat)
      case atStart => exact ⟨0, rfl, Nat.zero_le _, rfl, rfl⟩
      case round =>
        obtain ⟨j, rfl, hj, rfl, rfl⟩ := hrel
        by_cases hlt : j < cl.length
        · obtain ⟨b, o, rfl, -, qc, -⟩ := i10.int j hlt
          have hst := Lib.hid (sum_take_succ hlt)
          have hp1 := hpartH.out j (by omega)
          have hp2 := hpartH.out (j + 1) (by omega)
          rw [sum_take_succ hlt] at hp2
          obtain ⟨M, hM⟩ : ∃ M, (cl.take j).sum = M := ⟨_, rfl⟩
          obtain ⟨y, hy⟩ : ∃ y, cl[j] = y := ⟨_, rfl⟩
          rw [hM, hy] at hp2
          rw [hM] at hp1 ⊢
          rw [hy] at qc
          have hMH := Lib.hid hM
          have hyH := Lib.hid hy
          clear hM hy i10 ht2
          go_wp2_with fail
          go_roundw
          case rel => exact ⟨j + 1, by go_num, by omega, by rw [hst.out, hMH.out, hyH.out], rfl⟩
          case measure => simp [intOf]; omega
        · rw [List.take_of_length_le (by omega)]
          obtain ⟨A, hA⟩ : ∃ A, cl.sum = A := ⟨_, rfl⟩
          have hAr := hpartH.out cl.length (Nat.le_refl _)
          rw [List.take_of_length_le (Nat.le_refl _)] at hAr
          have hsum := hsumH.out
          rw [hA] at hAr hsum ⊢
          have hsH := Lib.hid hsum
          clear hA hsum i10
          go_wp2_with fail
          go_loopw [13, 15] (fun al i wr => negRel t A (w11.drewN n12) al i wr) (fun _ i _ => t.length - (intOf i).toNat)
          case atStart => exact ⟨0, rfl, Nat.zero_le _, by simp [negs], rfl⟩
          case round =>
            obtain ⟨j, rfl, hj, rfl, rfl⟩ := hrel
            have hng := negs_le (t.take j)
            rw [List.length_take] at hng
            by_cases hlt : j < t.length
            · obtain ⟨b, o, rfl, -, qc, -⟩ := ht2.int j hlt
              have hst : negs (t.take (j + 1)) = negs (t.take j) + (if t[j] < 0 then 1 else 0) := by
                unfold negs
                rw [List.take_succ_eq_append_getElem hlt, List.countP_append]
                congr 1
                rw [List.countP_cons, List.countP_nil]; simp
              obtain ⟨M, hM⟩ : ∃ M : Nat, negs (t.take j) = M := ⟨_, rfl⟩
              obtain ⟨y, hy⟩ : ∃ y, t[j] = y := ⟨_, rfl⟩
              rw [hM, hy] at hst
              rw [hM] at hng ⊢
              rw [hy] at qc
              clear hM hy ht2
              by_cases hneg : y < 0
              · rw [if_pos hneg] at hst
                have hstH := Lib.hid hst
                clear hst
                go_wp2_with fail
                go_roundw
                case rel => exact ⟨j + 1, by go_num, by omega, by rw [hstH.out]; go_num, rfl⟩
                case measure => simp [intOf]; omega
              · rw [if_neg hneg] at hst
                have hstH := Lib.hid hst
                clear hst
                go_wp2_with fail
                go_roundw
                case rel => exact ⟨j + 1, by go_num, by omega, by rw [hstH.out]; rfl, rfl⟩
                case measure => simp [intOf]; omega
            · rw [List.take_of_length_le (by omega)] at hng ⊢
              have heq : A + (negs t : Nat) = (t.length : Int) := hsH.out
              rw [heq]
              clear ht2 heq
              go_wp2_with fail
              refine (awake_any _).mono ?_
              rintro e w13 ⟨rfl, b13⟩
              go_wp2_with fail
              go_ret
              exact ⟨rfl, bcall hB (bcall b12 b13)⟩
end Go.Proofs.Ytgpfdflpkaeedaa
