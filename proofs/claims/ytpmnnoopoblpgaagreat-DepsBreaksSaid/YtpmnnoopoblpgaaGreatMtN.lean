/- The proof of a statement, some of its texts joined in build order: part N. -/
import Derived.Test.YtpmnnoopoblpgaaGreatMtD
import Derived.Test.YtpmnnoopoblpgaaGreatWalkE
import Derived.Test.YtpmnnoopoblpgaaGreatWalkJ
import Derived.Test.YtpmnnoopoblpgaaGreatMtE
import Derived.Laws.CopyOwn
import Derived.Test.YtpmnnoopoblpgaaGreatRegion
/- Walks: lemmaryref06.Name, Has, Index. -/
namespace Go.Proofs.YtpmnnoopoblpgaaGreat
open Go Go.RowKit Go.Maps

theorem nmRel_next {s : ByteArray} {w : World} {k : Nat} (hk : k < s.size) (h : nmTo s (k + 1) = true) : nmRel s w (.int .i64 ((k : Int) + 1)) w ∧ s.size - (intOf (.int .i64 ((k : Int) + 1))).toNat < s.size - (intOf (.int .i64 (k : Int))).toNat :=
  ⟨⟨k + 1, by simp, hk, h, rfl⟩, by simp only [intOf]; omega⟩
theorem nmRel_one {s : ByteArray} {w : World} (hk : 0 < s.size) (h : nmTo s (0 + 1) = true) : nmRel s w (.int .i64 1) w ∧ s.size - (intOf (.int .i64 1)).toNat < s.size - (intOf (.int .i64 ((0 : Nat) : Int))).toNat :=
  ⟨⟨1, rfl, hk, h, rfl⟩, by simp only [intOf]; omega⟩
set_option maxHeartbeats 4000000 in
theorem rName_any (s : ByteArray) (hs : s.size ≤ big) (w : World) : Calls Tryz.prog 25 #[.string s] w fun e w' => e = .returned (.bool (nameB s)) ∧ w = w' := by
  unfold big at hs
  go_enter Tryz.func25, Tryz.ntmps25
  go_wp2_with fail
  go_loopw [3] (fun i wr => nmRel s w i wr) (fun i _ => s.size - (intOf i).toNat)
  case atStart => exact ⟨0, rfl, Nat.zero_le _, rfl, rfl⟩
  case round =>
    obtain ⟨k, rfl, hk, hn, rfl⟩ := hrel
    by_cases hlt : k < s.size
    · have hg := getD_byte hlt
      have hsu := nmTo_succ s k
      rw [hn, Bool.true_and, hg] at hsu
      have hbad := fun h => nmTo_bad hlt (by rw [hg]; exact h)
      have hkl : ((k : Int) < (s.size : Int)) = True := eq_true (by omega)
      have hsuH := Lib.hid hsu
      have hbadH := Lib.hid hbad
      clear hg hsu hbad hn
      go_wp2_with fail
      all_goals try subst_vars
      all_goals first
        | (exfalso; omega)
        | (exfalso; simp only [Bool.not_eq_false', Bool.not_eq_true', decide_eq_true_eq, decide_eq_false_iff_not, beq_iff_eq, beq_eq_false_iff_ne, ne_eq] at *; omega)
        | exact nmRel_one hlt (hsuH.out.trans (by simp only [nmC, Bool.or_eq_true, Bool.and_eq_true, decide_eq_true_eq, ne_eq]; (try simp only [Bool.not_eq_true', decide_eq_false_iff_not] at *); omega))
        | exact nmRel_next hlt (hsuH.out.trans (by simp only [nmC, Bool.or_eq_true, Bool.and_eq_true, decide_eq_true_eq, ne_eq]; (try simp only [Bool.not_eq_false', Bool.not_eq_true', decide_eq_true_eq, decide_eq_false_iff_not, beq_iff_eq, beq_eq_false_iff_ne, ne_eq] at *); omega))
        | (go_ret; exact ⟨ret_bool (hbadH.out (by rw [Bool.eq_false_iff]; simp only [nmC, Bool.or_eq_true, Bool.and_eq_true, decide_eq_true_eq, ne_eq]; (try simp only [Bool.not_eq_true', decide_eq_false_iff_not, beq_iff_eq, beq_eq_false_iff_ne, ne_eq] at *); first | omega | (simp; done) | (simp; omega))).symm, rfl⟩)
    · have hkk : k = s.size := by omega
      rw [hkk] at hn
      have hnb : nameB s = (decide (1 ≤ s.size) && decide (s.size ≤ 16)) := by unfold nameB; rw [hn, Bool.true_and]
      have hkl : ((k : Int) < (s.size : Int)) = False := eq_false (by omega)
      have hnbH := Lib.hid hnb
      have hkkH := Lib.hid hkk
      clear hn hnb hkk hlt hk
      by_cases h1 : 1 ≤ s.size
      · have h1i : ((1 : Int) ≤ (s.size : Int)) = True := eq_true (by omega)
        by_cases h2 : s.size ≤ 16
        · have h2i : ((s.size : Int) ≤ 16) = True := eq_true (by omega)
          go_wp2_with fail
          go_ret
          exact ⟨ret_bool (by rw [hnbH.out]; simp; omega), rfl⟩
        · have h2i : ((s.size : Int) ≤ 16) = False := eq_false (by omega)
          go_wp2_with fail
          go_ret
          exact ⟨ret_bool (by rw [hnbH.out]; simp; omega), rfl⟩
      · have h1i : ((1 : Int) ≤ (s.size : Int)) = False := eq_false (by omega)
        go_wp2_with fail
        go_ret
        exact ⟨ret_bool (by rw [hnbH.out]; simp; omega), rfl⟩
end Go.Proofs.YtpmnnoopoblpgaaGreat

/- Walks: ValidEntry of the reference. -/
namespace Go.Proofs.YtpmnnoopoblpgaaGreat
open Go Go.RowKit Go.Maps

theorem Sl.pre {α : Type} {E : Enc α} {S : Nat → Prop} {w : World} {a : Option Addr} {c : Nat} {l : List α} (h : Sl E S w a c l) (k : Nat) : Sl E S w a c (l.take k) := by
  refine ⟨by have := h.cap; rw [List.length_take]; omega, h.max, fun e => by obtain ⟨e1, e2⟩ := h.nil e; exact ⟨by rw [e1]; simp, e2⟩, fun hne => ?_⟩
  obtain ⟨b, off, ha, hb, hl, hc⟩ := h.dat (fun e => hne (by rw [e]; simp))
  refine ⟨b, off, ha, hb, hl, fun i hi => ?_⟩
  rw [List.length_take] at hi
  obtain ⟨vs, h1, h2, h3⟩ := hc i (by omega)
  exact ⟨vs, h1, h2, by rw [List.getElem_take]; exact h3⟩
theorem nodup_take {us : List ByteArray} {j : Nat} (hj : j < us.length) (h : (us.take j).Nodup) (hm : memB (us.take j) us[j] = false) : (us.take (j + 1)).Nodup := by
  rw [List.take_succ_eq_append_getElem hj, List.nodup_append]
  refine ⟨h, by simp, fun a ha b hb e => ?_⟩
  rw [List.mem_singleton] at hb
  have : memB (us.take j) us[j] = true := memB_iff.2 (by rw [← hb, ← e]; exact ha)
  rw [hm] at this; cases this
theorem nodup_bad {us : List ByteArray} {j : Nat} (hj : j < us.length) (hm : memB (us.take j) us[j] = true) : ¬ us.Nodup := by
  intro h
  obtain ⟨q, hq, e⟩ := List.getElem_of_mem (memB_iff.1 hm)
  rw [List.length_take] at hq
  rw [List.getElem_take] at e
  have := (List.getElem_inj (xs := us) (h₀ := by omega) (h₁ := hj) h).1 e
  omega
theorem all_take {us : List ByteArray} {j : Nat} (hj : j < us.length) (h : (us.take j).all nameB = true) (hn : nameB us[j] = true) : (us.take (j + 1)).all nameB = true := by
  rw [List.take_succ_eq_append_getElem hj, List.all_append, h]; simpa using hn
theorem all_bad {us : List ByteArray} {j : Nat} (hj : j < us.length) (hn : nameB us[j] = false) : us.all nameB = false := by
  rw [List.all_eq_false]; exact ⟨us[j], List.getElem_mem hj, by rw [hn]; simp⟩
def rvyRel (us : List ByteArray) (w2 : World) (i : Value) (wr : World) : Prop := ∃ j : Nat, i = .int .i64 j ∧ j ≤ us.length ∧ (us.take j).Nodup ∧ (us.take j).all nameB = true ∧ Drew w2 wr
set_option maxHeartbeats 4000000 in
theorem rValidEntry_any {S1 S2 : Nat → Prop} (sa : Option Addr) (sc : Nat) (s : Sg) (x : Ent) (a1 a2 a3 : Option Addr) (c1 c2 c3 : Nat) (w : World) (h1 : Sign S1 w sa sc s) (hn : (eNm x).size ≤ big) (hb : (eBy x).size ≤ big)
    (hI : Ints S2 w a1 c1 (eSays x)) (hU : Sl strE S2 w a2 c2 (eUses x)) (hP : Steps S2 w a3 c3 (ePf x)) :
    Calls Tryz.prog 19 #[.slice sa s.length sc, entV (eNm x) (eBy x) (eSays x).length (eUses x).length (ePf x).length a1 a2 a3 c1 c2 c3] w fun e w' => e = .returned (.bool (okEnt s x)) ∧ Below w.heap.size w w' := by
  have m1 := hI.le
  have m2 := hU.le
  have m3 := hP.le
  have hok : okEnt s x = ((nameB (eNm x) && (nameB (eBy x) && isCanonT s (eSays x))) && ((decide ((eUses x).length ≤ 12) && (decide (eUses x).Nodup && (eUses x).all nameB)) && ((decide (eUses x = []) && decide (ePf x = [])) || proofB (eUses x).length (ePf x)))) := rfl
  obtain ⟨W, hW⟩ : ∃ W, w.alloc (.cells #[.string (eNm x), .string (eBy x), .slice a1 (eSays x).length c1, .slice a2 (eUses x).length c2, .slice a3 (ePf x).length c3] 37) = W := ⟨_, rfl⟩
  have hB : Below w.heap.size w W := by rw [← hW]; exact below1 w _
  have q0 : W.cell? ⟨w.heap.size, 0, none⟩ = some (.string (eNm x)) := by rw [← hW]; clear hW; go_simp
  have q1 : W.cell? ⟨w.heap.size, 1, none⟩ = some (.string (eBy x)) := by rw [← hW]; clear hW; go_simp
  have q2 : W.cell? ⟨w.heap.size, 2, none⟩ = some (.slice a1 (eSays x).length c1) := by rw [← hW]; clear hW; go_simp
  have q3 : W.cell? ⟨w.heap.size, 3, none⟩ = some (.slice a2 (eUses x).length c2) := by rw [← hW]; clear hW; go_simp
  have q4 : W.cell? ⟨w.heap.size, 4, none⟩ = some (.slice a3 (ePf x).length c3) := by rw [← hW]; clear hW; go_simp
  have k1 := rName_any (eNm x) hn W
  have k2 := rName_any (eBy x) hb W
  have kv := rValid_any sa a1 sc c1 s (eSays x) W (h1.below hB) (hI.below hB)
  have k3 := fun W' (hb' : Below W.heap.size W W') => rIsCanonical_any sa a1 sc c1 s (eSays x) W' ((h1.below hB).below hb') ((hI.below hB).below hb')
  have k6 := fun W' (hb' : Below W.heap.size W W') => rValidProof_any ((eUses x).length : Int) a3 c3 (ePf x) W' ((hP.below hB).below hb')
  have hcv : okT s (eSays x) = false → isCanonT s (eSays x) = false := fun h => by unfold isCanonT; rw [h]; rfl
  have hUW := hU.below hB
  have hP0 : ePf x = [] → proofB (eUses x).length (ePf x) = false := fun h => by rw [h]; unfold proofB validP; simp
  clear h1 hI hU hP hn hb
  generalize okEnt s x = OK at hok ⊢
  generalize eNm x = nm at *
  generalize eBy x = bn at *
  generalize (eSays x).length = n1 at *
  generalize isCanonT s (eSays x) = b3 at *
  generalize okT s (eSays x) = bv at *
  generalize eUses x = us at *
  generalize ePf x = pf at *
  generalize proofB (us.length : Int) pf = b6 at *
  have hUH := Lib.hid hUW
  have k6H := Lib.hid k6
  have hokH := Lib.hid hok
  have hBH := Lib.hid hB
  have hP0H := Lib.hid hP0
  clear hUW k6 hok hB hP0
  cases hb1 : nameB nm with
  | false =>
    rw [hb1] at k1 hokH
    have k1H := Lib.hid k1
    clear k1 k2 kv k3 hb1 hcv
    go_enter Tryz.func19, Tryz.ntmps19
    go_wp2_with fail
    try rw [hW]
    refine k1H.out.mono ?_
    rintro e w1 ⟨rfl, rfl⟩
    go_wp2_with fail
    go_ret
    exact ⟨by rw [hokH.out]; rfl, hBH.out⟩
  | true =>
  cases hb2 : nameB bn with
  | false =>
    rw [hb1] at k1 hokH
    rw [hb2] at k2 hokH
    have k1H := Lib.hid k1
    have k2H := Lib.hid k2
    clear k1 k2 kv k3 hb1 hb2 hcv
    go_enter Tryz.func19, Tryz.ntmps19
    go_wp2_with fail
    try rw [hW]
    refine k1H.out.mono ?_
    rintro e w1 ⟨rfl, rfl⟩
    go_wp2_with fail
    refine k2H.out.mono ?_
    rintro e w1 ⟨rfl, rfl⟩
    go_wp2_with fail
    go_ret
    exact ⟨by rw [hokH.out]; rfl, hBH.out⟩
  | true =>
  rw [hb1] at k1 hokH
  rw [hb2] at k2 hokH
  have k1H := Lib.hid k1
  have k2H := Lib.hid k2
  clear k1 k2 hb1 hb2
  cases bv with
  | false =>
    have hc := hcv rfl
    subst hc
    have kvH := Lib.hid kv
    clear kv k3 hcv
    go_enter Tryz.func19, Tryz.ntmps19
    go_wp2_with fail
    try rw [hW]
    refine k1H.out.mono ?_
    rintro e w1 ⟨rfl, rfl⟩
    go_wp2_with fail
    refine k2H.out.mono ?_
    rintro e w1 ⟨rfl, rfl⟩
    go_wp2_with fail
    refine kvH.out.mono ?_
    rintro e w2 ⟨rfl, hd⟩
    have hfin := Lib.hid (bcall hBH.out (hd.below _))
    clear hd
    go_wp2_with fail
    go_ret
    exact ⟨by rw [hokH.out]; rfl, hfin.out⟩
  | true =>
  have kvH := Lib.hid kv
  have k3H := Lib.hid k3
  clear kv k3 hcv
  go_enter Tryz.func19, Tryz.ntmps19
  go_wp2_with fail
  try rw [hW]
  refine k1H.out.mono ?_
  rintro e w1 ⟨rfl, rfl⟩
  go_wp2_with fail
  refine k2H.out.mono ?_
  rintro e w1 ⟨rfl, rfl⟩
  go_wp2_with fail
  refine kvH.out.mono ?_
  rintro e w2 ⟨rfl, hd⟩
  have hb2 := hd.below W.heap.size
  have k3a := Lib.hid (k3H.out w2 hb2)
  have p2 := cell_later hb2 q2
  have p3 := cell_later hb2 q3
  have p4 := cell_later hb2 q4
  have hb2H := Lib.hid hb2
  clear hd hb2 q0 q1 q2 q3 q4
  cases b3 with
  | false =>
    go_wp2_with fail
    refine k3a.out.mono ?_
    rintro e w3 ⟨rfl, hb3⟩
    have hfin := Lib.hid (bcall (bcall hBH.out hb2H.out) hb3)
    clear hb3
    go_wp2_with fail
    go_ret
    exact ⟨by rw [hokH.out]; rfl, hfin.out⟩
  | true =>
  rw [Bool.true_and, Bool.true_and, Bool.true_and] at hokH
  go_wp2_with fail
  refine k3a.out.mono ?_
  rintro e w3 ⟨rfl, hb3⟩
  have r3 := cell_later hb3 p3
  have r4 := cell_later hb3 p4
  have hB3 := Lib.hid (bcall hb2H.out hb3)
  have hBw := Lib.hid (bcall (bcall hBH.out hb2H.out) hb3)
  clear hb3 p2 p3 p4
  by_cases h12 : us.length ≤ 12
  · have h12i : ((12 : Int) < (us.length : Int)) = False := eq_false (by omega)
    have hok2 := hokH.out
    rw [decide_eq_true h12, Bool.true_and] at hok2
    have hok2H := Lib.hid hok2
    clear hok2
    have hU3 := Lib.hid (hUH.out.below hB3.out)
    clear h12
    go_wp2_with fail
    go_loopw [5] (fun i wr => rvyRel us w3 i wr) (fun i _ => us.length - (intOf i).toNat)
    case atStart => exact ⟨0, rfl, Nat.zero_le _, by simp, rfl, .refl _⟩
    case round =>
      obtain ⟨j, rfl, hj, hnd, hal, hD⟩ := hrel
      have s3 := cell_later (hD.below _) r3
      have s4 := cell_later (hD.below _) r4
      have hUr := Lib.hid (hU3.out.drew hD)
      have hDH := Lib.hid hD
      clear hD
      by_cases hjl : j < us.length
      · obtain ⟨b2, o2, rfl, -, qu, hzu⟩ := hUr.out.str j hjl
        have hjj : (j : Int) < (us.length : Int) := by omega
        have hjl2 : (j : Int) ≤ (us.length : Int) := by omega
        have hlt2 : (us.take j).length = j := by rw [List.length_take]; omega
        have vn := fun m => rName_any us[j] hzu (wr.drewN m)
        have vh := fun m => rHas_any (some ⟨b2, o2, none⟩) c2 (us.take j) us[j] (wr.drewN m) ((hUr.out.pre j).drewN m)
        simp only [hlt2] at vh
        have hbadn : nameB us[j] = false → us.all nameB = false := all_bad hjl
        have hbadm : memB (us.take j) us[j] = true → ¬ us.Nodup := nodup_bad hjl
        have hnext : nameB us[j] = true → memB (us.take j) us[j] = false → ∀ q, rvyRel us w3 (.int .i64 ((j : Int) + 1)) (wr.drewN q) := fun h1 h2 q => ⟨j + 1, by simp, hjl, nodup_take hjl hnd h2, all_take hjl hal h1, drew_more hDH.out _⟩
        have hbadnH := Lib.hid hbadn
        have hbadmH := Lib.hid hbadm
        have hnextH := Lib.hid hnext
        have vnH := Lib.hid vn
        have vhH := Lib.hid vh
        clear hbadn hbadm hnext vn vh hnd hal hlt2
        generalize memB (us.take j) us[j] = bm at *
        generalize us[j] = u at *
        have hj0 : (0 : Int) ≤ (j : Int) := by omega
        have hcap := hUr.out.cap
        have hjc : (j : Int) ≤ (c2 : Int) := by omega
        have hc0 : ¬ c2 = 0 := by omega
        have hc1 : ¬ 0 = c2 := by omega
        clear hcap
        cases hbn : nameB u with
        | false =>
          have hf := Lib.hid (show OK = false by rw [hok2H.out, hbadnH.out hbn]; simp)
          rw [hbn] at vnH
          clear hbn
          go_wp2_with fail
          go_quiet ((go_at_call 25; (with_reducible exact quiet_left (vnH.out _))))
          all_goals go_wp2_with fail
          all_goals go_ret
          all_goals exact ⟨ret_bool hf.out.symm, below_drewN (bcall hBw.out (hDH.out.below _)) _⟩
        | true =>
          rw [hbn] at vnH
          cases bm with
          | true =>
            have hf := Lib.hid (show OK = false by rw [hok2H.out, decide_eq_false (hbadmH.out rfl)]; simp)
            clear hbn
            go_wp2_with fail
            go_quiet (first | (go_at_call 25; (with_reducible exact quiet_left (vnH.out _))) | (go_at_call 39; (with_reducible exact quiet_left (vhH.out _))))
            all_goals go_wp2_with fail
            all_goals go_ret
            all_goals exact ⟨ret_bool hf.out.symm, below_drewN (bcall hBw.out (hDH.out.below _)) _⟩
          | false =>
            have hf := Lib.hid (hnextH.out hbn rfl)
            clear hbn
            go_wp2_with fail
            go_quiet (first | (go_at_call 25; (with_reducible exact quiet_left (vnH.out _))) | (go_at_call 39; (with_reducible exact quiet_left (vhH.out _))))
            all_goals go_wp2_with fail
            all_goals go_roundw
            case rel => exact hf.out _
            case measure => simp [intOf]; omega
      · have hjj : ((j : Int) < (us.length : Int)) = False := eq_false (by omega)
        rw [List.take_of_length_le (by omega)] at hnd hal
        have hok3 := hok2H.out
        rw [decide_eq_true hnd, hal, Bool.true_and, Bool.true_and] at hok3
        have k6a := Lib.hid (k6H.out wr (bcall hB3.out (hDH.out.below _)))
        have hBe := Lib.hid (bcall hBw.out (hDH.out.below _))
        clear hnd hal hjl hj
        by_cases hp : pf = []
        · have hz : ((pf.length : Int) == 0) = true := by rw [hp]; rfl
          have hus : decide (us = []) = ((us.length : Int) == 0) := by rw [Bool.eq_iff_iff, decide_eq_true_eq, beq_iff_eq, ← List.length_eq_zero_iff]; omega
          have hf := Lib.hid (show OK = ((us.length : Int) == 0) by rw [hok3, hP0H.out hp, decide_eq_true hp, Bool.and_true, Bool.or_false, hus])
          clear hok3 hp hus
          go_wp2_with fail
          go_ret
          exact ⟨ret_bool hf.out.symm, hBe.out⟩
        · have hz : ((pf.length : Int) == 0) = false := by rw [beq_eq_false_iff_ne]; intro e; exact hp (List.length_eq_zero_iff.1 (by omega))
          have hf := Lib.hid (show OK = b6 by rw [hok3, decide_eq_false hp, Bool.and_false, Bool.false_or])
          clear hok3 hp
          go_wp2_with fail
          refine k6a.out.mono ?_
          rintro e w6 ⟨rfl, hb6⟩
          have hfin := Lib.hid (bcall hBe.out hb6)
          clear hb6
          go_wp2_with fail
          go_ret
          exact ⟨ret_bool hf.out.symm, hfin.out⟩
  · have h12i : ((12 : Int) < (us.length : Int)) = True := eq_true (by omega)
    have hok2 := hokH.out
    rw [decide_eq_false h12] at hok2
    have hok2H := Lib.hid hok2
    clear hok2 h12
    go_wp2_with fail
    go_ret
    exact ⟨by rw [hok2H.out]; rfl, hBw.out⟩
end Go.Proofs.YtpmnnoopoblpgaaGreat

/- A name put in its place in an ascending list: the list, and the cells. -/
namespace Go.Proofs.YtpmnnoopoblpgaaGreat
open Go Go.RowKit Go.Maps

theorem ins_asc {L : List ByteArray} (hA : AscN L) {x : ByteArray} {a : Nat} (hx : x ∉ L) (hlt : ∀ j (hj : j < L.length), j < a → ltN L[j] x) (hge : ∀ h : a < L.length, ¬ ltN L[a] x) : AscN (L.take a ++ x :: L.drop a) := by
  have hgt : ∀ y ∈ L.drop a, ltN x y := fun y hy => by
    obtain ⟨j, hj, rfl⟩ := List.getElem_of_mem hy
    rw [List.length_drop] at hj
    rw [List.getElem_drop]
    have ha : a < L.length := by omega
    have h1 : ltN x L[a] := by
      rcases ltN_tri L[a] x with h | h | h
      · exact (hge ha h).elim
      · exact (hx (by rw [← h]; exact List.getElem_mem ha)).elim
      · exact h
    by_cases e : j = 0
    · subst e; exact h1
    · exact ltN_tr _ _ _ h1 ((List.pairwise_iff_getElem.1 hA) a (a + j) ha (by omega) (by omega))
  unfold AscN
  rw [List.pairwise_append]
  refine ⟨List.Pairwise.sublist (List.take_sublist _ _) hA, ?_, fun y hy z hz => ?_⟩
  · rw [List.pairwise_cons]
    exact ⟨hgt, List.Pairwise.sublist (List.drop_sublist _ _) hA⟩
  · obtain ⟨j, hj, rfl⟩ := List.getElem_of_mem hy
    rw [List.length_take] at hj
    rw [List.getElem_take]
    have h1 := hlt j (by omega) (by omega)
    rcases List.mem_cons.1 hz with e | e
    · rw [e]; exact h1
    · exact ltN_tr _ _ _ h1 (hgt z e)
theorem ins_mem {L : List ByteArray} {x y : ByteArray} {a : Nat} : y ∈ L.take a ++ x :: L.drop a ↔ y = x ∨ y ∈ L := by
  conv => rhs; rw [← List.take_append_drop a L]
  simp only [List.mem_append, List.mem_cons]
  constructor
  · rintro (h | h | h)
    · exact .inr (.inl h)
    · exact .inl h
    · exact .inr (.inr h)
  · rintro (h | h | h)
    · exact .inr (.inl h)
    · exact .inl h
    · exact .inr (.inr h)
theorem ins_set {L : List ByteArray} {z x : ByteArray} {a : Nat} (ha : a ≤ L.length) : ((L ++ [z]).take (a + 1) ++ L.drop a).set a x = L.take a ++ x :: L.drop a := by
  have hlen : a < (L ++ [z]).length := by simp; omega
  rw [List.take_succ_eq_append_getElem hlen, List.append_assoc, List.singleton_append, List.take_append_of_le_length ha]
  rw [List.set_append, if_neg (by simp; omega)]
  have : a - (L.take a).length = 0 := by simp; omega
  rw [this]; rfl
/-- the cells of a list that has been made longer, copied up from a place on -/
theorem OwnS.lifted {w : World} {base g cap : Nat} {L : List ByteArray} {z : ByteArray} (h : OwnS w base (.slice (some ⟨g, 0, none⟩) (L.length + 1) cap) (L ++ [z])) {a : Nat} (ha : a ≤ L.length) :
    ∃ cur : List Value, w.heap[g]? = some (.cells cur.toArray 9 (0, 0)) ∧ base ≤ g ∧ a + 1 + ((L.drop a).map Value.string).length ≤ cur.length ∧ (∀ j v, ((L.drop a).map Value.string)[j]? = some v → w.cell? ⟨g, a + j, none⟩ = some v) ∧
      ∀ w2 : World, w2.heap[g]? = some (.cells (splice cur (a + 1) ((L.drop a).map Value.string)).toArray 9 (0, 0)) → OwnS w2 base (.slice (some ⟨g, 0, none⟩) (L.length + 1) cap) ((L ++ [z]).take (a + 1) ++ L.drop a) := by
  obtain ⟨ho, hr⟩ := OwnS.row h
  have hll : (L ++ [z]).length = L.length + 1 := by simp
  rw [hll] at ho
  have hcell := fun j hj => ho.cellAt (g := g) (cap := cap) j hj
  rcases ho.2 with ⟨h0, -⟩ | ⟨g', cap', cur, hv, hb, hg, h1, h2, h3, h4⟩
  · cases h0
  · injection hv with e1 e2 e3
    injection e1 with e1
    injection e1 with e1
    subst e1 e3
    have hcl : cur.toList.length = cap := by rw [Array.length_toList, h3]; omega
    have hdl : ((L.drop a).map Value.string).length = L.length - a := by simp
    refine ⟨cur.toList, hg, hb, by rw [hcl, hdl]; omega, fun j v hjv => ?_, fun w2 h2' => ?_⟩
    · have hj : j < L.length - a := by have := (List.getElem?_eq_some_iff.1 hjv).1; rw [hdl] at this; exact this
      have := hcell (a + j) (by omega)
      rw [this, ← hjv, List.getElem?_map, List.getElem?_map, List.getElem?_drop, List.getElem?_append_left (by omega)]
    · refine OwnS.of_row ⟨by simp, .inr ⟨g, cap, (splice cur.toList (a + 1) ((L.drop a).map Value.string)).toArray, ?_, hb, h2', ?_, h2, ?_, ?_⟩⟩ (fun y hy => ?_)
      · simp; omega
      · simp; omega
      · rw [List.size_toArray, length_splice _ _ _ (by rw [hcl, hdl]; omega), hcl]; omega
      · have e5 : ((L ++ [z]).take (a + 1) ++ L.drop a).length * 1 = a + 1 + (L.length - a) := by simp; omega
        rw [e5, List.toList_toArray]
        unfold splice
        rw [List.map_append, List.map_take, ← h4, Nat.mul_one, List.take_take, show min (a + 1) (L.length + 1) = a + 1 by omega, ← List.append_assoc, List.take_append_of_le_length (by rw [List.length_append, List.length_take, hdl, hcl]; omega)]
        exact List.take_of_length_le (by rw [List.length_append, List.length_take, hdl, hcl]; omega)
      · rcases List.mem_append.1 hy with k | k
        · exact hr y (List.mem_of_mem_take k)
        · exact hr y (List.mem_append_left _ (List.mem_of_mem_drop k))
theorem OwnS.setAt {w : World} {base g cap n : Nat} {L : List ByteArray} (h : OwnS w base (.slice (some ⟨g, 0, none⟩) n cap) L) (hn : n = L.length) (i : Nat) (x : ByteArray) (hx : x.size ≤ big) :
    OwnS (w.setCell ⟨g, i, none⟩ (.string x)) base (.slice (some ⟨g, 0, none⟩) n cap) (L.set i x) ∧ w.grownBy (w.setCell ⟨g, i, none⟩ (.string x)) (some g) := by
  subst hn
  obtain ⟨ho, hr⟩ := OwnS.row h
  obtain ⟨h1, h2⟩ := ho.stored i (.string x)
  refine ⟨OwnS.of_row (by rw [List.length_set, List.map_set]; exact h1) (fun y hy => ?_), h2⟩
  rcases List.mem_or_eq_of_mem_set hy with h | h
  · exact hr y h
  · rw [h]; exact hx
theorem OwnS.cellAt {w : World} {base g cap n : Nat} {L : List ByteArray} (h : OwnS w base (.slice (some ⟨g, 0, none⟩) n cap) L) (hn : n = L.length) (i : Nat) (hi : i < L.length) : w.cell? ⟨g, i, none⟩ = some (.string L[i]) ∧ w.frozen? ⟨g, i, none⟩ = false := by
  subst hn
  obtain ⟨ho, _⟩ := OwnS.row h
  exact ⟨by rw [ho.cellAt i (by omega)]; simp [hi], ho.frozenAt i⟩
end Go.Proofs.YtpmnnoopoblpgaaGreat

/- Walks: Sorted of the reference. -/
namespace Go.Proofs.YtpmnnoopoblpgaaGreat
open Go Go.RowKit Go.Maps

theorem bytesLess_ltB2 (x y : ByteArray) : Op.bytesLess x.toList y.toList = ltB x y := by
  unfold ltB
  rw [ByteArray.toList_eq, ByteArray.toList_eq, bytesLess_eq]
def srRel (l : List ByteArray) (w : World) (i v : Value) (wr : World) : Prop :=
  ∃ (k : Nat) (L : List ByteArray), i = .int .i64 k ∧ k ≤ l.length ∧ OwnS wr w.heap.size v L ∧ AscN L ∧ L.length ≤ k ∧ (∀ y, y ∈ L ↔ y ∈ l.take k) ∧ Below w.heap.size w wr
set_option maxRecDepth 100000 in
set_option maxHeartbeats 4000000 in
theorem rSorted_any {S : Nat → Prop} (a : Option Addr) (c : Nat) (l : List ByteArray) (w : World) (h : Sl strE S w a c l) (hl : l.length ≤ 2000) :
    Calls Tryz.prog 103 #[.slice a l.length c] w (SortedOut w (memB l)) := by
  have m := h.le
  have hlH := Lib.hid h
  clear h
  go_enter Tryz.func103, Tryz.ntmps103
  go_wp2_with fail
  go_loopw [4, 3] (fun i v wr => srRel l w i v wr) (fun i _ _ => l.length - (intOf i).toNat)
  case atStart => exact ⟨0, [], rfl, Nat.zero_le _, OwnL.nil _ _ _ _ _, .nil, Nat.le_refl _, by simp, .refl _ _⟩
  case round =>
    obtain ⟨k, L, rfl, hk, hO, hA, hLk, hmem, hB⟩ := hrel
    by_cases hlt : k < l.length
    · obtain ⟨b, o, rfl, -, qx, hzx⟩ := (hlH.out.below hB).str k hlt
      obtain ⟨aL, cL, rfl, hS⟩ := OwnS.strs hO
      have vh := rHas_any aL cL L l[k] wr hS
      have mS := hS.le
      have hxt : ∀ y, y ∈ l.take (k + 1) ↔ y ∈ l.take k ∨ y = l[k] := fun y => by rw [List.take_succ_eq_append_getElem hlt, List.mem_append, List.mem_singleton]
      obtain ⟨x, hx⟩ : ∃ x, l[k] = x := ⟨_, rfl⟩
      rw [hx] at qx hzx vh
      simp only [hx] at hxt
      have hAH := Lib.hid hA
      have hmemH := Lib.hid hmem
      have hxtH := Lib.hid hxt
      have hOH := Lib.hid hO
      have hSH := Lib.hid hS
      have hzxH := Lib.hid hzx
      have hxH := Lib.hid hx
      cases hmb : memB L x with
      | true =>
        rw [hmb] at vh
        have vhH := Lib.hid vh
        have hxin := memB_iff.1 hmb
        have hfin := Lib.hid (show srRel l w (.int .i64 ((k : Int) + 1)) (.slice aL L.length cL) wr from ⟨k + 1, L, by simp, hlt, hO, hA, by omega, fun y => by rw [hxt y, ← hmem y]; exact ⟨.inl, fun h => h.elim id (fun e => by rw [e]; exact hxin)⟩, hB⟩)
        clear vh hO hA hmem hxt hS hmb hx hzx hB hxin
        go_wp2_with fail
        refine vhH.out.mono ?_
        rintro e w2 ⟨rfl, rfl⟩
        go_wp2_with fail
        go_roundw
        case rel => exact hfin.out
        case measure => simp [intOf]; omega
      | false =>
        rw [hmb] at vh
        have vhH := Lib.hid vh
        have hnxH := Lib.hid (show x ∉ L from fun h => by rw [memB_iff.2 h] at hmb; cases hmb)
        have hBH := Lib.hid hB
        clear vh hO hA hmem hxt hS hmb hx hzx hB
        go_wp2_with fail
        refine vhH.out.mono ?_
        rintro e w2 ⟨rfl, rfl⟩
        go_wp2_with fail
        go_loopw [5] (fun i w3 => ∃ j : Nat, i = .int .i64 j ∧ j ≤ L.length ∧ (∀ q (hq : q < L.length), q < j → ltN L[q] x) ∧ Drew wr w3) (fun i _ => L.length - (intOf i).toNat)
        case atStart => exact ⟨0, rfl, Nat.zero_le _, fun q _ h => by omega, .refl _⟩
        case round =>
          obtain ⟨j, rfl, hj, hjl, n, rfl⟩ := hrel
          by_cases hjt : j < L.length
          · obtain ⟨b2, o2, rfl, -, q2, -⟩ := hSH.out.str j hjt
            have hjjT : ((j : Int) < (L.length : Int)) = True := eq_true (by omega)
            cases hlx : ltB L[j] x with
            | true =>
              have hq := (bytesLess_ltB2 L[j] x).trans hlx
              have hfin := Lib.hid (show ∀ q (hq : q < L.length), q < j + 1 → ltN L[q] x from fun q hq h => by
                by_cases e : q = j
                · subst e; exact ltB_iff.1 hlx
                · exact hjl q hq (by omega))
              clear hjl hlx
              generalize L[j] = y at *
              go_wp2_with fail
              go_quiet (fail)
              all_goals go_wp2_with fail
              all_goals exact ⟨⟨j + 1, by go_num, by omega, hfin.out, .mk _ _⟩, by simp [intOf]; omega⟩
            | false =>
              have hq := (bytesLess_ltB2 L[j] x).trans hlx
              have hjlH := Lib.hid hjl
              have hjgH := Lib.hid (show ∀ h : j < L.length, ¬ ltN L[j] x from fun _ h => by rw [ltB_iff.2 h] at hlx; cases hlx)
              clear hjl hlx
              generalize L[j] = y at q2 hq
              go_wp2_with fail
              go_quiet (fail)
              · generalize hWg : (wr.drewN n).drewN _ = W2
                have hD2 : Drew wr W2 := by rw [← hWg]; exact .mk2 _ _ _
                clear hWg
                have hO2H := Lib.hid (OwnL.call hOH.out (hD2.below _))
                have hB2H := Lib.hid (bcall hBH.out (hD2.below _))
                obtain ⟨v', W', hrun, ho, hg, -⟩ := OwnL.push (P := Tryz.prog) (t := 29) (ty := 29) hO2H.out Tryz.underlying29 infoStr rfl (vs := [.string ⟨#[]⟩]) (x := ⟨#[]⟩) ⟨rfl, by decide⟩ (by omega) (by unfold big; omega) hB2H.out.size
                obtain ⟨g, cap, rfl, hg1, hg2⟩ := OwnL.form ho (by simp)
                have hll : (L ++ [(⟨#[]⟩ : ByteArray)]).length = L.length + 1 := by simp
                rw [hll] at ho hrun
                obtain ⟨cur, k1, k2, k3, k4, k5⟩ := OwnS.lifted ho hj
                have hcs : ((L.drop j).map Value.string).length = L.length - j := by simp
                obtain ⟨cs, hcsd⟩ : ∃ cs, (L.drop j).map Value.string = cs := ⟨_, rfl⟩
                rw [hcsd] at k3 k4 k5 hcs
                have hone : ∀ u ∈ cs, u.oneCell' = true := fun u hu => by
                  rw [← hcsd] at hu
                  obtain ⟨y, -, rfl⟩ := List.mem_map.1 hu
                  rfl
                have k4' : ∀ q v, cs[q]? = some v → W'.drew.cell? ((⟨g, j, none⟩ : Addr).add q) = some v := fun q v hv => by
                  have hadd : (⟨g, j, none⟩ : Addr).add q = ⟨g, j + q, none⟩ := by unfold Addr.add; split <;> simp_all
                  rw [hadd]; exact k4 q v hv
                have hcap : L.length + 1 ≤ cap := by
                  rcases ho.choose_spec.1.2 with ⟨h0, -⟩ | ⟨g', cap', cur', hv, -, -, h1, -⟩
                  · cases h0
                  · injection hv with e1 e2 e3
                    subst e3; simpa using h1
                have hBW : Below w.heap.size w W' := hB2H.out.grown hg hB2H.out.size (fun k e => (OwnL.lt hO2H.out k e).1)
                have hk1 := Lib.hid k1
                have hkW := Lib.hid (fun (w3 : World) (h : Hid (w3.heap[g]? = some (.cells (splice cur (j + 1) cs).toArray 9 (0, 0)))) (hb : Below w.heap.size w w3) => by
                  have ho3 := k5 w3 h.out
                  have hlen3 : L.length + 1 = ((L ++ [(⟨#[]⟩ : ByteArray)]).take (j + 1) ++ L.drop j).length := by simp; omega
                  have hc := OwnS.cellAt ho3 hlen3 j (by rw [← hlen3]; omega)
                  have hs := OwnS.setAt ho3 hlen3 j x hzxH.out
                  rw [ins_set hj] at hs
                  exact show (∃ u, w3.cell? ⟨g, j, none⟩ = some u ∧ w3.frozen? ⟨g, j, none⟩ = false) ∧ srRel l w (.int .i64 ((k : Int) + 1)) (.slice (some ⟨g, 0, none⟩) (L.length + 1) cap) (w3.setCell ⟨g, j, none⟩ (.string x)) from
                    ⟨⟨_, hc.1, hc.2⟩, k + 1, L.take j ++ x :: L.drop j, by simp, hlt, hs.1, ins_asc hAH.out hnxH.out hjlH.out hjgH.out, by simp; omega, (fun y => by rw [ins_mem, hmemH.out y, hxtH.out y]; exact Or.comm), hb.grown hs.2 hb.size (fun q e => by injection e with e; omega)⟩)
                clear ho hg k1 k5 hcsd hD2
                go_wp2_with (at_builtin; refine wpList_append_run rfl _ _ _ rfl rfl rfl hrun ?_)
                clear hrun
                have hj2 : j ≤ 2000 := by omega
                have hj3 : (j : Int) + 1 ≤ (L.length : Int) + 1 := by omega
                have hj4 : (j : Int) ≤ (L.length : Int) + 1 := by omega
                have hj5 : 0 ≤ (j : Int) + 1 := by omega
                have hj9 : (j : Int) < (L.length : Int) + 1 := by omega
                have hj6 : 0 ≤ (j : Int) := by omega
                have hj7 : IntKind.i64.wrap ((j : Int) + 1) = (j : Int) + 1 := IntWalk.i64_in _ (by omega)
                have hj8 : ((j : Int) + 1).toNat = j + 1 := by omega
                have hcj : ¬ cap = j := by omega
                have hc1 : ¬ cap = j + 1 := by omega
                go_region_law (refine step_copy_splice rfl (.tmp 41) (.tmp 44) 29 29 rfl 9 Tryz.underlying29 (by kernel_rfl) (some ⟨g, j + 1, none⟩) (some ⟨g, j, none⟩) (L.length + 1 - (j + 1)) (cap - (j + 1)) (L.length + 1 - j) (cap - j) (by simp [Act.eval, Act.put] <;> omega) (by simp [Act.eval, Act.put] <;> omega) g (j + 1) cur 9 hk1.out cs (by rw [hcs]; show L.length - j = min (L.length + 1 - j) (L.length + 1 - (j + 1)); omega) (fun h0 => ⟨rfl, _, rfl, k4'⟩) k3 hone w.heap.size w (Below.drew hBW) k2 ?_; intro w4 hg4 hb4)
                obtain ⟨⟨uu, e1, e2⟩, hf⟩ := hkW.out w4 hg4 hb4
                obtain ⟨b', o', hae, -, qx4, -⟩ := (hlH.out.below hb4).str k hlt
                have hae' : b' = b ∧ o' = o := by simpa using hae.symm
                obtain ⟨rfl, rfl⟩ := hae'
                rw [hxH.out] at qx4
                have hfH := Lib.hid hf
                clear hf hg4 hb4 hkW hk1 k3 k4' hone hcs k4 hBW
                go_wp2_with fail
                go_roundw
                case rel => exact hfH.out
                case measure => simp [intOf]; omega
          · have hkk : ((j : Int) < (L.length : Int)) = False := eq_false (by omega)
            have hjlH := Lib.hid hjl
            have hjgH := Lib.hid (show ∀ h : j < L.length, ¬ ltN L[j] x from fun h => (hjt h).elim)
            clear hjl
            go_wp2_with fail
            go_quiet (fail)
            · generalize hWg : (wr.drewN n).drewN _ = W2
              have hD2 : Drew wr W2 := by rw [← hWg]; exact .mk2 _ _ _
              clear hWg
              have hO2H := Lib.hid (OwnL.call hOH.out (hD2.below _))
              have hB2H := Lib.hid (bcall hBH.out (hD2.below _))
              obtain ⟨v', W', hrun, ho, hg, -⟩ := OwnL.push (P := Tryz.prog) (t := 29) (ty := 29) hO2H.out Tryz.underlying29 infoStr rfl (vs := [.string ⟨#[]⟩]) (x := ⟨#[]⟩) ⟨rfl, by decide⟩ (by omega) (by unfold big; omega) hB2H.out.size
              obtain ⟨g, cap, rfl, hg1, hg2⟩ := OwnL.form ho (by simp)
              have hll : (L ++ [(⟨#[]⟩ : ByteArray)]).length = L.length + 1 := by simp
              rw [hll] at ho hrun
              obtain ⟨cur, k1, k2, k3, k4, k5⟩ := OwnS.lifted ho hj
              have hcs : ((L.drop j).map Value.string).length = L.length - j := by simp
              obtain ⟨cs, hcsd⟩ : ∃ cs, (L.drop j).map Value.string = cs := ⟨_, rfl⟩
              rw [hcsd] at k3 k4 k5 hcs
              have hone : ∀ u ∈ cs, u.oneCell' = true := fun u hu => by
                rw [← hcsd] at hu
                obtain ⟨y, -, rfl⟩ := List.mem_map.1 hu
                rfl
              have k4' : ∀ q v, cs[q]? = some v → W'.drew.cell? ((⟨g, j, none⟩ : Addr).add q) = some v := fun q v hv => by
                have hadd : (⟨g, j, none⟩ : Addr).add q = ⟨g, j + q, none⟩ := by unfold Addr.add; split <;> simp_all
                rw [hadd]; exact k4 q v hv
              have hcap : L.length + 1 ≤ cap := by
                rcases ho.choose_spec.1.2 with ⟨h0, -⟩ | ⟨g', cap', cur', hv, -, -, h1, -⟩
                · cases h0
                · injection hv with e1 e2 e3
                  subst e3; simpa using h1
              have hBW : Below w.heap.size w W' := hB2H.out.grown hg hB2H.out.size (fun k e => (OwnL.lt hO2H.out k e).1)
              have hk1 := Lib.hid k1
              have hkW := Lib.hid (fun (w3 : World) (h : Hid (w3.heap[g]? = some (.cells (splice cur (j + 1) cs).toArray 9 (0, 0)))) (hb : Below w.heap.size w w3) => by
                have ho3 := k5 w3 h.out
                have hlen3 : L.length + 1 = ((L ++ [(⟨#[]⟩ : ByteArray)]).take (j + 1) ++ L.drop j).length := by simp; omega
                have hc := OwnS.cellAt ho3 hlen3 j (by rw [← hlen3]; omega)
                have hs := OwnS.setAt ho3 hlen3 j x hzxH.out
                rw [ins_set hj] at hs
                exact show (∃ u, w3.cell? ⟨g, j, none⟩ = some u ∧ w3.frozen? ⟨g, j, none⟩ = false) ∧ srRel l w (.int .i64 ((k : Int) + 1)) (.slice (some ⟨g, 0, none⟩) (L.length + 1) cap) (w3.setCell ⟨g, j, none⟩ (.string x)) from
                  ⟨⟨_, hc.1, hc.2⟩, k + 1, L.take j ++ x :: L.drop j, by simp, hlt, hs.1, ins_asc hAH.out hnxH.out hjlH.out hjgH.out, by simp; omega, (fun y => by rw [ins_mem, hmemH.out y, hxtH.out y]; exact Or.comm), hb.grown hs.2 hb.size (fun q e => by injection e with e; omega)⟩)
              clear ho hg k1 k5 hcsd hD2
              go_wp2_with (at_builtin; refine wpList_append_run rfl _ _ _ rfl rfl rfl hrun ?_)
              clear hrun
              have hj2 : j ≤ 2000 := by omega
              have hj3 : (j : Int) + 1 ≤ (L.length : Int) + 1 := by omega
              have hj4 : (j : Int) ≤ (L.length : Int) + 1 := by omega
              have hj5 : 0 ≤ (j : Int) + 1 := by omega
              have hj9 : (j : Int) < (L.length : Int) + 1 := by omega
              have hj6 : 0 ≤ (j : Int) := by omega
              have hj7 : IntKind.i64.wrap ((j : Int) + 1) = (j : Int) + 1 := IntWalk.i64_in _ (by omega)
              have hj8 : ((j : Int) + 1).toNat = j + 1 := by omega
              have hcj : ¬ cap = j := by omega
              by_cases hc1 : cap = j + 1
              · subst hc1
                go_region_law (refine step_copy_splice rfl (.tmp 41) (.tmp 44) 29 29 rfl 9 Tryz.underlying29 (by kernel_rfl) (some ⟨g, 0, none⟩) (some ⟨g, j, none⟩) (L.length + 1 - (j + 1)) (j + 1 - (j + 1)) (L.length + 1 - j) (j + 1 - j) (by simp [Act.eval, Act.put] <;> omega) (by simp [Act.eval, Act.put] <;> omega) g (j + 1) cur 9 hk1.out cs (by rw [hcs]; show L.length - j = min (L.length + 1 - j) (L.length + 1 - (j + 1)); omega) (fun h0 => by omega) k3 hone w.heap.size w (Below.drew hBW) k2 ?_; intro w4 hg4 hb4)
                obtain ⟨⟨uu, e1, e2⟩, hf⟩ := hkW.out w4 hg4 hb4
                obtain ⟨b', o', hae, -, qx4, -⟩ := (hlH.out.below hb4).str k hlt
                have hae' : b' = b ∧ o' = o := by simpa using hae.symm
                obtain ⟨rfl, rfl⟩ := hae'
                rw [hxH.out] at qx4
                have hfH := Lib.hid hf
                clear hf hg4 hb4 hkW hk1 k3 k4' hone hcs k4 hBW
                go_wp2_with fail
                go_roundw
                case rel => exact hfH.out
                case measure => simp [intOf]; omega
              · go_region_law (refine step_copy_splice rfl (.tmp 41) (.tmp 44) 29 29 rfl 9 Tryz.underlying29 (by kernel_rfl) (some ⟨g, j + 1, none⟩) (some ⟨g, j, none⟩) (L.length + 1 - (j + 1)) (cap - (j + 1)) (L.length + 1 - j) (cap - j) (by simp [Act.eval, Act.put] <;> omega) (by simp [Act.eval, Act.put] <;> omega) g (j + 1) cur 9 hk1.out cs (by rw [hcs]; show L.length - j = min (L.length + 1 - j) (L.length + 1 - (j + 1)); omega) (fun h0 => ⟨rfl, _, rfl, k4'⟩) k3 hone w.heap.size w (Below.drew hBW) k2 ?_; intro w4 hg4 hb4)
                obtain ⟨⟨uu, e1, e2⟩, hf⟩ := hkW.out w4 hg4 hb4
                obtain ⟨b', o', hae, -, qx4, -⟩ := (hlH.out.below hb4).str k hlt
                have hae' : b' = b ∧ o' = o := by simpa using hae.symm
                obtain ⟨rfl, rfl⟩ := hae'
                rw [hxH.out] at qx4
                have hfH := Lib.hid hf
                clear hf hg4 hb4 hkW hk1 k3 k4' hone hcs k4 hBW
                go_wp2_with fail
                go_roundw
                case rel => exact hfH.out
                case measure => simp [intOf]; omega
    · have hkk : ((k : Int) < (l.length : Int)) = False := eq_false (by omega)
      have hkl : k = l.length := by omega
      rw [hkl, List.take_length] at hmem
      have hfin := Lib.hid (fun v (hv : OwnS wr w.heap.size v L) => show SortedOut w (memB l) (.returned v) wr from ⟨v, L, rfl, hv, hA, fun y => by rw [hmem y, memB_iff], hB⟩)
      have hOH := Lib.hid hO
      clear hO hA hmem hB hlt hk hkl
      go_wp2_with fail
      go_ret
      exact hfin.out _ hOH.out
end Go.Proofs.YtpmnnoopoblpgaaGreat


/- Walks: Index, Givens of the reference; blocked. -/
namespace Go.Proofs.YtpmnnoopoblpgaaGreat
open Go Go.RowKit Go.Maps

/-- where a name stands, -1 if it is not there -/
def ixN (l : List Ent) (n : ByteArray) : Int := match atN l n with | some i => (i : Int) | none => -1
theorem ixN_some' {l : List Ent} {n : ByteArray} {j : Nat} (h : atN l n = some j) : ixN l n = j := by unfold ixN; rw [h]
theorem ixN_none' {l : List Ent} {n : ByteArray} (h : atN l n = none) : ixN l n = -1 := by unfold ixN; rw [h]
theorem ixN_idx (l : List Ent) (n : ByteArray) : ixN l n = idxE l (fun x => decide (eNm x = n)) := rfl
def rixRel (l : List Ent) (n : ByteArray) (w : World) (i : Value) (wr : World) : Prop := ∃ k : Nat, i = .int .i64 k ∧ k ≤ l.length ∧ (∀ j (hj : j < k) (hl : j < l.length), eNm l[j] ≠ n) ∧ w = wr
set_option maxHeartbeats 1000000 in
theorem rIndex_any {S : Nat → Prop} (a : Option Addr) (c : Nat) (l : List Ent) (n : ByteArray) (w : World) (h : LibL S w a c l) :
    Calls Tryz.prog 14 #[.slice a l.length c, .string n] w fun e w' => e = .returned (.int .i64 (ixN l n)) ∧ w = w' := by
  have m := h.le
  have hH := Lib.hid h
  clear h
  go_enter Tryz.func14, Tryz.ntmps14
  go_wp2_with fail
  go_loopw [5] (fun i wr => rixRel l n w i wr) (fun i _ => l.length - (intOf i).toNat)
  case atStart => exact ⟨0, rfl, Nat.zero_le _, fun j hj => by omega, rfl⟩
  case round =>
    obtain ⟨k, rfl, hk, hno, rfl⟩ := hrel
    by_cases hlt : k < l.length
    · obtain ⟨b, off, a1, c1, a2, c2, a3, c3, rfl, hbB, p0, p1, p2, p3, p4, z1, z2, hI, hU, hP⟩ := hH.out.ent k hlt
      clear p1 p2 p3 p4 hI hU hP z2
      obtain ⟨x, hx⟩ : ∃ x, eNm l[k] = x := ⟨_, rfl⟩
      rw [hx] at p0 z1
      by_cases he : x = n
      · have hq := str_eq he
        have hfin := Lib.hid (show ixN l n = k by rw [ixN_idx]; exact idxE_some hlt (fun j hj => decide_eq_false (hno j hj (by omega))) (decide_eq_true (hx.trans he)))
        clear hno hx he
        go_wp2_with fail
        go_ret
        first | exact ⟨ret_int hfin.out.symm, rfl⟩ | exact ⟨ret_int hfin.out.symm, trivial⟩
      · have hq := str_neq he
        have hfin := Lib.hid (show rixRel l n w (.int .i64 ((k : Int) + 1)) w from ⟨k + 1, by simp, hlt, fun j hj hl => by
          by_cases e : j = k
          · subst e; rw [hx]; exact he
          · exact hno j (by omega) hl, rfl⟩)
        clear hno hx he
        go_wp2_with fail
        go_roundw
        case rel => exact hfin.out
        case measure => simp [intOf]; omega
    · have hkk : ((k : Int) < (l.length : Int)) = False := eq_false (by omega)
      have hfin := Lib.hid (show ixN l n = -1 by rw [ixN_idx]; exact idxE_none (fun j hj => decide_eq_false (hno j (by omega) hj)))
      clear hno hlt hk
      go_wp2_with fail
      go_ret
      first | exact ⟨ret_int hfin.out.symm, rfl⟩ | exact ⟨ret_int hfin.out.symm, trivial⟩
end Go.Proofs.YtpmnnoopoblpgaaGreat

/- Walks: missing of the reference. -/
namespace Go.Proofs.YtpmnnoopoblpgaaGreat
open Go Go.RowKit Go.Maps

end Go.Proofs.YtpmnnoopoblpgaaGreat

/- Walks: Valid, Find, Missing of the reference. -/
namespace Go.Proofs.YtpmnnoopoblpgaaGreat
open Go Go.RowKit Go.Maps

def rvlRel (s : Sg) (l : List Ent) (w : World) (i : Value) (wr : World) : Prop := ∃ k : Nat, i = .int .i64 k ∧ k ≤ l.length ∧ (l.take k).all (okEnt s) = true ∧ ((l.take k).map eNm).Nodup ∧ Below w.heap.size w wr
theorem okLib_bad1 {s : Sg} {l : List Ent} {k : Nat} (hk : k < l.length) (h : okEnt s l[k] = false) : okLib s l = false := by
  have : l.all (okEnt s) = false := by rw [List.all_eq_false]; exact ⟨l[k], List.getElem_mem hk, by rw [h]; simp⟩
  unfold okLib; rw [this]; simp
theorem okLib_bad2 {s : Sg} {l : List Ent} {k j : Nat} (hk : k < l.length) (h : atN (l.take k) (eNm l[k]) = some j) : okLib s l = false := by
  obtain ⟨hj, e⟩ := atN_some h
  rw [List.length_take] at hj
  rw [List.getElem_take] at e
  have : ¬ (l.map eNm).Nodup := fun hd => by
    have := (List.getElem_inj (xs := l.map eNm) (i := j) (j := k) (h₀ := by rw [List.length_map]; omega) (h₁ := by rw [List.length_map]; exact hk) hd).1 (by rw [List.getElem_map, List.getElem_map]; exact e)
    omega
  unfold okLib; rw [decide_eq_false this]; simp
theorem okLib_next {s : Sg} {l : List Ent} {k : Nat} (hk : k < l.length) (hall : (l.take k).all (okEnt s) = true) (hnd : ((l.take k).map eNm).Nodup) (h : okEnt s l[k] = true) (hat : atN (l.take k) (eNm l[k]) = none) :
    (l.take (k + 1)).all (okEnt s) = true ∧ ((l.take (k + 1)).map eNm).Nodup := by
  rw [List.take_succ_eq_append_getElem hk, List.all_append, hall, List.map_append]
  refine ⟨by simpa using h, ?_⟩
  rw [List.nodup_append]
  refine ⟨hnd, by simp, fun a ha b hb e => ?_⟩
  obtain ⟨x, hx, e1⟩ := List.mem_map.1 ha
  simp at hb
  exact atN_none hat x hx (by rw [e1, e, hb])
set_option maxRecDepth 100000 in
set_option maxHeartbeats 8000000 in
theorem rVld_any {S1 S2 : Nat → Prop} (sa la : Option Addr) (sc lc : Nat) (s : Sg) (l : List Ent) (w : World) (h1 : Sign S1 w sa sc s) (h2 : LibL S2 w la lc l) :
    Calls Tryz.prog 27 #[.slice sa s.length sc, .slice la l.length lc] w fun e w' => e = .returned (.bool (okLib s l)) ∧ Below w.heap.size w w' := by
  have m := h2.le
  have m1 := h1.le
  have vs := rValidSign_any sa sc s w h1
  have h1H := Lib.hid h1
  have h2H := Lib.hid h2
  clear h1 h2
  cases hs : okSign s with
  | false =>
    rw [hs] at vs
    have vsH := Lib.hid vs
    have hf := Lib.hid (show okLib s l = false by unfold okLib; rw [hs]; rfl)
    clear vs hs
    go_enter Tryz.func27, Tryz.ntmps27
    go_wp2_with fail
    refine vsH.out.mono ?_
    rintro e w1 ⟨rfl, hd⟩
    have hB := Lib.hid (hd.below w.heap.size)
    clear hd
    go_wp2_with fail
    go_ret
    exact ⟨ret_bool hf.out.symm, hB.out⟩
  | true =>
  rw [hs] at vs
  have vsH := Lib.hid vs
  have hsH := Lib.hid hs
  clear vs hs
  by_cases h60 : l.length ≤ 60
  · have h60i : ((60 : Int) < (l.length : Int)) = False := eq_false (by omega)
    go_enter Tryz.func27, Tryz.ntmps27
    go_wp2_with fail
    refine vsH.out.mono ?_
    rintro e w1 ⟨rfl, hd⟩
    have hB := Lib.hid (hd.below w.heap.size)
    clear hd
    go_wp2_with fail
    go_loopw [5] (fun i wr => rvlRel s l w i wr) (fun i _ => l.length - (intOf i).toNat)
    case atStart => exact ⟨0, rfl, Nat.zero_le _, rfl, by simp, hB.out⟩
    case round =>
      obtain ⟨k, rfl, hk, hall, hnd, hBr⟩ := hrel
      by_cases hlt : k < l.length
      · obtain ⟨b, off, a1, c1, a2, c2, a3, c3, rfl, -, p0, p1, p2, p3, p4, z1, z2, hI, hU, hP⟩ := (h2H.out.below hBr).ent k hlt
        have hcap := h2H.out.cap
        have hkc : (k : Int) ≤ (lc : Int) := by omega
        have hlc0 : ¬ lc = 0 := by omega
        have hkk : (k : Int) < (l.length : Int) := by omega
        have hk0 : (0 : Int) ≤ (k : Int) := by omega
        have hlt2 : (l.take k).length = k := by rw [List.length_take]; omega
        have ve := fun W (hb : Below wr.heap.size wr W) => rValidEntry_any sa sc s l[k] a1 a2 a3 c1 c2 c3 W ((h1H.out.below hBr).below hb) z1 z2 (hI.below hb) (hU.below hb) (hP.below hb)
        have vi := fun W (hb : Below wr.heap.size wr W) => rIndex_any (some ⟨b, off, none⟩) lc (l.take k) (eNm l[k]) W (((h2H.out.pre k).below hBr).below hb)
        simp only [hlt2] at vi
        have hbad := okLib_bad1 (s := s) hlt
        have hbad2 := fun j => okLib_bad2 (s := s) (j := j) hlt
        have hnx := fun h hat => okLib_next hlt hall hnd h hat
        have hixs := fun j (h : atN (l.take k) (eNm l[k]) = some j) => ixN_some' h
        have hixn := fun (h : atN (l.take k) (eNm l[k]) = none) => ixN_none' h
        have hbd : Below wr.heap.size wr wr.drew := Below.drew (.refl _ _)
        have hS0 := (⟨cell_later hbd p0, cell_later hbd p1, cell_later hbd p2, cell_later hbd p3, cell_later hbd p4⟩ : wr.drew.cell? ⟨b, off + k * 5, none⟩ = some (.string (eNm l[k])) ∧ wr.drew.cell? ⟨b, off + k * 5 + 1, none⟩ = some (.string (eBy l[k])) ∧ wr.drew.cell? ⟨b, off + k * 5 + 2, none⟩ = some (.slice a1 (eSays l[k]).length c1) ∧ wr.drew.cell? ⟨b, off + k * 5 + 3, none⟩ = some (.slice a2 (eUses l[k]).length c2) ∧ wr.drew.cell? ⟨b, off + k * 5 + 4, none⟩ = some (.slice a3 (ePf l[k]).length c3))
        have hBrH := Lib.hid hBr
        have hixsH := Lib.hid hixs
        have hixnH := Lib.hid hixn
        have hnxH := Lib.hid hnx
        have hbadH := Lib.hid hbad
        have hbad2H := Lib.hid hbad2
        have viF := Lib.hid vi
        have veH := Lib.hid ve
        clear hall hnd hBr hI hU hP z1 z2 ve vi hbad hbad2 hnx hixs hixn p0 p1 p2 p3 p4 hlt2 hcap
        generalize atN (l.take k) (eNm l[k]) = at_ at *
        generalize ixN (l.take k) (eNm l[k]) = ix at *
        generalize okEnt s l[k] = ok at *
        generalize eNm l[k] = nm at *
        generalize eBy l[k] = bn at *
        generalize (eSays l[k]).length = n1 at *
        generalize (eUses l[k]).length = n2 at *
        generalize (ePf l[k]).length = n3 at *
        cases ok with
        | false =>
          go_wp2_with fail
          refine wp_region_held_drew (S := fun w' => w'.cell? ⟨b, off + k * 5, none⟩ = some (.string nm) ∧ w'.cell? ⟨b, off + k * 5 + 1, none⟩ = some (.string bn) ∧ w'.cell? ⟨b, off + k * 5 + 2, none⟩ = some (.slice a1 n1 c1) ∧ w'.cell? ⟨b, off + k * 5 + 3, none⟩ = some (.slice a2 n2 c2) ∧ w'.cell? ⟨b, off + k * 5 + 4, none⟩ = some (.slice a3 n3 c3)) (by kernel_rfl) hS0 (fun hS => ?_)
          refine region_take 0 (some 20) (v := ?_) rfl rfl (by kernel_rfl) (by kernel_rfl) (by kernel_rfl) (fun _ _ _ h => h) rfl ?_ hS ?_
          rotate_left
          · (intro w9 hS9; obtain ⟨z0, z1, z2, z3, z4⟩ := hS9; go_simp; try (with_reducible rfl))
          simp only [Act.put, List.setIfInBounds_toArray, List.set_cons_zero, List.set_cons_succ]
          refine region_take 1 (some 21) (v := ?_) rfl rfl (by kernel_rfl) (by kernel_rfl) (by kernel_rfl) (fun _ _ _ h => h) rfl ?_ hS ?_
          rotate_left
          · (intro w9 hS9; obtain ⟨z0, z1, z2, z3, z4⟩ := hS9; go_simp; try (with_reducible rfl))
          simp only [Act.put, List.setIfInBounds_toArray, List.set_cons_zero, List.set_cons_succ]
          refine region_take 2 (some 22) (v := ?_) rfl rfl (by kernel_rfl) (by kernel_rfl) (by kernel_rfl) (fun _ _ _ h => h) rfl ?_ hS ?_
          rotate_left
          · (intro w9 hS9; obtain ⟨z0, z1, z2, z3, z4⟩ := hS9; go_simp; try (with_reducible rfl))
          simp only [Act.put, List.setIfInBounds_toArray, List.set_cons_zero, List.set_cons_succ]
          refine region_take 3 (some 23) (v := ?_) rfl rfl (by kernel_rfl) (by kernel_rfl) (by kernel_rfl) (fun _ _ _ h => h) rfl ?_ hS ?_
          rotate_left
          · (intro w9 hS9; obtain ⟨z0, z1, z2, z3, z4⟩ := hS9; go_simp; try (with_reducible rfl))
          simp only [Act.put, List.setIfInBounds_toArray, List.set_cons_zero, List.set_cons_succ]
          refine region_take 4 (some 24) (v := ?_) rfl rfl (by kernel_rfl) (by kernel_rfl) (by kernel_rfl) (fun _ _ _ h => h) rfl ?_ hS ?_
          rotate_left
          · (intro w9 hS9; obtain ⟨z0, z1, z2, z3, z4⟩ := hS9; go_simp; try (with_reducible rfl))
          simp only [Act.put, List.setIfInBounds_toArray, List.set_cons_zero, List.set_cons_succ]
          refine region_call 5 rfl (by kernel_rfl) (fun K hK => ?_)
          go_simp
          (with_reducible refine (veH.out _ hbd).mono ?_)
          rintro e w5 ⟨rfl, hb5⟩
          go_simp
          refine hK.out _ _ ⟨cell_later hb5 hS.1, cell_later hb5 hS.2.1, cell_later hb5 hS.2.2.1, cell_later hb5 hS.2.2.2.1, cell_later hb5 hS.2.2.2.2⟩ ?_
          clear hK hS K
          intro hS
          try simp only [Act.put, List.setIfInBounds_toArray, List.set_cons_zero, List.set_cons_succ]
          have hB5 := Lib.hid (bcall hBrH.out (bcall hbd hb5))
          have hW5 := Lib.hid (bcall hbd hb5)
          clear hb5
          refine region_take 6 (some 26) (v := ?_) rfl rfl (by kernel_rfl) (by kernel_rfl) (by kernel_rfl) (fun _ _ _ h => h) rfl ?_ hS ?_
          rotate_left
          · (intro w9 hS9; obtain ⟨z0, z1, z2, z3, z4⟩ := hS9; go_simp; try (with_reducible rfl))
          simp only [Act.put, List.setIfInBounds_toArray, List.set_cons_zero, List.set_cons_succ]
          refine region_take 7 (some 27) (v := ?_) rfl rfl (by kernel_rfl) (by kernel_rfl) (by kernel_rfl) (fun _ _ _ h => h) rfl ?_ hS ?_
          rotate_left
          · (intro w9 hS9; obtain ⟨z0, z1, z2, z3, z4⟩ := hS9; go_simp; try (with_reducible rfl))
          simp only [Act.put, List.setIfInBounds_toArray, List.set_cons_zero, List.set_cons_succ]
          refine region_skip 8 (some 28) rfl rfl (by kernel_rfl) (by kernel_rfl) (by kernel_rfl) (fun _ _ _ h => h) rfl hS ?_
          simp only [Act.put, List.setIfInBounds_toArray, List.set_cons_zero, List.set_cons_succ]
          refine region_skip 9 (some 29) rfl rfl (by kernel_rfl) (by kernel_rfl) (by kernel_rfl) (fun _ _ _ h => h) rfl hS ?_
          simp only [Act.put, List.setIfInBounds_toArray, List.set_cons_zero, List.set_cons_succ]
          refine region_skip 10 (some 30) rfl rfl (by kernel_rfl) (by kernel_rfl) (by kernel_rfl) (fun _ _ _ h => h) rfl hS ?_
          simp only [Act.put, List.setIfInBounds_toArray, List.set_cons_zero, List.set_cons_succ]
          refine region_skip 11 (some 31) rfl rfl (by kernel_rfl) (by kernel_rfl) (by kernel_rfl) (fun _ _ _ h => h) rfl hS ?_
          simp only [Act.put, List.setIfInBounds_toArray, List.set_cons_zero, List.set_cons_succ]
          refine region_skip 12 (some 32) rfl rfl (by kernel_rfl) (by kernel_rfl) (by kernel_rfl) (fun _ _ _ h => h) rfl hS ?_
          simp only [Act.put, List.setIfInBounds_toArray, List.set_cons_zero, List.set_cons_succ]
          refine region_skip 13 (some 33) rfl rfl (by kernel_rfl) (by kernel_rfl) (by kernel_rfl) (fun _ _ _ h => h) rfl hS ?_
          simp only [Act.put, List.setIfInBounds_toArray, List.set_cons_zero, List.set_cons_succ]
          refine region_skip 14 (some 34) rfl rfl (by kernel_rfl) (by kernel_rfl) (by kernel_rfl) (fun _ _ _ h => h) rfl hS ?_
          simp only [Act.put, List.setIfInBounds_toArray, List.set_cons_zero, List.set_cons_succ]
          refine region_skip 15 (some 35) rfl rfl (by kernel_rfl) (by kernel_rfl) (by kernel_rfl) (fun _ _ _ h => h) rfl hS ?_
          simp only [Act.put, List.setIfInBounds_toArray, List.set_cons_zero, List.set_cons_succ]
          refine region_skip 16 (some 36) rfl rfl (by kernel_rfl) (by kernel_rfl) (by kernel_rfl) (fun _ _ _ h => h) rfl hS ?_
          simp only [Act.put, List.setIfInBounds_toArray, List.set_cons_zero, List.set_cons_succ]
          refine region_skip 17 (some 37) rfl rfl (by kernel_rfl) (by kernel_rfl) (by kernel_rfl) (fun _ _ _ h => h) rfl hS ?_
          simp only [Act.put, List.setIfInBounds_toArray, List.set_cons_zero, List.set_cons_succ]
          refine region_take 18 (some 38) (v := ?_) rfl rfl (by kernel_rfl) (by kernel_rfl) (by kernel_rfl) (fun _ _ _ h => h) rfl ?_ hS ?_
          rotate_left
          · (intro w9 hS9; obtain ⟨z0, z1, z2, z3, z4⟩ := hS9; go_simp; try (with_reducible rfl))
          simp only [Act.put, List.setIfInBounds_toArray, List.set_cons_zero, List.set_cons_succ]
          refine wpAnyH_done (by kernel_rfl) ?_ _
          clear hS
          go_wp2_with fail
          go_ret
          exact ⟨ret_bool (hbadH.out (by simp)).symm, hB5.out⟩
        | true =>
          cases at_ with
          | none =>
            have hix := hixnH.out rfl
            subst hix
            have hnx := Lib.hid (fun W hb => (show rvlRel s l w (.int .i64 ((k : Int) + 1)) W from ⟨k + 1, by simp, hlt, (hnxH.out rfl rfl).1, (hnxH.out rfl rfl).2, hb⟩))
            clear hixsH hixnH hnxH hbad2H hbadH
            go_wp2_with fail
            refine wp_region_held_drew (S := fun w' => w'.cell? ⟨b, off + k * 5, none⟩ = some (.string nm) ∧ w'.cell? ⟨b, off + k * 5 + 1, none⟩ = some (.string bn) ∧ w'.cell? ⟨b, off + k * 5 + 2, none⟩ = some (.slice a1 n1 c1) ∧ w'.cell? ⟨b, off + k * 5 + 3, none⟩ = some (.slice a2 n2 c2) ∧ w'.cell? ⟨b, off + k * 5 + 4, none⟩ = some (.slice a3 n3 c3)) (by kernel_rfl) hS0 (fun hS => ?_)
            refine region_take 0 (some 20) (v := ?_) rfl rfl (by kernel_rfl) (by kernel_rfl) (by kernel_rfl) (fun _ _ _ h => h) rfl ?_ hS ?_
            rotate_left
            · (intro w9 hS9; obtain ⟨z0, z1, z2, z3, z4⟩ := hS9; go_simp; try (with_reducible rfl))
            simp only [Act.put, List.setIfInBounds_toArray, List.set_cons_zero, List.set_cons_succ]
            refine region_take 1 (some 21) (v := ?_) rfl rfl (by kernel_rfl) (by kernel_rfl) (by kernel_rfl) (fun _ _ _ h => h) rfl ?_ hS ?_
            rotate_left
            · (intro w9 hS9; obtain ⟨z0, z1, z2, z3, z4⟩ := hS9; go_simp; try (with_reducible rfl))
            simp only [Act.put, List.setIfInBounds_toArray, List.set_cons_zero, List.set_cons_succ]
            refine region_take 2 (some 22) (v := ?_) rfl rfl (by kernel_rfl) (by kernel_rfl) (by kernel_rfl) (fun _ _ _ h => h) rfl ?_ hS ?_
            rotate_left
            · (intro w9 hS9; obtain ⟨z0, z1, z2, z3, z4⟩ := hS9; go_simp; try (with_reducible rfl))
            simp only [Act.put, List.setIfInBounds_toArray, List.set_cons_zero, List.set_cons_succ]
            refine region_take 3 (some 23) (v := ?_) rfl rfl (by kernel_rfl) (by kernel_rfl) (by kernel_rfl) (fun _ _ _ h => h) rfl ?_ hS ?_
            rotate_left
            · (intro w9 hS9; obtain ⟨z0, z1, z2, z3, z4⟩ := hS9; go_simp; try (with_reducible rfl))
            simp only [Act.put, List.setIfInBounds_toArray, List.set_cons_zero, List.set_cons_succ]
            refine region_take 4 (some 24) (v := ?_) rfl rfl (by kernel_rfl) (by kernel_rfl) (by kernel_rfl) (fun _ _ _ h => h) rfl ?_ hS ?_
            rotate_left
            · (intro w9 hS9; obtain ⟨z0, z1, z2, z3, z4⟩ := hS9; go_simp; try (with_reducible rfl))
            simp only [Act.put, List.setIfInBounds_toArray, List.set_cons_zero, List.set_cons_succ]
            refine region_call 5 rfl (by kernel_rfl) (fun K hK => ?_)
            go_simp
            (with_reducible refine (veH.out _ hbd).mono ?_)
            rintro e w5 ⟨rfl, hb5⟩
            go_simp
            refine hK.out _ _ ⟨cell_later hb5 hS.1, cell_later hb5 hS.2.1, cell_later hb5 hS.2.2.1, cell_later hb5 hS.2.2.2.1, cell_later hb5 hS.2.2.2.2⟩ ?_
            clear hK hS K
            intro hS
            try simp only [Act.put, List.setIfInBounds_toArray, List.set_cons_zero, List.set_cons_succ]
            have hB5 := Lib.hid (bcall hBrH.out (bcall hbd hb5))
            have hW5 := Lib.hid (bcall hbd hb5)
            clear hb5
            refine region_take 6 (some 26) (v := ?_) rfl rfl (by kernel_rfl) (by kernel_rfl) (by kernel_rfl) (fun _ _ _ h => h) rfl ?_ hS ?_
            rotate_left
            · (intro w9 hS9; obtain ⟨z0, z1, z2, z3, z4⟩ := hS9; go_simp; try (with_reducible rfl))
            simp only [Act.put, List.setIfInBounds_toArray, List.set_cons_zero, List.set_cons_succ]
            refine region_take 7 (some 27) (v := ?_) rfl rfl (by kernel_rfl) (by kernel_rfl) (by kernel_rfl) (fun _ _ _ h => h) rfl ?_ hS ?_
            rotate_left
            · (intro w9 hS9; obtain ⟨z0, z1, z2, z3, z4⟩ := hS9; go_simp; try (with_reducible rfl))
            simp only [Act.put, List.setIfInBounds_toArray, List.set_cons_zero, List.set_cons_succ]
            refine region_take 8 (some 28) (v := ?_) rfl rfl (by kernel_rfl) (by kernel_rfl) (by kernel_rfl) (fun _ _ _ h => h) rfl ?_ hS ?_
            rotate_left
            · (intro w9 hS9; obtain ⟨z0, z1, z2, z3, z4⟩ := hS9; go_simp; try (with_reducible rfl))
            simp only [Act.put, List.setIfInBounds_toArray, List.set_cons_zero, List.set_cons_succ]
            refine region_take 9 (some 29) (v := ?_) rfl rfl (by kernel_rfl) (by kernel_rfl) (by kernel_rfl) (fun _ _ _ h => h) rfl ?_ hS ?_
            rotate_left
            · (intro w9 hS9; obtain ⟨z0, z1, z2, z3, z4⟩ := hS9; go_simp; try (with_reducible rfl))
            simp only [Act.put, List.setIfInBounds_toArray, List.set_cons_zero, List.set_cons_succ]
            refine region_take 10 (some 30) (v := ?_) rfl rfl (by kernel_rfl) (by kernel_rfl) (by kernel_rfl) (fun _ _ _ h => h) rfl ?_ hS ?_
            rotate_left
            · (intro w9 hS9; obtain ⟨z0, z1, z2, z3, z4⟩ := hS9; go_simp; try (with_reducible rfl))
            simp only [Act.put, List.setIfInBounds_toArray, List.set_cons_zero, List.set_cons_succ]
            refine region_take 11 (some 31) (v := ?_) rfl rfl (by kernel_rfl) (by kernel_rfl) (by kernel_rfl) (fun _ _ _ h => h) rfl ?_ hS ?_
            rotate_left
            · (intro w9 hS9; obtain ⟨z0, z1, z2, z3, z4⟩ := hS9; go_simp; try (with_reducible rfl))
            simp only [Act.put, List.setIfInBounds_toArray, List.set_cons_zero, List.set_cons_succ]
            refine region_take 12 (some 32) (v := ?_) rfl rfl (by kernel_rfl) (by kernel_rfl) (by kernel_rfl) (fun _ _ _ h => h) rfl ?_ hS ?_
            rotate_left
            · (intro w9 hS9; obtain ⟨z0, z1, z2, z3, z4⟩ := hS9; go_simp; try (with_reducible rfl))
            simp only [Act.put, List.setIfInBounds_toArray, List.set_cons_zero, List.set_cons_succ]
            refine region_take 13 (some 33) (v := ?_) rfl rfl (by kernel_rfl) (by kernel_rfl) (by kernel_rfl) (fun _ _ _ h => h) rfl ?_ hS ?_
            rotate_left
            · (intro w9 hS9; obtain ⟨z0, z1, z2, z3, z4⟩ := hS9; go_simp; try (with_reducible rfl))
            simp only [Act.put, List.setIfInBounds_toArray, List.set_cons_zero, List.set_cons_succ]
            refine region_take 14 (some 34) (v := ?_) rfl rfl (by kernel_rfl) (by kernel_rfl) (by kernel_rfl) (fun _ _ _ h => h) rfl ?_ hS ?_
            rotate_left
            · (intro w9 hS9; obtain ⟨z0, z1, z2, z3, z4⟩ := hS9; go_simp; try (with_reducible rfl))
            simp only [Act.put, List.setIfInBounds_toArray, List.set_cons_zero, List.set_cons_succ]
            refine region_take 15 (some 35) (v := ?_) rfl rfl (by kernel_rfl) (by kernel_rfl) (by kernel_rfl) (fun _ _ _ h => h) rfl ?_ hS ?_
            rotate_left
            · (intro w9 hS9; obtain ⟨z0, z1, z2, z3, z4⟩ := hS9; go_simp; try (with_reducible rfl))
            simp only [Act.put, List.setIfInBounds_toArray, List.set_cons_zero, List.set_cons_succ]
            have viH := Lib.hid (viF.out w5 hW5.out)
            refine region_call 16 rfl (by kernel_rfl) (fun K hK => ?_)
            go_simp
            (with_reducible refine viH.out.mono ?_)
            rintro e w6 ⟨rfl, rfl⟩
            go_simp
            refine hK.out _ _ hS ?_
            clear hK hS K
            intro hS
            try simp only [Act.put, List.setIfInBounds_toArray, List.set_cons_zero, List.set_cons_succ]
            refine region_take 17 (some 37) (v := ?_) rfl rfl (by kernel_rfl) (by kernel_rfl) (by kernel_rfl) (fun _ _ _ h => h) rfl ?_ hS ?_
            rotate_left
            · (intro w9 hS9; obtain ⟨z0, z1, z2, z3, z4⟩ := hS9; go_simp; try (with_reducible rfl))
            simp only [Act.put, List.setIfInBounds_toArray, List.set_cons_zero, List.set_cons_succ]
            refine region_take 18 (some 38) (v := ?_) rfl rfl (by kernel_rfl) (by kernel_rfl) (by kernel_rfl) (fun _ _ _ h => h) rfl ?_ hS ?_
            rotate_left
            · (intro w9 hS9; obtain ⟨z0, z1, z2, z3, z4⟩ := hS9; go_simp; try (with_reducible rfl))
            simp only [Act.put, List.setIfInBounds_toArray, List.set_cons_zero, List.set_cons_succ]
            refine wpAnyH_done (by kernel_rfl) ?_ _
            clear hS
            go_wp2_with fail
            go_roundw
            case rel => exact hnx.out _ hB5.out
            case measure => simp [intOf]; omega
          | some j =>
            have hix := hixsH.out j rfl
            subst hix
            have hbd2 := Lib.hid (hbad2H.out j rfl)
            have hjj : (0 : Int) ≤ (j : Int) := by omega
            clear hixsH hixnH hnxH hbad2H hbadH
            go_wp2_with fail
            refine wp_region_held_drew (S := fun w' => w'.cell? ⟨b, off + k * 5, none⟩ = some (.string nm) ∧ w'.cell? ⟨b, off + k * 5 + 1, none⟩ = some (.string bn) ∧ w'.cell? ⟨b, off + k * 5 + 2, none⟩ = some (.slice a1 n1 c1) ∧ w'.cell? ⟨b, off + k * 5 + 3, none⟩ = some (.slice a2 n2 c2) ∧ w'.cell? ⟨b, off + k * 5 + 4, none⟩ = some (.slice a3 n3 c3)) (by kernel_rfl) hS0 (fun hS => ?_)
            refine region_take 0 (some 20) (v := ?_) rfl rfl (by kernel_rfl) (by kernel_rfl) (by kernel_rfl) (fun _ _ _ h => h) rfl ?_ hS ?_
            rotate_left
            · (intro w9 hS9; obtain ⟨z0, z1, z2, z3, z4⟩ := hS9; go_simp; try (with_reducible rfl))
            simp only [Act.put, List.setIfInBounds_toArray, List.set_cons_zero, List.set_cons_succ]
            refine region_take 1 (some 21) (v := ?_) rfl rfl (by kernel_rfl) (by kernel_rfl) (by kernel_rfl) (fun _ _ _ h => h) rfl ?_ hS ?_
            rotate_left
            · (intro w9 hS9; obtain ⟨z0, z1, z2, z3, z4⟩ := hS9; go_simp; try (with_reducible rfl))
            simp only [Act.put, List.setIfInBounds_toArray, List.set_cons_zero, List.set_cons_succ]
            refine region_take 2 (some 22) (v := ?_) rfl rfl (by kernel_rfl) (by kernel_rfl) (by kernel_rfl) (fun _ _ _ h => h) rfl ?_ hS ?_
            rotate_left
            · (intro w9 hS9; obtain ⟨z0, z1, z2, z3, z4⟩ := hS9; go_simp; try (with_reducible rfl))
            simp only [Act.put, List.setIfInBounds_toArray, List.set_cons_zero, List.set_cons_succ]
            refine region_take 3 (some 23) (v := ?_) rfl rfl (by kernel_rfl) (by kernel_rfl) (by kernel_rfl) (fun _ _ _ h => h) rfl ?_ hS ?_
            rotate_left
            · (intro w9 hS9; obtain ⟨z0, z1, z2, z3, z4⟩ := hS9; go_simp; try (with_reducible rfl))
            simp only [Act.put, List.setIfInBounds_toArray, List.set_cons_zero, List.set_cons_succ]
            refine region_take 4 (some 24) (v := ?_) rfl rfl (by kernel_rfl) (by kernel_rfl) (by kernel_rfl) (fun _ _ _ h => h) rfl ?_ hS ?_
            rotate_left
            · (intro w9 hS9; obtain ⟨z0, z1, z2, z3, z4⟩ := hS9; go_simp; try (with_reducible rfl))
            simp only [Act.put, List.setIfInBounds_toArray, List.set_cons_zero, List.set_cons_succ]
            refine region_call 5 rfl (by kernel_rfl) (fun K hK => ?_)
            go_simp
            (with_reducible refine (veH.out _ hbd).mono ?_)
            rintro e w5 ⟨rfl, hb5⟩
            go_simp
            refine hK.out _ _ ⟨cell_later hb5 hS.1, cell_later hb5 hS.2.1, cell_later hb5 hS.2.2.1, cell_later hb5 hS.2.2.2.1, cell_later hb5 hS.2.2.2.2⟩ ?_
            clear hK hS K
            intro hS
            try simp only [Act.put, List.setIfInBounds_toArray, List.set_cons_zero, List.set_cons_succ]
            have hB5 := Lib.hid (bcall hBrH.out (bcall hbd hb5))
            have hW5 := Lib.hid (bcall hbd hb5)
            clear hb5
            refine region_take 6 (some 26) (v := ?_) rfl rfl (by kernel_rfl) (by kernel_rfl) (by kernel_rfl) (fun _ _ _ h => h) rfl ?_ hS ?_
            rotate_left
            · (intro w9 hS9; obtain ⟨z0, z1, z2, z3, z4⟩ := hS9; go_simp; try (with_reducible rfl))
            simp only [Act.put, List.setIfInBounds_toArray, List.set_cons_zero, List.set_cons_succ]
            refine region_take 7 (some 27) (v := ?_) rfl rfl (by kernel_rfl) (by kernel_rfl) (by kernel_rfl) (fun _ _ _ h => h) rfl ?_ hS ?_
            rotate_left
            · (intro w9 hS9; obtain ⟨z0, z1, z2, z3, z4⟩ := hS9; go_simp; try (with_reducible rfl))
            simp only [Act.put, List.setIfInBounds_toArray, List.set_cons_zero, List.set_cons_succ]
            refine region_take 8 (some 28) (v := ?_) rfl rfl (by kernel_rfl) (by kernel_rfl) (by kernel_rfl) (fun _ _ _ h => h) rfl ?_ hS ?_
            rotate_left
            · (intro w9 hS9; obtain ⟨z0, z1, z2, z3, z4⟩ := hS9; go_simp; try (with_reducible rfl))
            simp only [Act.put, List.setIfInBounds_toArray, List.set_cons_zero, List.set_cons_succ]
            refine region_take 9 (some 29) (v := ?_) rfl rfl (by kernel_rfl) (by kernel_rfl) (by kernel_rfl) (fun _ _ _ h => h) rfl ?_ hS ?_
            rotate_left
            · (intro w9 hS9; obtain ⟨z0, z1, z2, z3, z4⟩ := hS9; go_simp; try (with_reducible rfl))
            simp only [Act.put, List.setIfInBounds_toArray, List.set_cons_zero, List.set_cons_succ]
            refine region_take 10 (some 30) (v := ?_) rfl rfl (by kernel_rfl) (by kernel_rfl) (by kernel_rfl) (fun _ _ _ h => h) rfl ?_ hS ?_
            rotate_left
            · (intro w9 hS9; obtain ⟨z0, z1, z2, z3, z4⟩ := hS9; go_simp; try (with_reducible rfl))
            simp only [Act.put, List.setIfInBounds_toArray, List.set_cons_zero, List.set_cons_succ]
            refine region_take 11 (some 31) (v := ?_) rfl rfl (by kernel_rfl) (by kernel_rfl) (by kernel_rfl) (fun _ _ _ h => h) rfl ?_ hS ?_
            rotate_left
            · (intro w9 hS9; obtain ⟨z0, z1, z2, z3, z4⟩ := hS9; go_simp; try (with_reducible rfl))
            simp only [Act.put, List.setIfInBounds_toArray, List.set_cons_zero, List.set_cons_succ]
            refine region_take 12 (some 32) (v := ?_) rfl rfl (by kernel_rfl) (by kernel_rfl) (by kernel_rfl) (fun _ _ _ h => h) rfl ?_ hS ?_
            rotate_left
            · (intro w9 hS9; obtain ⟨z0, z1, z2, z3, z4⟩ := hS9; go_simp; try (with_reducible rfl))
            simp only [Act.put, List.setIfInBounds_toArray, List.set_cons_zero, List.set_cons_succ]
            refine region_take 13 (some 33) (v := ?_) rfl rfl (by kernel_rfl) (by kernel_rfl) (by kernel_rfl) (fun _ _ _ h => h) rfl ?_ hS ?_
            rotate_left
            · (intro w9 hS9; obtain ⟨z0, z1, z2, z3, z4⟩ := hS9; go_simp; try (with_reducible rfl))
            simp only [Act.put, List.setIfInBounds_toArray, List.set_cons_zero, List.set_cons_succ]
            refine region_take 14 (some 34) (v := ?_) rfl rfl (by kernel_rfl) (by kernel_rfl) (by kernel_rfl) (fun _ _ _ h => h) rfl ?_ hS ?_
            rotate_left
            · (intro w9 hS9; obtain ⟨z0, z1, z2, z3, z4⟩ := hS9; go_simp; try (with_reducible rfl))
            simp only [Act.put, List.setIfInBounds_toArray, List.set_cons_zero, List.set_cons_succ]
            refine region_take 15 (some 35) (v := ?_) rfl rfl (by kernel_rfl) (by kernel_rfl) (by kernel_rfl) (fun _ _ _ h => h) rfl ?_ hS ?_
            rotate_left
            · (intro w9 hS9; obtain ⟨z0, z1, z2, z3, z4⟩ := hS9; go_simp; try (with_reducible rfl))
            simp only [Act.put, List.setIfInBounds_toArray, List.set_cons_zero, List.set_cons_succ]
            have viH := Lib.hid (viF.out w5 hW5.out)
            refine region_call 16 rfl (by kernel_rfl) (fun K hK => ?_)
            go_simp
            (with_reducible refine viH.out.mono ?_)
            rintro e w6 ⟨rfl, rfl⟩
            go_simp
            refine hK.out _ _ hS ?_
            clear hK hS K
            intro hS
            try simp only [Act.put, List.setIfInBounds_toArray, List.set_cons_zero, List.set_cons_succ]
            refine region_take 17 (some 37) (v := ?_) rfl rfl (by kernel_rfl) (by kernel_rfl) (by kernel_rfl) (fun _ _ _ h => h) rfl ?_ hS ?_
            rotate_left
            · (intro w9 hS9; obtain ⟨z0, z1, z2, z3, z4⟩ := hS9; go_simp; try (with_reducible rfl))
            simp only [Act.put, List.setIfInBounds_toArray, List.set_cons_zero, List.set_cons_succ]
            refine region_take 18 (some 38) (v := ?_) rfl rfl (by kernel_rfl) (by kernel_rfl) (by kernel_rfl) (fun _ _ _ h => h) rfl ?_ hS ?_
            rotate_left
            · (intro w9 hS9; obtain ⟨z0, z1, z2, z3, z4⟩ := hS9; go_simp; try (with_reducible rfl))
            simp only [Act.put, List.setIfInBounds_toArray, List.set_cons_zero, List.set_cons_succ]
            refine wpAnyH_done (by kernel_rfl) ?_ _
            clear hS
            go_wp2_with fail
            go_ret
            exact ⟨ret_bool hbd2.out.symm, hB5.out⟩
      · have hkk : ((k : Int) < (l.length : Int)) = False := eq_false (by omega)
        rw [List.take_of_length_le (by omega)] at hall hnd
        have hf := Lib.hid (show okLib s l = true by unfold okLib; rw [hsH.out, hall, decide_eq_true h60, decide_eq_true hnd]; rfl)
        have hBH := Lib.hid hBr
        clear hall hnd hBr hlt hk
        go_wp2_with fail
        go_ret
        exact ⟨ret_bool hf.out.symm, hBH.out⟩
  · have h60i : ((60 : Int) < (l.length : Int)) = True := eq_true (by omega)
    have hf := Lib.hid (show okLib s l = false by unfold okLib; rw [decide_eq_false h60]; simp)
    clear h60
    go_enter Tryz.func27, Tryz.ntmps27
    go_wp2_with fail
    refine vsH.out.mono ?_
    rintro e w1 ⟨rfl, hd⟩
    have hB := Lib.hid (hd.below w.heap.size)
    clear hd
    go_wp2_with fail
    go_ret
    exact ⟨ret_bool hf.out.symm, hB.out⟩
end Go.Proofs.YtpmnnoopoblpgaaGreat

/- Walks: Find, Missing of the reference. -/
namespace Go.Proofs.YtpmnnoopoblpgaaGreat
open Go Go.RowKit Go.Maps

set_option maxHeartbeats 1000000 in
theorem rFind_any {S1 S2 : Nat → Prop} (sa la : Option Addr) (sc lc : Nat) (s : Sg) (l : List Ent) (n : ByteArray) (w : World) (h1 : Sign S1 w sa sc s) (h2 : LibL S2 w la lc l) :
    Calls Tryz.prog 21 #[.slice sa s.length sc, .slice la l.length lc, .string n] w fun e w' => e = .returned (.tuple #[.int .i64 (findE s l n).1, .int .i64 (findE s l n).2]) ∧ Below w.heap.size w w' := by
  have v := rVld_any sa la sc lc s l w h1 h2
  have vi := fun W (hb : Below w.heap.size w W) => rIndex_any la lc l n W (h2.below hb)
  have vH := Lib.hid v
  have viH := Lib.hid vi
  clear v vi h1 h2
  cases hok : okLib s l with
  | false =>
    rw [hok] at vH
    have hf := Lib.hid (show findE s l n = (0, 1) by unfold findE; rw [hok]; rfl)
    clear hok
    go_enter Tryz.func21, Tryz.ntmps21
    go_wp2_with fail
    refine vH.out.mono ?_
    rintro e w1 ⟨rfl, hb⟩
    have hbH := Lib.hid hb
    clear hb
    go_wp2_with fail
    go_ret2
    rw [hf.out]
    exact ⟨rfl, hbH.out⟩
  | true =>
    rw [hok] at vH
    cases hat : atN l n with
    | none =>
      have hf := Lib.hid (show findE s l n = (0, 5) by unfold findE; rw [hok, hat]; rfl)
      have hix := Lib.hid (ixN_none' hat)
      clear hok hat
      go_enter Tryz.func21, Tryz.ntmps21
      go_wp2_with fail
      refine vH.out.mono ?_
      rintro e w1 ⟨rfl, hb⟩
      have vi1 := viH.out w1 hb
      rw [hix.out] at vi1
      have vi1H := Lib.hid vi1
      have hbH := Lib.hid hb
      clear hb vi1
      go_wp2_with fail
      refine vi1H.out.mono ?_
      rintro e w2 ⟨rfl, rfl⟩
      go_wp2_with fail
      go_ret2
      rw [hf.out]
      exact ⟨rfl, hbH.out⟩
    | some i =>
      have hf := Lib.hid (show findE s l n = ((i : Int), 0) by unfold findE; rw [hok, hat]; rfl)
      have hix := Lib.hid (ixN_some' hat)
      have hi0 : ((i : Int) < 0) = False := eq_false (by omega)
      clear hok hat
      go_enter Tryz.func21, Tryz.ntmps21
      go_wp2_with fail
      refine vH.out.mono ?_
      rintro e w1 ⟨rfl, hb⟩
      have vi1 := viH.out w1 hb
      rw [hix.out] at vi1
      have vi1H := Lib.hid vi1
      have hbH := Lib.hid hb
      clear hb vi1
      go_wp2_with fail
      refine vi1H.out.mono ?_
      rintro e w2 ⟨rfl, rfl⟩
      go_wp2_with fail
      go_ret2
      rw [hf.out]
      exact ⟨rfl, hbH.out⟩
end Go.Proofs.YtpmnnoopoblpgaaGreat
