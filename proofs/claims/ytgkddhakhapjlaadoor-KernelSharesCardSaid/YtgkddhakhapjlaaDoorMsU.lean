/- The proof of a statement, some of its texts joined in build order: part U. -/
import Derived.Test.YtgkddhakhapjlaaDoorMsA
/- Walks: kernel.Untree. -/
namespace Go.Proofs.YtgkddhakhapjlaaDoor
open Go Go.RowKit Go.Maps Go.WideMaps
set_option maxRecDepth 100000 in
set_option maxHeartbeats 8000000 in
theorem Untree_any (G : Int) (t : ByteArray) (w : World) :
    Calls Tryd.prog 22 #[.int .i64 G, .string t] w (retStE (untE G t) w) := by
  have v1 := kwithin_any G 0 60 w
  by_cases hG : 0 ≤ G ∧ G ≤ 60
  case neg =>
    have hx : (decide (0 ≤ G) && decide (G ≤ 60)) = false := by rw [Bool.eq_false_iff]; simpa using hG
    rw [hx] at v1
    have hrH := Lib.hid (show untE G t = ([], 1) by unfold untE; rw [if_neg hG])
    have v1H := Lib.hid v1
    clear v1 hx hG
    go_enter Tryd.func22, Tryd.ntmps22
    go_wp2_with fail
    refine v1H.out.mono ?_
    rintro e w1 ⟨rfl, rfl⟩
    go_wp2_with fail
    go_ret2
    rw [hrH.out]
    exact ⟨_, rfl, .nil _ _ _ _ _, .refl _ _⟩
  have hx : (decide (0 ≤ G) && decide (G ≤ 60)) = true := by simpa using hG
  rw [hx] at v1
  have v1H := Lib.hid v1
  clear v1 hx
  by_cases hs : t.size ≤ 65536
  case neg =>
    have hs' : (65536 : Int) < (t.size : Int) := by omega
    have hrH := Lib.hid (show untE G t = ([], 3) by unfold untE; rw [if_pos hG, if_neg hs])
    clear hs
    go_enter Tryd.func22, Tryd.ntmps22
    go_wp2_with fail
    refine v1H.out.mono ?_
    rintro e w1 ⟨rfl, rfl⟩
    go_wp2_with fail
    go_ret2
    rw [hrH.out]
    exact ⟨_, rfl, .nil _ _ _ _ _, .refl _ _⟩
  have hs' : ¬ (65536 : Int) < (t.size : Int) := by omega
  have hr : untE G t = untR G t.data.toList [] [] none := by unfold untE; rw [if_pos hG, if_pos hs]
  have hrH := Lib.hid hr
  have hGH := Lib.hid hG
  have hmm := @run_makeMap Tryd.prog
  clear hr hG
  go_enter Tryd.func22, Tryd.ntmps22
  go_wp2_with fail
  refine v1H.out.mono ?_
  rintro e w1 ⟨rfl, rfl⟩
  go_wp2_with fail
  go_loopw [9, 11] (fun vO iV wr => untI G t w vO iV wr) (fun _ iV _ => t.size - (intOf iV).toNat)
  case atStart => exact ⟨0, [], [], none, rfl, Nat.zero_le _, by rw [List.take_zero]; exact .start G, by rw [List.drop_zero], um_start w, below4 w _ _ _ _⟩
  case round =>
    obtain ⟨k, st, p, w0, rfl, hk, hJ, hR, hU, hB⟩ := hrel
    have holen := opOf_len st
    obtain ⟨aO, cO, hvO, hIO⟩ := OwnI.ints hU.o
    rw [holen] at hvO
    subst hvO
    have hst60 : st.length ≤ 65536 := by have := hJ.cnt; rw [List.length_take] at this; omega
    have hp60 : p.length ≤ 65536 := by have := hJ.cnt; rw [List.length_take] at this; omega
    have hcap := hIO.cap
    clear hIO
    by_cases hlt : k < t.size
    · have hd := drop_cons hlt
      have htk := take_cons hlt
      cases w0 with
      | some kk =>
        obtain ⟨rfl, -, hc⟩ := hJ.whole kk rfl
        have hk0 : 0 < k := by
          have h1 := congrArg List.length hc
          have h2 := Tr.text_len ((trees p).getD kk (.g 0))
          rw [List.length_take] at h1; omega
        rw [hd, untR_over] at hR
        have hrr := hrH.out
        rw [← hR] at hrr
        have hrrH := Lib.hid hrr
        have hBH := Lib.hid hB
        have hk1 : (0 : Int) < (k : Int) := by omega
        clear hR hU hJ hB hc hrr hd htk
        --{
        go_wp2_with fail
        all_goals go_ret2
        all_goals rw [hrrH.out]
        all_goals exact ⟨_, rfl, .nil _ _ _ _ _, hBH.out⟩
        --}
      | none =>
        have hg : (¬ (0 : Int) < (k : Int)) ∨ ((0 : Int) < (k : Int) ∧ ((st.length : Int) == 0) = false) := by
          by_cases h0 : k = 0
          · left; omega
          · right
            refine ⟨by omega, ?_⟩
            have hc := congrArg List.length (hJ.open_ rfl)
            rw [List.length_take] at hc
            cases st with
            | nil => simp only [rend, List.length_nil, Array.length_toList] at hc; have : t.size = t.data.size := rfl; omega
            | cons o st => simp; omega
        by_cases h68 : t[k] = 68
        · have h68b : (((t[k]'hlt).toNat : Int) == 68) = true := by rw [h68]; rfl
          rw [h68] at hd htk
          rw [hd, untR_D] at hR
          have hJ1 := hJ.d
          rw [← htk] at hJ1
          obtain ⟨v', W', r1, r2, r3⟩ := hU.pushO 2 (by unfold inRange; omega) (by rw [holen]; omega)
          have rrun := r1.out
          have hrel : untI G t w v' (.int .i64 ((k + 1 : Nat) : Int)) W' := ⟨k + 1, none :: st, p, none, rfl, by omega, hJ1, hR, r2.out, hB.trans r3.out⟩
          have hrelH := Lib.hid hrel
          clear hR hU hJ hB hd htk hJ1 r1 r2 r3 hrel h68
          --{
          rcases hg with hg | ⟨hg1, hg2⟩
          all_goals go_wp2_with (at_builtin; refine wpList_append_run rfl _ _ _ rfl rfl rfl rrun ?_)
          all_goals go_roundw
          all_goals first | exact hrelH.out | (simp [intOf]; omega)
          --}
        · have h68b : (((t[k]'hlt).toNat : Int) == 68) = false := by
            rw [beq_eq_false_iff_ne]; intro e; exact h68 (UInt8.toNat_inj.1 (by show t[k].toNat = 68; omega))
          by_cases h103 : t[k] = 103
          case neg =>
            have h103b : (((t[k]'hlt).toNat : Int) != 103) = true := by
              simp only [bne_iff_ne, ne_eq]; intro e; exact h103 (UInt8.toNat_inj.1 (by show t[k].toNat = 103; omega))
            rw [hd, untR_no _ _ _ _ _ h68 h103] at hR
            have hrr := hrH.out
            rw [← hR] at hrr
            have hrrH := Lib.hid hrr
            have hBH := Lib.hid hB
            clear hR hU hJ hB hrr hd htk h103 h68
            --{
            rcases hg with hg | ⟨hg1, hg2⟩
            all_goals go_wp2_with fail
            all_goals go_ret2
            all_goals rw [hrrH.out]
            all_goals exact ⟨_, rfl, .nil _ _ _ _ _, hBH.out⟩
            --}
          have h103b : (((t[k]'hlt).toNat : Int) != 103) = false := by rw [h103]; rfl
          rw [h103] at hd htk
          have e1 : IntKind.i64.wrap ((k : Int) + 1) = ((k + 1 : Nat) : Int) := by rw [IntWalk.i64_in _ (by omega)]; omega
          have e2 : IntKind.i64.wrap ((k : Int) + 2) = ((k + 2 : Nat) : Int) := by rw [IntWalk.i64_in _ (by omega)]; omega
          have e3 : IntKind.i64.wrap ((k : Int) + 3) = ((k + 3 : Nat) : Int) := by rw [IntWalk.i64_in _ (by omega)]; omega
          by_cases h3 : k + 3 ≤ t.size
          case neg =>
            have h3b : (t.size : Int) < ((k + 3 : Nat) : Int) := by omega
            have hres : untR G (t.data.toList.drop k) st p none = ([], 2) := by
              rw [hd]
              have hl : (t.data.toList.drop (k + 1)).length ≤ 1 := by rw [List.length_drop, Array.length_toList]; have : t.size = t.data.size := rfl; omega
              match hm : t.data.toList.drop (k + 1), hl with
              | [], _ => rw [untR_g0]
              | [a], _ => rw [untR_g1]
            rw [hres] at hR
            have hrr := hrH.out
            rw [← hR] at hrr
            have hrrH := Lib.hid hrr
            have hBH := Lib.hid hB
            clear hR hU hJ hB hrr hd htk h103 h68 hres
            --{
            rcases hg with hg | ⟨hg1, hg2⟩
            all_goals go_wp2_with fail
            all_goals go_ret2
            all_goals rw [hrrH.out]
            all_goals exact ⟨_, rfl, .nil _ _ _ _ _, hBH.out⟩
            --}
          have h4 : k + 1 < t.size := by omega
          have h5 : k + 2 < t.size := by omega
          have hd3 : t.data.toList.drop k = 103 :: t[k + 1] :: t[k + 2] :: t.data.toList.drop (k + 3) := by rw [hd, drop_cons h4, drop_cons h5]
          have ht3 : t.data.toList.take (k + 3) = t.data.toList.take k ++ [103, t[k + 1], t[k + 2]] := by
            rw [take_cons h5, take_cons h4, htk]; simp
          have h3b : ¬ (t.size : Int) < ((k + 3 : Nat) : Int) := by omega
          have cd1 := fun W => digit_any t[k + 1] W
          have cd2 := fun W => digit_any t[k + 2] W
          rw [hd3, untR_g] at hR
          have hend : ([], (2 : Int)) = untR G t.data.toList [] [] none → untE G t = ([], 2) := fun h => by rw [hrH.out, ← h]
          have hBH := Lib.hid hB
          cases hx1 : isDig t[k + 1] with
          | false =>
            rw [if_neg (by rw [hx1]; simp)] at hR
            rw [hx1] at cd1
            have hrrH := Lib.hid (hend hR)
            have cd1H := Lib.hid cd1
            clear hR hU hJ hB hd htk h103 h68 hd3 ht3 cd1 cd2 hend hx1
            --{
            rcases hg with hg | ⟨hg1, hg2⟩
            all_goals go_wp2_with fail
            all_goals refine (cd1H.out _).mono ?_
            all_goals rintro e w1 ⟨rfl, rfl⟩
            all_goals go_wp2_with fail
            all_goals go_ret2
            all_goals rw [hrrH.out]
            all_goals exact ⟨_, rfl, .nil _ _ _ _ _, hBH.out⟩
            --}
          | true =>
            rw [hx1] at cd1
            cases hx2 : isDig t[k + 2] with
            | false =>
              rw [if_neg (by rw [hx2]; simp)] at hR
              rw [hx2] at cd2
              have hrrH := Lib.hid (hend hR)
              have cd1H := Lib.hid cd1
              have cd2H := Lib.hid cd2
              clear hR hU hJ hB hd htk h103 h68 hd3 ht3 cd1 cd2 hend hx1 hx2
              --{
              rcases hg with hg | ⟨hg1, hg2⟩
              all_goals go_wp2_with fail
              all_goals refine (cd1H.out _).mono ?_
              all_goals rintro e w1 ⟨rfl, rfl⟩
              all_goals go_wp2_with fail
              all_goals refine (cd2H.out _).mono ?_
              all_goals rintro e w1 ⟨rfl, rfl⟩
              all_goals go_wp2_with fail
              all_goals go_ret2
              all_goals rw [hrrH.out]
              all_goals exact ⟨_, rfl, .nil _ _ _ _ _, hBH.out⟩
              --}
            | true =>
              rw [hx2] at cd2
              obtain ⟨hse, hss⟩ := extract2 h3
              have ca := fun W => Atoi_any (t.extract (k + 1) (k + 3)) (numOf t[k + 1] t[k + 2] : Int) (by omega) (atoi2 hx1 hx2 hse) W
              have hn := numOf_le hx1 hx2
              by_cases hnG : (numOf t[k + 1] t[k + 2] : Int) < G
              case neg =>
                rw [if_neg (fun h => hnG h.2.2)] at hR
                have hrrH := Lib.hid (hend hR)
                have cd1H := Lib.hid cd1
                have cd2H := Lib.hid cd2
                have caH := Lib.hid ca
                have hnGb : (G ≤ (numOf t[k + 1] t[k + 2] : Int)) := by omega
                obtain ⟨N, hN⟩ : ∃ N, numOf t[k + 1] t[k + 2] = N := ⟨_, rfl⟩
                rw [hN] at caH hnGb
                clear hR hU hJ hB hd htk h103 h68 hd3 ht3 cd1 cd2 hend hx1 hx2 hN hnG ca hse
                --{
                rcases hg with hg | ⟨hg1, hg2⟩
                all_goals go_wp2_with fail
                all_goals refine (cd1H.out _).mono ?_
                all_goals rintro e w1 ⟨rfl, rfl⟩
                all_goals go_wp2_with fail
                all_goals refine (cd2H.out _).mono ?_
                all_goals rintro e w1 ⟨rfl, rfl⟩
                all_goals go_wp2_with fail
                all_goals refine (caH.out _).mono ?_
                all_goals rintro e w1 ⟨rfl, hb1⟩
                all_goals go_wp2_with fail
                all_goals go_ret2
                all_goals rw [hrrH.out]
                all_goals exact ⟨_, rfl, .nil _ _ _ _ _, bcall hBH.out hb1⟩
                --}
              rw [if_pos ⟨hx1, hx2, hnG⟩] at hR
              have hJg := hJ.g hx1 hx2 hnG
              rw [← ht3, List.length_take, Array.length_toList, Nat.min_eq_left (show k ≤ t.data.size from hk)] at hJg
              have hrt : stpR (1, (numOf t[k + 1] t[k + 2] : Int), 0) := ⟨(show inRange (1 : Int) by unfold inRange; omega), (show inRange (numOf t[k + 1] t[k + 2] : Int) by unfold inRange; omega), (show inRange (0 : Int) by unfold inRange; omega)⟩
              have cadd := fun W (hb : Below wr.heap.size wr W) => untadd_any (1, (numOf t[k + 1] t[k + 2] : Int), 0) W (hU.below hb) hrt (by omega) (by have := dnOf_len st; show (dnOf st).length ≤ 100000; omega)
              obtain ⟨N, hN⟩ : ∃ N, numOf t[k + 1] t[k + 2] = N := ⟨_, rfl⟩
              rw [hN] at ca hn hnG hR hJg cadd
              have hnGb : ¬ (G ≤ (N : Int)) := by omega
              have cd1H := Lib.hid cd1
              have cd2H := Lib.hid cd2
              have caH := Lib.hid ca
              have hJgH := Lib.hid hJg
              have hRH := Lib.hid hR
              have caddH := Lib.hid cadd
              clear hR hU hJ hB hd htk h103 h68 hd3 ht3 cd1 cd2 hend hx1 hx2 hN hnG ca hse hJg cadd
              rcases hg with hg | ⟨hg1, hg2⟩
              all_goals go_wp2_with fail
              all_goals refine (cd1H.out _).mono ?_
              all_goals rintro e w1 ⟨rfl, rfl⟩
              all_goals go_wp2_with fail
              all_goals refine (cd2H.out _).mono ?_
              all_goals rintro e w1 ⟨rfl, rfl⟩
              all_goals go_wp2_with fail
              all_goals refine (caH.out _).mono ?_
              all_goals rintro e w1 ⟨rfl, hb1⟩
              all_goals go_wp2_with fail
              all_goals refine (caddH.out w1 hb1).mono ?_
              all_goals rintro e w2 ⟨rfl, hU2, hb2⟩
              all_goals
                have hC0 : untC G t w k (.slice aO st.length cO) w2 := ⟨st, _, _, hJgH.out, hRH.out, hU2, bcall' hBH.out hb1 hb2 (by have := hb1.size; have := hBH.out.size; omega)⟩
                have hC0H := Lib.hid hC0
                clear hC0 hU2 hb1 hb2
                go_wp2_with fail
              all_goals
                go_loopw [9] (fun vO wr => untC G t w k vO wr) (fun vO _ => lenV vO)
                case atStart => exact hC0H.out
                case round =>
                  clear hC0H
                  obtain ⟨st, p, kk, hJ, hR, hU, hB⟩ := hrel
                  have hst60 : p.length + st.length ≤ 65536 := Nat.le_trans hJ.cnt (Nat.le_trans (take_size_le t (k + 3)) hs)
                  cases st with
                  | nil =>
                    obtain ⟨a1, c1, hv, -⟩ := OwnI.ints hU.o
                    rw [opOf_len] at hv
                    subst hv
                    have hrel : untI G t w (.slice a1 0 c1) (.int .i64 ((k + 3 : Nat) : Int)) wr := ⟨k + 3, [], p, some kk, rfl, by omega, hJ.done, hR, hU, hB⟩
                    have hrelH := Lib.hid hrel
                    clear hrel hU hB hJ hR
                    simp only [List.length_nil]
                    go_wp2_with fail
                    all_goals go_roundw
                    all_goals first | exact hrelH.out | (simp [intOf]; omega)
                  | cons o st =>
                    rw [List.length_cons] at hst60
                    have hL := opOf_len st
                    have eL : IntKind.i64.wrap (((st.length + 1 : Nat) : Int) - 1) = ((st.length : Nat) : Int) := by rw [IntWalk.i64_in _ (by omega)]; omega
                    cases o with
                    | none =>
                      obtain ⟨g, cap, hv, hcp, d1, d2, d3, d4, d5⟩ := Um.setO (l := opOf st) (x0 := 2) hU 1 (by unfold inRange; omega)
                      rw [hL] at hv d1 d2 d3 d4 d5 hcp
                      subst hv
                      have c1 := d1.out
                      have c2 := d2.out
                      have c3 := d5.out
                      have hrel : untI G t w (.slice (some ⟨g, 0, none⟩) (st.length + 1) cap) (.int .i64 ((k + 3 : Nat) : Int)) (wr.setCell ⟨g, st.length, none⟩ (.int .i64 1)) := ⟨k + 3, some kk :: st, p, none, rfl, by omega, hJ.wait, hR, d3.out, hB.trans d4.out⟩
                      have hrelH := Lib.hid hrel
                      clear hrel hU hB hJ hR d1 d2 d3 d4 d5 hL
                      go_wp2_with fail
                      all_goals go_roundw
                      all_goals first | exact hrelH.out | (simp [intOf]; omega)
                    | some m =>
                      have hm := hJ.stl m (by simp)
                      have hkk := hJ.kl
                      obtain ⟨g, cap, hv, hcp, d1, d2, d3, d4, d5⟩ := Um.setO (l := opOf st) (x0 := 1) hU 0 (by unfold inRange; omega)
                      rw [hL] at hv d1 d2 d3 d4 d5 hcp
                      subst hv
                      have c1 := d1.out
                      have c2 := d2.out
                      have c3 := d5.out
                      have hUt := Um.takeO (x0 := 0) d3.out (by rw [hL])
                      rw [hL] at hUt
                      obtain ⟨W2, hW2⟩ : ∃ W, wr.setCell ⟨g, st.length, none⟩ (.int .i64 0) = W := ⟨_, rfl⟩
                      rw [hW2] at hUt c3 d4
                      have hD := dnOf_len st
                      obtain ⟨gD, cD, hcD, f1, f2, f3, f4, f5, f6⟩ := Um.takeD (l := dnOf st) (x0 := (m : Int)) (x1 := (kk : Int)) hUt
                      obtain ⟨M, hM⟩ : ∃ M, (dnOf st).length = M := ⟨_, rfl⟩
                      rw [hM] at hcD f1 f3 f4 f5 f6 hD
                      have q1 := f1.out
                      have q2 := f2.out
                      have q3 := f3.out
                      have q4 := f4.out
                      have eM1 : IntKind.i64.wrap (((M + 1 + 1 : Nat) : Int) - 2) = ((M : Nat) : Int) := by rw [IntWalk.i64_in _ (by omega)]; omega
                      have eM2 : IntKind.i64.wrap (((M + 1 + 1 : Nat) : Int) - 1) = ((M + 1 : Nat) : Int) := by rw [IntWalk.i64_in _ (by omega)]; omega
                      have hJc := hJ.close
                      have cadd := fun W (hb : Below (W2.setCell ⟨w.heap.size + 3, 0, none⟩ (.slice (some ⟨gD, 0, none⟩) M cD)).heap.size (W2.setCell ⟨w.heap.size + 3, 0, none⟩ (.slice (some ⟨gD, 0, none⟩) M cD)) W) => untadd_any (2, (m : Int), (kk : Int)) W (f5.out.below hb) ⟨(show inRange (2 : Int) by unfold inRange; omega), (show inRange (m : Int) by unfold inRange; omega), (show inRange (kk : Int) by unfold inRange; omega)⟩ (by omega) (by omega)
                      have hB2 := hB.trans (d4.out.trans f6.out)
                      have hJH := Lib.hid hJc
                      have hRH := Lib.hid hR
                      have caddH := Lib.hid cadd
                      have hB2H := Lib.hid hB2
                      clear hU hB hJ hR d1 d2 d3 d4 d5 hL f1 f2 f3 f4 f5 f6 hUt hJc cadd hB2 hM
                      go_wp2_with fail
                      try rw [hW2]
                      go_quiet (fail)
                      go_wp2_with fail
                      refine (caddH.out _ (below_drewN (Below.refl _ _) nq)).mono ?_
                      rintro e w4 ⟨rfl, hU4, hb4⟩
                      have hrel : untC G t w k (.slice (some ⟨g, 0, none⟩) st.length cap) w4 := ⟨st, _, _, hJH.out, hRH.out, hU4, (below_drewN hB2H.out nq).trans hb4⟩
                      have hrelH := Lib.hid hrel
                      clear hrel hU4 hb4
                      go_wp2_with fail
                      all_goals go_roundw
                      all_goals first | exact hrelH.out | (simp only [lenV]; omega)
    · clear hcap
      obtain rfl : k = t.size := by omega
      rw [List.drop_of_length_le (by rw [Array.length_toList]; exact Nat.le_refl _)] at hR
      cases w0 with
      | none =>
        rw [untR_short] at hR
        have hrr := hrH.out
        rw [← hR] at hrr
        have hrrH := Lib.hid hrr
        have hBH := Lib.hid hB
        obtain ⟨vD, hbD, hoD, -⟩ := hU.d
        have cD := hbD.cell
        obtain ⟨aD, cD', hvD, -⟩ := OwnI.ints hoD
        subst hvD
        have hcase : (0 : Int) < (st.length : Int) ∨ (¬ (0 : Int) < (st.length : Int) ∧ (((dnW st none).length : Int) != 1) = true) := by
          cases st with
          | nil => right; exact ⟨by simp, rfl⟩
          | cons o st => left; simp
        clear hR hU hJ hB hrr hbD hoD holen hst60
        generalize st.length = n at *
        generalize (dnW st none).length = m at *
        rcases hcase with hg | ⟨hg1, hg2⟩
        all_goals go_wp2_with fail
        all_goals go_ret2
        all_goals rw [hrrH.out]
        all_goals exact ⟨_, rfl, .nil _ _ _ _ _, hBH.out⟩
      | some kk =>
        obtain ⟨rfl, -, -⟩ := hJ.whole kk rfl
        rw [untR_end] at hR
        have hBH := Lib.hid hB
        obtain ⟨vD, hbD, hoD, -⟩ := hU.d
        have cD := hbD.cell
        obtain ⟨aD, cD', hvD, -⟩ := OwnI.ints hoD
        subst hvD
        have hg1 : ¬ (0 : Int) < ((([] : List (Option Nat)).length : Nat) : Int) := by simp
        have hg2 : (((dnW [] (some kk)).length : Int) != 1) = false := rfl
        obtain ⟨vP, hbP, hoP⟩ := hU.p
        have cP := hbP.cell
        obtain ⟨aP, cP', hvP, -⟩ := OwnL.sl hoP
        subst hvP
        have hoH := Lib.hid (OwnL.baseMono (base' := w.heap.size) hoP (by omega))
        have hrr := hrH.out
        rw [← hR] at hrr
        by_cases h60 : p.length ≤ 60
        · rw [if_pos h60] at hrr
          have hrrH := Lib.hid hrr
          have h60b : ¬ (60 : Int) < (p.length : Int) := by omega
          clear hR hU hJ hB hrr hbD hoD hbP hoP h60
          go_wp2_with fail
          all_goals go_ret2
          all_goals rw [hrrH.out]
          all_goals exact ⟨_, rfl, hoH.out, hBH.out⟩
        · rw [if_neg h60] at hrr
          have hrrH := Lib.hid hrr
          have h60b : (60 : Int) < (p.length : Int) := by omega
          clear hR hU hJ hB hrr hbD hoD hbP hoP h60
          go_wp2_with fail
          all_goals go_ret2
          all_goals rw [hrrH.out]
          all_goals exact ⟨_, rfl, .nil _ _ _ _ _, hBH.out⟩
end Go.Proofs.YtgkddhakhapjlaaDoor
