/- The proof of a statement, some of its texts joined in build order: part E. -/
import Derived.Test.YtnhaoalcpbefoaaDoorMsD
import Derived.BigRegion
/- Walks: the reader arrows. -/
namespace Go.Proofs.YtnhaoalcpbefoaaDoor
open Go Go.RowKit Go.Maps Go.Shelf

section
variable {W0 : World} {rb mb : Nat} {a1 : Option Addr} {c1 : Nat} {s : Sg}
/-- what a reader gives, with its answer as a variable -/
def rdRetZ (M : Option RdX) (W0 : World) (rb mb : Nat) (a1 : Option Addr) (c1 : Nat) (s : Sg) (T : List Int) (e : Ending) (w' : World) : Prop :=
  ∃ (z : Bool) (L' : List ByteArray) (T' : List Int), e = .returned (.bool z) ∧ RdW W0 rb mb a1 c1 s w' L' T' ∧ (z = true → M = some (btk L', T') ∧ T.length ≤ T'.length ∧ T'.length ≤ 61) ∧ (z = false → M = none)
theorem rdRet.z {M : Option RdX} {T : List Int} {e : Ending} {w' : World} (h : rdRet M W0 rb mb a1 c1 s T e w') : rdRetZ M W0 rb mb a1 c1 s T e w' := by
  rcases h with ⟨L', T', h1, h2, h3, h4, h5⟩ | ⟨h1, h2, L', T', h3⟩
  · exact ⟨true, L', T', h2, h3, fun _ => ⟨h1, h4, h5⟩, fun h => by cases h⟩
  · exact ⟨false, L', T', h2, h3, fun h => (by cases h), fun _ => h1⟩
theorem rdRet.of {M : Option RdX} {T : List Int} {z : Bool} {L' : List ByteArray} {T' : List Int} {w' : World} (h3 : RdW W0 rb mb a1 c1 s w' L' T') (h1 : z = true → M = some (btk L', T') ∧ T.length ≤ T'.length ∧ T'.length ≤ 61) (h2 : z = false → M = none) : rdRet M W0 rb mb a1 c1 s T (.returned (.bool z)) w' := by
  cases z with
  | true => exact .inl ⟨L', T', (h1 rfl).1, rfl, h3, (h1 rfl).2.1, (h1 rfl).2.2⟩
  | false => exact .inr ⟨h2 rfl, rfl, L', T', h3⟩
theorem next_nil {W : World} {T : List Int} (h : RdW W0 rb mb a1 c1 s W [] T) :
    Calls Tryd.prog 74 #[.pointer (some ⟨rb, 0, none⟩)] W fun e w' => e = .returned (.string ByteArray.empty) ∧ RdW W0 rb mb a1 c1 s w' [] T :=
  (next_rd h).mono fun e w' ⟨b, L', he, _, hR, hn⟩ => by
    have h1 : b.data.toList = [] := (congrArg Prod.fst hn).symm
    have h2 : btk L' = [] := (congrArg Prod.snd hn).symm
    have h3 : L' = [] := by unfold btk at h2; simpa using h2
    subst h3
    have h4 : b = ByteArray.empty := ba_ext2 (by rw [h1]; rfl)
    subst h4
    exact ⟨he, hR⟩
theorem btk_inj : ∀ {a b : List ByteArray}, btk a = btk b → a = b
  | [], [], _ => rfl
  | [], _ :: _, h => by simp [btk] at h
  | _ :: _, [], h => by simp [btk] at h
  | x :: a, y :: b, h => by
    unfold btk at h
    rw [List.map_cons, List.map_cons] at h
    obtain ⟨h1, h2⟩ := List.cons.inj h
    rw [ba_ext2 h1, btk_inj h2]
theorem next_cons {W : World} {x : ByteArray} {L : List ByteArray} {T : List Int} (h : RdW W0 rb mb a1 c1 s W (x :: L) T) :
    Calls Tryd.prog 74 #[.pointer (some ⟨rb, 0, none⟩)] W fun e w' => e = .returned (.string x) ∧ RdW W0 rb mb a1 c1 s w' L T :=
  (next_rd h).mono fun e w' ⟨b, L', he, _, hR, hn⟩ => by
    have h1 : x.data.toList = b.data.toList := congrArg Prod.fst hn
    have h2 : btk L = btk L' := congrArg Prod.snd hn
    rw [ba_ext2 h1, btk_inj h2]
    exact ⟨he, hR⟩
theorem sign_ix0 (W : World) : (Instr.index 9 (.string ⟨#[40, 44, 44]⟩) (.int .i64 0)).run Tryd.prog W = .ok (.int .u8 40) W := by kernel_rfl
theorem sign_ix1 (W : World) : (Instr.index 9 (.string ⟨#[40, 44, 44]⟩) (.int .i64 1)).run Tryd.prog W = .ok (.int .u8 44) W := by kernel_rfl
theorem sign_ix2 (W : World) : (Instr.index 9 (.string ⟨#[40, 44, 44]⟩) (.int .i64 2)).run Tryd.prog W = .ok (.int .u8 44) W := by kernel_rfl
theorem sign_ix (j : Nat) (hj : j < 3) (W : World) : (Instr.index 9 (.string ⟨#[40, 44, 44]⟩) (.int .i64 (j : Int))).run Tryd.prog W = .ok (.int .u8 ((signA j).toNat : Int)) W :=
  match j, hj with
  | 0, _ => sign_ix0 W
  | 1, _ => sign_ix1 W
  | 2, _ => sign_ix2 W
theorem sign_enc (j : Nat) : Utf8.encode (((signA j).toNat : Nat) : Int) = ⟨#[signA j]⟩ := by
  refine enc_ascii _ ?_
  unfold signA
  split <;> decide
set_option maxRecDepth 20000 in
set_option maxHeartbeats 8000000 in
theorem arrows_rd (hE : RdEnv W0 rb mb a1 c1 s) : ∀ (f : Nat) (W : World) (Lf : List ByteArray) (T : List Int), RdW W0 rb mb a1 c1 s W Lf T → T.length ≤ 61 → 62 ≤ f + T.length →
    Calls Tryd.prog 49 #[.pointer (some ⟨rb, 0, none⟩)] W (rdRet (arrM s f (btk Lf, T)) W0 rb mb a1 c1 s T) := by
  intro f
  induction f with
  | zero => intro W Lf T _ h1 h2; omega
  | succ f ih =>
  intro W Lf T h hT1 hT2
  have ihH := Lib.hid ih
  obtain ⟨M, hM⟩ : ∃ M, arrM s (f + 1) (btk Lf, T) = M := ⟨_, rfl⟩
  rw [hM]
  rw [arrM] at hM
  have hMH := Lib.hid hM
  have hH := Lib.hid h
  have hEH := Lib.hid hE
  clear hM h ih hE
  go_enter Tryd.func49, Tryd.ntmps49
  go_wp2_with fail
  refine (skip_rd hH.out).mono ?_
  rintro e w1 ⟨v, L1, rfl, hR1, hs1⟩
  have hR1H := Lib.hid hR1
  have hs1H := Lib.hid hs1
  clear hR1 hs1 hH
  go_wp2_with fail
  refine (next_rd hR1H.out).mono ?_
  rintro e w2 ⟨b, L2, rfl, hb, hR2, hn⟩
  rw [hs1H.out] at hn
  have hM2 := hMH.out
  simp only [hn] at hM2
  clear hn hR1H hs1H hMH
  by_cases hb40 : b.data.toList = [40]
  · have hq := str_is hb40
    rw [if_pos hb40] at hM2
    obtain ⟨aT, cT, aN, cN, w', e3, hrun, r3, rf, hR3⟩ := hR2.push (by omega) 0 (by unfold inRange; decide)
    have hM2H := Lib.hid hM2
    clear hM2 hb40 hR2
    by_cases h60 : 60 < T.length + 1
    · have hM3 := hM2H.out
      rw [if_pos h60] at hM3
      have hr := Lib.hid (show rdRet M W0 rb mb a1 c1 s T (.returned (.bool false)) _ from .inr ⟨hM3.symm, rfl, _, _, hR3.out⟩)
      clear hM3 hM2H hR3
      go_wp2_with (at_builtin; refine wpList_append_run rfl _ _ _ rfl rfl rfl hrun.out ?_)
      go_ret
      exact hr.out
    · have hM3 := hM2H.out
      rw [if_neg h60] at hM3
      have hM3H := Lib.hid hM3
      clear hM3 hM2H
      go_wp2_with (at_builtin; refine wpList_append_run rfl _ _ _ rfl rfl rfl hrun.out ?_)
      refine (ihH.out _ _ _ hR3.out (by simp; omega) (by simp; omega)).mono ?_
      clear hR3 hrun r3 rf e3
      rintro e w4 (⟨L4, T4, hM4, rfl, hR4, q1, q2⟩ | ⟨hM4, rfl, L4, T4, hR4⟩)
      · have hM5 := hM3H.out
        rw [hM4, Option.bind_some] at hM5
        unfold arrowM at hM5
        rw [List.length_append, List.length_singleton] at q1
        have hM5H := Lib.hid hM5
        have hR4H := Lib.hid hR4
        clear hM5 hM4 hR4 hM3H
        go_wp2_with fail
        refine (skip_rd hR4H.out).mono ?_
        rintro e w5 ⟨v, L5, rfl, hR5, hs5⟩
        have hR5H := Lib.hid hR5
        have hs5H := Lib.hid hs5
        clear hR5 hs5 hR4H
        go_wp2_with fail
        refine (next_rd hR5H.out).mono ?_
        rintro e w6 ⟨b6, L6, rfl, hb6, hR6, hn6⟩
        rw [hs5H.out] at hn6
        have hM6 := hM5H.out
        simp only [hn6] at hM6
        clear hn6 hR5H hs5H hM5H
        by_cases h45 : b6.data.toList = [45]
        · have hq6 := str_is h45
          rw [if_pos h45] at hM6
          have hM6H := Lib.hid hM6
          have hR6H := Lib.hid hR6
          clear hM6 h45 hR6
          go_wp2_with fail
          refine (next_rd hR6H.out).mono ?_
          rintro e w7 ⟨b7, L7, rfl, hb7, hR7, hn7⟩
          have hM7 := hM6H.out
          simp only [hn7] at hM7
          clear hn7 hR6H hM6H
          by_cases h62 : b7.data.toList = [62]
          · have hq7 := str_is h62
            rw [if_pos h62] at hM7
            have hM7H := Lib.hid hM7
            have hR7H := Lib.hid hR7
            clear hM7 h62 hR7
            go_wp2_with fail
            refine (ihH.out _ _ _ hR7H.out q2 (by omega)).mono ?_
            rintro e w8 (⟨L8, T8, hM8, rfl, hR8, p1, p2⟩ | ⟨hM8, rfl, L8, T8, hR8⟩)
            · have hM9 := hM7H.out
              rw [hM8, Option.bind_some] at hM9
              unfold closeM at hM9
              have hM9H := Lib.hid hM9
              have hR8H := Lib.hid hR8
              clear hM9 hM8 hR8 hM7H hR7H
              go_wp2_with fail
              refine (skip_rd hR8H.out).mono ?_
              rintro e w9 ⟨v, L9, rfl, hR9, hs9⟩
              have hR9H := Lib.hid hR9
              have hs9H := Lib.hid hs9
              clear hR9 hs9 hR8H
              go_wp2_with fail
              refine (next_rd hR9H.out).mono ?_
              rintro e w10 ⟨b10, L10, rfl, hb10, hR10, hn10⟩
              rw [hs9H.out] at hn10
              have hM10 := hM9H.out
              simp only [hn10] at hM10
              clear hn10 hR9H hs9H hM9H
              by_cases h41 : b10.data.toList = [41]
              · have hq10 := str_is h41
                rw [if_pos h41] at hM10
                have hr := Lib.hid (show rdRet M W0 rb mb a1 c1 s T (.returned (.bool true)) w10 from .inl ⟨L10, T8, hM10.symm, rfl, hR10, by omega, p2⟩)
                clear hM10 h41 hR10
                go_wp2_with fail
                go_ret
                exact hr.out
              · have hq10 := str_not h41
                rw [if_neg h41] at hM10
                have hr := Lib.hid (show rdRet M W0 rb mb a1 c1 s T (.returned (.bool false)) w10 from .inr ⟨hM10.symm, rfl, L10, T8, hR10⟩)
                clear hM10 h41 hR10
                go_wp2_with fail
                go_ret
                exact hr.out
            · have hM9 := hM7H.out
              rw [hM8, Option.bind_none] at hM9
              have hr := Lib.hid (show rdRet M W0 rb mb a1 c1 s T (.returned (.bool false)) w8 from .inr ⟨hM9.symm, rfl, L8, T8, hR8⟩)
              clear hM9 hM8 hR8 hM7H hR7H
              go_wp2_with fail
              go_ret
              exact hr.out
          · have hq7 := str_not h62
            rw [if_neg h62, Option.bind_none] at hM7
            have hr := Lib.hid (show rdRet M W0 rb mb a1 c1 s T (.returned (.bool false)) w7 from .inr ⟨hM7.symm, rfl, L7, T4, hR7⟩)
            clear hM7 h62 hR7
            go_wp2_with fail
            go_ret
            exact hr.out
        · have hq6 := str_not h45
          rw [if_neg h45, Option.bind_none] at hM6
          have hr := Lib.hid (show rdRet M W0 rb mb a1 c1 s T (.returned (.bool false)) w6 from .inr ⟨hM6.symm, rfl, L6, T4, hR6⟩)
          clear hM6 h45 hR6
          go_wp2_with fail
          go_ret
          exact hr.out
      · have hM5 := hM3H.out
        rw [hM4, Option.bind_none] at hM5
        have hr := Lib.hid (show rdRet M W0 rb mb a1 c1 s T (.returned (.bool false)) w4 from .inr ⟨hM5.symm, rfl, L4, T4, hR4⟩)
        clear hM5 hM4 hR4 hM3H
        go_wp2_with fail
        go_ret
        exact hr.out
  · have hq := str_not hb40
    rw [if_neg hb40] at hM2
    have hMH2 := Lib.hid hM2
    have hR2H := Lib.hid hR2
    clear hM2 hb40 hR2
    go_wp2_with fail
    refine (atom_rd hEH.out hR2H.out (by omega) b hb).mono ?_
    rintro e w4 (⟨m, T1, hA, rfl, hm, hR4, hl1, hl2⟩ | ⟨hA, rfl, hR4⟩)
    · have hM4 := hMH2.out
      rw [hA, Option.bind_some] at hM4
      have hMH4 := Lib.hid hM4
      have hR4H := Lib.hid hR4
      clear hM4 hA hR4 hMH2 hR2H
      go_wp2_with fail
      go_loopw [5, 60] (fun ok i wr => plRel (arrStep (arrM s f)) (btk L2, T1) m T1.length W0 rb mb a1 c1 s ok i wr) (fun _ i _ => m - (intOf i).toNat)
      case atStart => exact ⟨0, rfl, Nat.zero_le _, .inl ⟨L2, T1, rfl, rfl, hR4H.out, Nat.le_refl _, by omega⟩⟩
      case round =>
        obtain ⟨j, rfl, hj, hrel2⟩ := hrel
        by_cases hjm : j < m
        · rcases hrel2 with ⟨L', T', hl, rfl, hR', k1, k2⟩ | ⟨hl, rfl, L', T', hR'⟩
          · have hlH := Lib.hid hl
            have hRH := Lib.hid hR'
            clear hl hR'
            go_wp2_with fail
            refine (skip_rd hRH.out).mono ?_
            rintro e w5 ⟨v, L5, rfl, hR5, hs5⟩
            have hix := fun W => sign_ix j (by omega) W
            have henc := sign_enc j
            have hstep : loopM (arrStep (arrM s f)) (j + 1) (btk L2, T1) = if (nextW (btk L5)).1 = [signA j] then arrM s f ((nextW (btk L5)).2, T') else none := by
              rw [loopM, hlH.out, Option.bind_some]
              unfold arrStep
              simp only [hs5]
            obtain ⟨c, hc⟩ : ∃ c, signA j = c := ⟨_, rfl⟩
            rw [hc] at henc hstep
            simp only [hc] at hix
            clear hs5 hRH hlH hc
            have hR5d := hR5.later (Below.drew (.refl _ _))
            cases L5 with
            | nil =>
              have hq5 : (ByteArray.empty.toList == ([c] : List UInt8)) = false := str_not (fun e => by cases e)
              have hnx := Lib.hid (next_nil hR5d)
              have hstepH := Lib.hid hstep
              clear hstep
              have hr := Lib.hid (fun w' (hR6 : RdW W0 rb mb a1 c1 s w' [] T') => show plRel (arrStep (arrM s f)) (btk L2, T1) m T1.length W0 rb mb a1 c1 s (.bool false) (.int .i64 ((j : Int) + 1)) w' from ⟨j + 1, rfl, hjm, .inr ⟨by rw [hstepH.out]; rfl, rfl, [], T', hR6⟩⟩)
              clear hR5 hR5d
              go_wp2_with fail
              first | go_region_with (first | (go_at_call 74; (with_reducible refine hnx.out.mono ?_); rintro e w6 ⟨rfl, hR6⟩; have hr6 := Lib.hid (hr.out _ hR6); clear hR6)) | fail "region"
              all_goals (go_wp2_with fail; go_roundw; (case rel => exact hr6.out); (case measure => simp [intOf]; omega))
            | cons x L5 =>
              have hnx := Lib.hid (next_cons hR5d)
              clear hR5 hR5d
              by_cases hxc : x.data.toList = [c]
              · have hq5 := str_is hxc
                rw [show (nextW (btk (x :: L5))).1 = [c] from hxc, if_pos rfl] at hstep
                have hstepH := Lib.hid hstep
                clear hstep
                have hr := Lib.hid (fun z L7 T7 w' (hR7 : RdW W0 rb mb a1 c1 s w' L7 T7) (hz1 : z = true → arrM s f (btk L5, T') = some (btk L7, T7) ∧ T'.length ≤ T7.length ∧ T7.length ≤ 61) (hz2 : z = false → arrM s f (btk L5, T') = none) => show plRel (arrStep (arrM s f)) (btk L2, T1) m T1.length W0 rb mb a1 c1 s (.bool z) (.int .i64 ((j : Int) + 1)) w' from ⟨j + 1, rfl, hjm, by
                  cases z with
                  | true => exact .inl ⟨L7, T7, hstepH.out.trans (hz1 rfl).1, rfl, hR7, by have := (hz1 rfl).2.1; omega, (hz1 rfl).2.2⟩
                  | false => exact .inr ⟨hstepH.out.trans (hz2 rfl), rfl, L7, T7, hR7⟩⟩)
                clear hxc
                go_wp2_with fail
                first | go_region_with (first | (go_at_call 74; (with_reducible refine hnx.out.mono ?_); rintro e w6 ⟨rfl, hR6⟩; have hR6H := Lib.hid hR6; clear hR6) | (go_at_call 49; (with_reducible refine ((ihH.out _ _ _ hR6H.out k2 (by omega)).mono fun _ _ h => rdRet.z h).mono ?_); rintro e w7 ⟨z, L7, T7, rfl, hR7, hz1, hz2⟩; have hr7 := Lib.hid (hr.out z L7 T7 _ hR7 hz1 hz2); clear hR7 hz1 hz2)) | fail "region"
                all_goals (go_wp2_with fail; go_roundw; (case rel => exact hr7.out); (case measure => simp [intOf]; omega))
              · have hq5 := str_not hxc
                rw [if_neg (show ¬ (nextW (btk (x :: L5))).1 = [c] from hxc)] at hstep
                have hstepH := Lib.hid hstep
                clear hstep
                have hr := Lib.hid (fun w' (hR6 : RdW W0 rb mb a1 c1 s w' L5 T') => show plRel (arrStep (arrM s f)) (btk L2, T1) m T1.length W0 rb mb a1 c1 s (.bool false) (.int .i64 ((j : Int) + 1)) w' from ⟨j + 1, rfl, hjm, .inr ⟨hstepH.out, rfl, L5, T', hR6⟩⟩)
                clear hxc
                go_wp2_with fail
                first | go_region_with (first | (go_at_call 74; (with_reducible refine hnx.out.mono ?_); rintro e w6 ⟨rfl, hR6⟩; have hr6 := Lib.hid (hr.out _ hR6); clear hR6)) | fail "region"
                all_goals (go_wp2_with fail; go_roundw; (case rel => exact hr6.out); (case measure => simp [intOf]; omega))
          · have hlH := Lib.hid hl
            have hRH := Lib.hid hR'
            clear hl hR'
            go_wp2_with fail
            refine (skip_rd hRH.out).mono ?_
            rintro e w5 ⟨v, L5, rfl, hR5, hs5⟩
            have hR5d := hR5.later (Below.drew (.refl _ _))
            have hr := Lib.hid (show plRel (arrStep (arrM s f)) (btk L2, T1) m T1.length W0 rb mb a1 c1 s (.bool false) (.int .i64 ((j : Int) + 1)) w5.drew from ⟨j + 1, rfl, hjm, .inr ⟨by rw [loopM, hlH.out]; rfl, rfl, L5, T', hR5d⟩⟩)
            clear hR5 hR5d hs5 hRH hlH
            go_wp2_with fail
            first | go_region_with (fail) | fail "region"
            all_goals (go_wp2_with fail; go_roundw; (case rel => exact hr.out); (case measure => simp [intOf]; omega))
        · have hjj : j = m := by omega
          subst hjj
          rcases hrel2 with ⟨L', T', hl, rfl, hR', k1, k2⟩ | ⟨hl, rfl, L', T', hR'⟩
          · have hM6 := hMH4.out
            rw [hl, Option.bind_some] at hM6
            by_cases hm0 : 0 < j
            · rw [if_pos hm0] at hM6
              unfold closeM at hM6
              have hMH6 := Lib.hid hM6
              have hRH := Lib.hid hR'
              clear hM6 hl hR' hMH4
              go_wp2_with fail
              refine (skip_rd hRH.out).mono ?_
              rintro e w6 ⟨v, L6, rfl, hR6, hs6⟩
              have hR6H := Lib.hid hR6
              have hs6H := Lib.hid hs6
              clear hR6 hs6 hRH
              go_wp2_with fail
              refine (next_rd hR6H.out).mono ?_
              rintro e w7 ⟨b7, L7, rfl, hb7, hR7, hn7⟩
              rw [hs6H.out] at hn7
              have hM7 := hMH6.out
              simp only [hn7] at hM7
              clear hn7 hR6H hs6H hMH6
              by_cases h41 : b7.data.toList = [41]
              · have hq := str_is h41
                rw [if_pos h41] at hM7
                have hr := Lib.hid (show rdRet M W0 rb mb a1 c1 s T (.returned (.bool true)) w7 from .inl ⟨L7, T', hM7.symm, rfl, hR7, by omega, k2⟩)
                clear hM7 h41 hR7
                go_wp2_with fail
                go_ret
                exact hr.out
              · have hq := str_not h41
                rw [if_neg h41] at hM7
                have hr := Lib.hid (show rdRet M W0 rb mb a1 c1 s T (.returned (.bool false)) w7 from .inr ⟨hM7.symm, rfl, L7, T', hR7⟩)
                clear hM7 h41 hR7
                go_wp2_with fail
                go_ret
                exact hr.out
            · rw [if_neg hm0] at hM6
              have hj0 : j = 0 := by omega
              have hr := Lib.hid (show rdRet M W0 rb mb a1 c1 s T (.returned (.bool true)) wr from .inl ⟨L', T', hM6.symm, rfl, hR', by omega, k2⟩)
              clear hM6 hl hR' hMH4
              subst hj0
              go_wp2_with fail
              go_ret
              exact hr.out
          · have hM6 := hMH4.out
            rw [hl, Option.bind_none] at hM6
            by_cases hm0 : 0 < j
            · have hMH6 := Lib.hid hM6
              have hRH := Lib.hid hR'
              clear hM6 hl hR' hMH4
              go_wp2_with fail
              refine (skip_rd hRH.out).mono ?_
              rintro e w6 ⟨v, L6, rfl, hR6, hs6⟩
              have hr := Lib.hid (show rdRet M W0 rb mb a1 c1 s T (.returned (.bool false)) w6 from .inr ⟨hMH6.out.symm, rfl, L6, T', hR6⟩)
              clear hR6 hs6 hRH hMH6
              go_wp2_with fail
              go_ret
              exact hr.out
            · have hj0 : j = 0 := by omega
              have hr := Lib.hid (show rdRet M W0 rb mb a1 c1 s T (.returned (.bool false)) wr from .inr ⟨hM6.symm, rfl, L', T', hR'⟩)
              clear hM6 hl hR' hMH4
              subst hj0
              go_wp2_with fail
              go_ret
              exact hr.out
    · have hM4 := hMH2.out
      rw [hA, Option.bind_none] at hM4
      have hr := Lib.hid (show rdRet M W0 rb mb a1 c1 s T (.returned (.bool false)) w4 from .inr ⟨hM4.symm, rfl, L2, T, hR4⟩)
      clear hM4 hA hR4 hMH2 hR2H
      go_wp2_with fail
      go_loopw [5, 60] (fun ok i wr => ok = .bool false ∧ i = .int .i64 0 ∧ wr = w4) (fun _ _ _ => 0)
      case atStart => exact ⟨rfl, rfl, rfl⟩
      case round =>
        obtain ⟨rfl, rfl, rfl⟩ := hrel
        go_wp2_with fail
        go_ret
        exact hr.out
end
end Go.Proofs.YtnhaoalcpbefoaaDoor
