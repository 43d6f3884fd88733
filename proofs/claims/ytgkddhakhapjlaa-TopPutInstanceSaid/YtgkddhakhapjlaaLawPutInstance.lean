/- The law TopPutInstance, walked. -/
import Derived.Test.YtgkddhakhapjlaaUAwake
import Derived.Test.YtgkddhakhapjlaaUInst
import Derived.Test.YtgkddhakhapjlaaWalkT
namespace Go.Proofs.Ytgkddhakhapjlaa
open Go Go.RowKit Go.Maps

theorem codes_le {t : List Int} {v : Nat} (h : ∀ i : Nat, i < v → -(i : Int) - 1 ∈ t) : v ≤ t.length := by
  have := nodup_len (l := (List.range v).map (fun i : Nat => -(i : Int) - 1)) (F := t) ?_ (fun x hx => by
    obtain ⟨i, hi, rfl⟩ := List.mem_map.1 hx
    exact h i (List.mem_range.1 hi))
  · simpa using this
  · rw [List.nodup_iff_pairwise_ne, List.pairwise_map]
    exact List.Pairwise.imp (fun {a b} h e => h (by omega)) (List.nodup_iff_pairwise_ne.1 List.nodup_range)
def putRel (t : List Int) (v : Value) (wr w : World) : Prop := ∃ k : Nat, v = .int .i64 k ∧ (∀ i : Nat, i < k → -(i : Int) - 1 ∈ t) ∧ wr = w
set_option maxRecDepth 20000 in
set_option maxHeartbeats 8000000 in
theorem TopPutInstance_walk {S S' : Nat → Prop} (p : Option Addr) (k : Nat) (s : Sg) (a0 a1 a2 : Option Addr) (c0 c1 c2 : Nat) (t0 t1 t2 : List Int) (w : World) (hs : Sign S' w p k s) (h0 : Ints S w a0 c0 t0) (h1 : Ints S w a1 c1 t1) (h2 : Ints S w a2 c2 t2) :
    Calls Try.prog 3 #[.slice p s.length k, .agg #[.slice a0 t0.length c0, .slice a1 t1.length c1, .slice a2 t2.length c2]] w fun e w' => e = .returned (.bool true) ∧ Below w.heap.size w w' := by
  have m1 := h1.le
  have m0 := h0.le
  go_enter Try.func3, Try.ntmps3
  go_wp2_with fail
  have hB := below2 w (.cells #[.slice a0 t0.length c0, .slice a1 t1.length c1, .slice a2 t2.length c2] 27) (.cells #[.slice a0 t0.length c0, .slice a2 t2.length c2] 25)
  have hTs0 := Sl.new (E := slE intE) (S := S) (w.alloc (.cells #[.slice a0 t0.length c0, .slice a1 t1.length c1, .slice a2 t2.length c2] 27)) [[.slice a0 t0.length c0], [.slice a2 t2.length c2]] [t0, t2] 25 rfl (by unfold big; simp) (fun i g1 g2 => by
      match i, g1 with
      | 0, _ => exact ⟨_, _, rfl, h0.below (below1 w (.cells #[.slice a0 t0.length c0, .slice a1 t1.length c1, .slice a2 t2.length c2] 27))⟩
      | 1, _ => exact ⟨_, _, rfl, h2.below (below1 w (.cells #[.slice a0 t0.length c0, .slice a1 t1.length c1, .slice a2 t2.length c2] 27))⟩)
  rw [World.size_alloc] at hTs0
  have hTs := hTs0.any
  have q0 : ((w.alloc (.cells #[.slice a0 t0.length c0, .slice a1 t1.length c1, .slice a2 t2.length c2] 27)).alloc (.cells #[.slice a0 t0.length c0, .slice a2 t2.length c2] 25)).cell? ⟨w.heap.size, 0, none⟩ = some (.slice a0 t0.length c0) := by go_simp
  have q1 : ((w.alloc (.cells #[.slice a0 t0.length c0, .slice a1 t1.length c1, .slice a2 t2.length c2] 27)).alloc (.cells #[.slice a0 t0.length c0, .slice a2 t2.length c2] 25)).cell? ⟨w.heap.size, 1, none⟩ = some (.slice a1 t1.length c1) := by go_simp
  have q2 : ((w.alloc (.cells #[.slice a0 t0.length c0, .slice a1 t1.length c1, .slice a2 t2.length c2] 27)).alloc (.cells #[.slice a0 t0.length c0, .slice a2 t2.length c2] 25)).cell? ⟨w.heap.size, 2, none⟩ = some (.slice a2 t2.length c2) := by go_simp
  have hs1 := hs.below hB
  have h01 := h0.below hB
  have h11 := h1.below hB
  have h21 := h2.below hB
  refine (Small_any p (some ⟨w.heap.size + 1, 0, none⟩) k 2 s [t0, t2] ((w.alloc (.cells #[.slice a0 t0.length c0, .slice a1 t1.length c1, .slice a2 t2.length c2] 27)).alloc (.cells #[.slice a0 t0.length c0, .slice a2 t2.length c2] 25)) hs1 hTs).mono ?_
  clear hTs hTs0 hs h0 h1 h2
  generalize ((w.alloc (.cells #[.slice a0 t0.length c0, .slice a1 t1.length c1, .slice a2 t2.length c2] 27)).alloc (.cells #[.slice a0 t0.length c0, .slice a2 t2.length c2] 25)) = W at *
  obtain ⟨sm, hsm⟩ : ∃ b, smallT s [t0, t2] = b := ⟨_, rfl⟩
  rw [hsm]
  rintro e w' ⟨rfl, rfl⟩
  cases sm with
  | false =>
    clear hsm
    go_wp2_with fail
    refine (awake5_any W).mono ?_
    rintro e w1 ⟨rfl, hb1⟩
    go_wp2_with fail
    go_ret
    exact ⟨rfl, hB.trans (hb1.mono hB.size)⟩
  | true =>
    by_cases hlen : t1.length ≤ 100
    · have hl4 : decide ((100 : Int) < (t1.length : Int)) = false := by simp; omega
      have ht200 : t0.length ≤ 200 := by
        simp only [smallT, List.all_cons, Bool.and_eq_true, decide_eq_true_eq] at hsm; omega
      clear hsm hlen
      go_wp2_with fail
      go_loopw [5] (fun v wr => putRel t0 v wr W) (fun v _ => t0.length + 1 - (intOf v).toNat)
      case atStart => exact ⟨0, rfl, (fun i h => by omega), rfl⟩
      case round =>
        obtain ⟨v, rfl, hv, rfl⟩ := hrel
        have hvl := codes_le hv
        have e1 : IntKind.i64.wrap (-(v : Int)) = -(v : Int) := IntWalk.i64_in _ (by omega)
        have e2 : IntKind.i64.wrap (-(v : Int) - 1) = -(v : Int) - 1 := IntWalk.i64_in _ (by omega)
        have ch := Has_any a0 c0 t0 (-(v : Int) - 1) _ h01
        by_cases hin : -(v : Int) - 1 ∈ t0
        · rw [decide_eq_true hin] at ch
          have chH := Lib.hid ch
          have hvH := Lib.hid (show ∀ i : Nat, i < v + 1 → -(i : Int) - 1 ∈ t0 from fun i hi => by
            by_cases e : i = v
            · rw [e]; exact hin
            · exact hv i (by omega))
          clear ch hv hin
          go_wp2_with fail
          refine chH.out.mono ?_
          rintro e w1 ⟨rfl, rfl⟩
          go_wp2_with fail
          go_roundw
          case rel => exact ⟨v + 1, by go_num, hvH.out, rfl⟩
          case measure => simp [intOf]; omega
        · rw [decide_eq_false hin] at ch
          have chH := Lib.hid ch
          have hinH := Lib.hid hin
          clear ch hv hin
          go_wp2_with fail
          refine chH.out.mono ?_
          rintro e w1 ⟨rfl, rfl⟩
          clear chH
          by_cases hv12 : v < 12
          · have hi := hole_inst (s := s) (t := t0) (p := t1) (u := t2) (c := -(v : Int) - 1) (by omega) hinH.out
            have hV := Ints.new wr [-(v : Int) - 1] 3 (by simp [big]) (by unfold inRange; simp; omega)
            have hbV := below1 wr (.cells ([-(v : Int) - 1].map (Value.int .i64)).toArray 3)
            have k1 := Put_any p a0 a1 (some ⟨wr.heap.size, 0, none⟩) k c0 c1 1 s t0 t1 [-(v : Int) - 1] _ (hs1.below hbV) (h01.below hbV) (h11.below hbV) hV
            have k2 := fun W' (hb : Below wr.heap.size wr W') => Put_any p a0 a1 a2 k c0 c1 c2 s t0 t1 t2 W' (hs1.below hb) (h01.below hb) (h11.below hb) (h21.below hb)
            have k4 := fun W' (hb : Below wr.heap.size wr W') T a5 c5 u (hu : Ints T W' a5 c5 u) T' a6 c6 u' (hu' : Ints T' W' a6 c6 u') => Instance_any p a5 a6 k c5 c6 s u u' W' (hs1.below hb) hu hu'
            obtain ⟨⟨al, an⟩, hce⟩ : ∃ r, putE s t0 t1 [-(v : Int) - 1] = r := ⟨_, rfl⟩
            obtain ⟨⟨cl, cn⟩, hpe⟩ : ∃ r, putE s t0 t1 t2 = r := ⟨_, rfl⟩
            rw [hce] at k1
            rw [hpe] at k2
            rw [hce, hpe] at hi
            simp only at hi
            have hiH := Lib.hid hi
            have k1H := Lib.hid k1
            have k2H := Lib.hid k2
            have k4H := Lib.hid k4
            have hv12b : decide ((12 : Int) ≤ (v : Int)) = false := by simp; omega
            clear hi k1 k2 k4 hce hpe hV hs1 h11 h21
            go_wp2_with fail
            refine k1H.out.mono ?_
            rintro e w2 ⟨v1, rfl, o1, b1⟩
            obtain ⟨a3, c3, rfl, i3⟩ := OwnI.ints o1
            have b1 := bcall hbV b1
            have q0 := cell_later b1 q0
            have q1 := cell_later b1 q1
            have q2 := cell_later b1 q2
            clear o1 k1H
            go_wp2_with fail
            refine (k2H.out _ b1).mono ?_
            rintro e w3 ⟨v2, rfl, o2, b2⟩
            obtain ⟨a4, c4, rfl, i4⟩ := OwnI.ints o2
            have q0 := cell_later b2 q0
            have i3 := i3.below b2
            have b2 := bcall b1 b2
            clear o2 k2H q1 q2
            by_cases han : an = 0
            · subst han
              by_cases hcn : cn = 0
              · subst hcn
                obtain ⟨g1, g2, g3, g4, g5⟩ := hiH.out rfl rfl
                have k5 := k4H.out w3 b2 _ _ _ _ i3 _ _ _ _ i4
                have k6 := fun W' (hb : Below w3.heap.size w3 W') => k4H.out W' (bcall b2 hb) _ _ _ _ (i3.below hb) _ _ _ _ (h01.below (bcall b2 hb))
                rw [g1, g2, g4] at k5
                rw [g1, g3, g5] at k6
                have k5H := Lib.hid k5
                have k6H := Lib.hid k6
                clear k5 k6 g1 g2 g3 g4 g5 k4H hiH
                go_wp2_with fail
                refine k5H.out.mono ?_
                rintro e w4 ⟨rfl, b4⟩
                have q0 := cell_later b4 q0
                clear k5H
                go_wp2_with fail
                refine (k6H.out _ b4).mono ?_
                rintro e w5 ⟨rfl, b5⟩
                have b5 := bcall (bcall b2 b4) b5
                clear k6H q0
                go_wp2_with fail
                refine (awake5_any _).mono ?_
                rintro e w9 ⟨rfl, b9⟩
                go_wp2_with fail
                go_ret
                exact ⟨rfl, bcall hB (bcall b5 b9)⟩
              · have hcn2 : (cn != 0) = true := by simpa using hcn
                clear i3 i4 k4H hiH
                go_wp2_with fail
                refine (awake5_any _).mono ?_
                rintro e w9 ⟨rfl, b9⟩
                go_wp2_with fail
                go_ret
                exact ⟨rfl, bcall hB (bcall b2 b9)⟩
            · have han2 : (an != 0) = true := by simpa using han
              clear i3 i4 k4H hiH
              go_wp2_with fail
              refine (awake5_any _).mono ?_
              rintro e w9 ⟨rfl, b9⟩
              go_wp2_with fail
              go_ret
              exact ⟨rfl, bcall hB (bcall b2 b9)⟩
          · have hv12b : decide ((12 : Int) ≤ (v : Int)) = true := by simp; omega
            go_wp2_with fail
            refine (awake5_any wr).mono ?_
            rintro e w2 ⟨rfl, hb1⟩
            go_wp2_with fail
            go_ret
            exact ⟨rfl, hB.trans (hb1.mono hB.size)⟩
    · have hl4 : decide ((100 : Int) < (t1.length : Int)) = true := by simp; omega
      clear hlen
      go_wp2_with fail
      refine (awake5_any W).mono ?_
      rintro e w1 ⟨rfl, hb1⟩
      go_wp2_with fail
      go_ret
      exact ⟨rfl, hB.trans (hb1.mono hB.size)⟩
end Go.Proofs.Ytgkddhakhapjlaa
