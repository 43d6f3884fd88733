/- Walks: Put of the reference. -/
import Derived.Test.YtgpfdflpkaeedaaWalkT
namespace Go.Proofs.Ytgpfdflpkaeedaa
open Go Go.RowKit Go.Maps

set_option maxRecDepth 20000 in
set_option maxHeartbeats 4000000 in
theorem rPut_any {S1 S2 S3 S4 : Nat → Prop} (a1 a2 a3 a4 : Option Addr) (c1 c2 c3 c4 : Nat) (s : Sg) (t p u : List Int) (w : World) (h1 : Sign S1 w a1 c1 s) (h2 : Ints S2 w a2 c2 t) (h3 : Ints S3 w a3 c3 p) (h4 : Ints S4 w a4 c4 u) :
    Calls Try.prog 47 #[.slice a1 s.length c1, .slice a2 t.length c2, .slice a3 p.length c3, .slice a4 u.length c4] w (retE (putE s t p u) w) := by
  have m2 := h2.le
  have m4 := h4.le
  have v1 := rValid_any a1 a2 c1 c2 s t w h1 h2
  have v2 := fun W (hb : Drew w W) => rValid_any a1 a4 c1 c4 s u W (h1.drew hb) (h4.drew hb)
  obtain ⟨x, hx⟩ : ∃ x, okT s t = x := ⟨_, rfl⟩
  obtain ⟨x2, hx2⟩ : ∃ x, okT s u = x := ⟨_, rfl⟩
  rw [hx] at v1
  rw [hx2] at v2
  have v1H := Lib.hid v1
  have v2H := Lib.hid v2
  clear v1 v2
  cases x with
  | false =>
    rw [putE_1 (by rw [hx]; simp)]
    clear hx hx2
    go_enter Try.func47, Try.ntmps47
    go_wp2_with (go_at_call 26; refine v1H.out.mono ?_; rintro e w1 ⟨rfl, hb⟩)
    go_ret2
    exact ⟨_, rfl, .nil _ _ _ _ _, hb.below _⟩
  | true =>
  cases x2 with
  | false =>
    rw [putE_1 (by rw [hx2]; simp)]
    clear hx hx2
    go_enter Try.func47, Try.ntmps47
    go_wp2_with fail
    refine v1H.out.mono ?_
    rintro e w1 ⟨rfl, hb⟩
    go_wp2_with fail
    refine (v2H.out _ hb).mono ?_
    rintro e w2 ⟨rfl, hb2⟩
    go_wp2_with fail
    go_ret2
    exact ⟨_, rfl, .nil _ _ _ _ _, (hb.below _).trans (hb2.below _)⟩
  | true =>
  have cs := fun W (hb : Below w.heap.size w W) => rwalk_any a1 a2 a3 c1 c2 c3 s t p W (h1.below hb) (h2.below hb) (h3.below hb) hx
  unfold walkV at cs
  cases hp : place s t p 0 with
  | none =>
    rw [putE_8 ⟨hx, hx2⟩ hp]
    simp only [hp] at cs
    have csH := Lib.hid cs
    clear hx hx2 cs hp
    go_enter Try.func47, Try.ntmps47
    go_wp2_with fail
    refine v1H.out.mono ?_
    rintro e w1 ⟨rfl, hb⟩
    go_wp2_with fail
    refine (v2H.out _ hb).mono ?_
    rintro e w2 ⟨rfl, hb2⟩
    have hB2 := (hb.below w.heap.size).trans (hb2.below _)
    go_wp2_with fail
    refine (csH.out _ hB2).mono ?_
    rintro e w3 ⟨rfl, hb3⟩
    go_wp2_with fail
    go_ret2
    exact ⟨_, rfl, .nil _ _ _ _ _, bcall hB2 hb3⟩
  | some z =>
    simp only [hp] at cs
    obtain ⟨r, hr, -⟩ := (place_sub p (okT_skip0 hx)).1 z hp
    obtain ⟨e1, e2, e3, e4⟩ := part_split hr
    have hsg := (okT_parts hx).1
    have ht60 := (okT_parts hx).2.2.1
    have hu60 := (okT_parts hx2).2.2.1
    have hE4 := fun h => putE_4 ⟨hx, hx2⟩ hp h
    have hE0 := fun h => putE_0 ⟨hx, hx2⟩ hp h
    have hcap := h2.cap
    have mc := h2.max
    unfold big at mc
    obtain ⟨b, o, rfl, -, -, -⟩ := h2.int 0 (by omega)
    have ce := fun W hW1 hW2 => rEnd_any (S1 := S1) (S2 := S2) a1 (some ⟨b, o, none⟩) c1 c2 s t z r W hW1 hW2 hsg hr
    obtain ⟨y, hy⟩ : ∃ y, t.length - r.length = y := ⟨_, rfl⟩
    rw [hy] at ce e1
    rw [e1] at e2
    have hyt : y ≤ t.length := by omega
    have hzl : z ≤ t.length := by omega
    have hzc : z ≤ c2 := by omega
    have hyc : y ≤ c2 := by omega
    obtain ⟨F, hF⟩ : ∃ F, putL s t u z = F := ⟨_, rfl⟩
    have hF2 : t.take z ++ (u ++ t.drop y) = F := by rw [← hF]; unfold putL; rw [e1]
    rw [hF] at hE4 hE0
    have happ : ∀ W (_ : Below w.heap.size w W), ∃ x1 W1 x2 W2 x3 W3,
        RowKit.Hid ((Builtin.append_ #[25, 25] 25 #[.slice (some ⟨W.heap.size, 0, none⟩) 0 0, .slice (some ⟨b, o, none⟩) z c2]).run Try.prog (W.alloc (.cells #[] 3)) = .ok x1 W1) ∧
        RowKit.Hid ((Builtin.append_ #[25, 25] 25 #[x1, .slice a4 u.length c4]).run Try.prog W1 = .ok x2 W2) ∧
        RowKit.Hid (Calls Try.prog 78 #[.slice a1 s.length c1, .slice (some ⟨b, o, none⟩) t.length c2, .int .i64 z] W2 fun e w' => e = .returned (.int .i64 y) ∧ W2 = w') ∧
        RowKit.Hid ((Builtin.append_ #[25, 25] 25 #[x2, .slice (if c2 = y then some ⟨b, o, none⟩ else some ⟨b, o + y, none⟩) (t.length - y) (c2 - y)]).run Try.prog W2 = .ok x3 W3) ∧
        (∃ a8 c8, x3 = .slice a8 F.length c8) ∧ RowKit.Hid (OwnI W3 w.heap.size x3 F) ∧ RowKit.Hid (Below w.heap.size w W3) := by
      intro W hb
      have l1 : (t.take z).length = z := by rw [List.length_take]; omega
      have l3 : (t.drop y).length = t.length - y := List.length_drop
      have hb0 : Below w.heap.size w (W.alloc (.cells #[] 3)) := hb.trans ((below1 _ _).mono hb.size)
      have ho0 := OwnL.made intE (fun _ => False) W w.heap.size 3 hb.size
      obtain ⟨x1, W1, r1, o1, b1⟩ := ints_append ho0 ((Ints.headPart h2 z hzl).below hb0) (by rw [l1]; simp; omega) hb0.size
      rw [l1] at r1
      have B1 := hb0.trans b1.out
      obtain ⟨x2, W2, r2, o2, b2⟩ := ints_append o1.out (h4.below B1) (by simp [l1]; omega) B1.size
      have B2 := B1.trans b2.out
      obtain ⟨x3, W3, r3, o3, b3⟩ := ints_append o2.out ((Ints.tail h2 y hyt).below B2) (by simp [l1, l3]; omega) B2.size
      rw [l3] at r3
      have B3 := B2.trans b3.out
      have o3' := o3.out
      have hfl : ([] ++ t.take z ++ u) ++ t.drop y = F := by rw [← hF2]; simp
      rw [hfl] at o3'
      obtain ⟨a8, c8, he, -⟩ := o3'.ints
      exact ⟨x1, W1, x2, W2, x3, W3, r1, r2, Lib.hid (ce W2 (h1.below B2) (h2.below B2)), r3, ⟨a8, c8, he⟩, Lib.hid o3', Lib.hid B3⟩
    have csH := Lib.hid cs
    have happH := Lib.hid happ
    have hE0H := Lib.hid hE0
    have hE4H := Lib.hid hE4
    clear hx hx2 cs hp hE0 hE4 happ hF hF2 e1 e2 e3 e4 hr hy h1 h2 h3 h4 ce hsg
    go_enter Try.func47, Try.ntmps47
    go_wp2_with fail
    refine v1H.out.mono ?_
    rintro e w1 ⟨rfl, hb⟩
    go_wp2_with fail
    refine (v2H.out _ hb).mono ?_
    rintro e w2 ⟨rfl, hb2⟩
    have hB2 := (hb.below w.heap.size).trans (hb2.below _)
    clear hb hb2
    go_wp2_with fail
    refine (csH.out _ hB2).mono ?_
    rintro e w3 ⟨rfl, hb3⟩
    obtain ⟨x1, W1, x2, W2, x3, W3, r1, r2, ceH, r3, ⟨a8, c8, rfl⟩, hoH, hB9⟩ := happH.out w3 (bcall hB2 hb3)
    clear v1H v2H csH hb3 happH
    go_wp2_with (first
      | (at_builtin; refine wpList_append_run rfl (.tmp 28) (.tmp 31) _ rfl rfl rfl r1.out ?_)
      | (at_builtin; refine wpList_append_run rfl (.tmp 32) (.tmp 33) _ rfl rfl rfl r2.out ?_)
      | (go_at_call 78; refine ceH.out.mono ?_; rintro e w' ⟨rfl, rfl⟩)
      | (at_builtin; refine wpList_append_run rfl (.tmp 34) (.tmp 40) _ rfl rfl rfl r3.out ?_))
    all_goals go_ret2
    all_goals first
      | (rw [hE4H.out (by omega)]; exact ⟨_, rfl, .nil _ _ _ _ _, hB9.out⟩)
      | (rw [hE0H.out (by omega)]; exact ⟨_, rfl, hoH.out, hB9.out⟩)
end Go.Proofs.Ytgpfdflpkaeedaa
