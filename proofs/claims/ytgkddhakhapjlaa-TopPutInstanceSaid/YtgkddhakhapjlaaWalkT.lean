/- Walks: Put, of both. -/
import Derived.Test.YtgkddhakhapjlaaWalkO
import Derived.Test.YtgkddhakhapjlaaWalkP
import Derived.Test.YtgkddhakhapjlaaMath6
import Derived.Test.YtgkddhakhapjlaaRegion
namespace Go.Proofs.Ytgkddhakhapjlaa
open Go Go.RowKit Go.Maps

theorem Ints.nilAt {S : Nat → Prop} {w : World} {ad : Addr} {c : Nat} (hc : c ≤ big) : Ints S w (some ad) c [] := ⟨Nat.zero_le _, hc, fun h => (by cases h), fun h => (h rfl).elim⟩
/-- a slice's end, as the model lays it -/
theorem Ints.tail {S : Nat → Prop} {w : World} {b o c : Nat} {l : List Int} (h : Ints S w (some ⟨b, o, none⟩) c l) (y : Nat) (hy : y ≤ l.length) :
    Ints S w (if c = y then some ⟨b, o, none⟩ else some ⟨b, o + y, none⟩) (c - y) (l.drop y) := by
  have hcap := h.cap
  have hmax := h.max
  by_cases hc : c = y
  · rw [if_pos hc]
    have he : l.drop y = [] := List.drop_eq_nil_of_le (by omega)
    rw [he]
    exact Ints.nilAt (by omega)
  · rw [if_neg hc]
    have := Ints.part h y l.length (c - y) hy (Nat.le_refl _) (by omega) (by omega)
    rwa [List.take_of_length_le (by rw [List.length_drop]; exact Nat.le_refl _)] at this
theorem Ints.headPart {S : Nat → Prop} {w : World} {b o c : Nat} {l : List Int} (h : Ints S w (some ⟨b, o, none⟩) c l) (z : Nat) (hz : z ≤ l.length) : Ints S w (some ⟨b, o, none⟩) c (l.take z) := by
  have hcap := h.cap
  have := Ints.part h 0 z c (Nat.zero_le _) hz (by omega) (Nat.le_refl _)
  simpa using this

set_option maxRecDepth 20000 in
set_option maxHeartbeats 4000000 in
theorem Put_any {S1 S2 S3 S4 : Nat → Prop} (a1 a2 a3 a4 : Option Addr) (c1 c2 c3 c4 : Nat) (s : Sg) (t p u : List Int) (w : World) (h1 : Sign S1 w a1 c1 s) (h2 : Ints S2 w a2 c2 t) (h3 : Ints S3 w a3 c3 p) (h4 : Ints S4 w a4 c4 u) :
    Calls Try.prog 8 #[.slice a1 s.length c1, .slice a2 t.length c2, .slice a3 p.length c3, .slice a4 u.length c4] w (retE (putE s t p u) w) := by
  have m2 := h2.le
  have m4 := h4.le
  have v1 := Valid_any a1 a2 c1 c2 s t w h1 h2
  have v2 := fun W (hb : Below w.heap.size w W) => Valid_any a1 a4 c1 c4 s u W (h1.below hb) (h4.below hb)
  obtain ⟨x, hx⟩ : ∃ x, okT s t = x := ⟨_, rfl⟩
  obtain ⟨x2, hx2⟩ : ∃ x, okT s u = x := ⟨_, rfl⟩
  rw [hx] at v1
  rw [hx2] at v2
  have v1H := Lib.hid v1
  have v2H := Lib.hid v2
  clear v1 v2
  cases x with
  | false =>
    rw [putE_1 (by rw [hx]; simp)]
    clear hx hx2
    go_enter Try.func8, Try.ntmps8
    go_wp2_with (go_at_call 15; refine v1H.out.mono ?_; rintro e w1 ⟨rfl, hb⟩)
    go_ret2
    exact ⟨_, rfl, .nil _ _ _ _ _, hb⟩
  | true =>
  cases x2 with
  | false =>
    rw [putE_1 (by rw [hx2]; simp)]
    clear hx hx2
    go_enter Try.func8, Try.ntmps8
    go_wp2_with fail
    refine v1H.out.mono ?_
    rintro e w1 ⟨rfl, hb⟩
    go_wp2_with fail
    refine (v2H.out _ hb).mono ?_
    rintro e w2 ⟨rfl, hb2⟩
    go_wp2_with fail
    go_ret2
    exact ⟨_, rfl, .nil _ _ _ _ _, bcall hb hb2⟩
  | true =>
  have cs := fun W (hb : Below w.heap.size w W) => span_any a1 a2 a3 c1 c2 c3 s t p W (h1.below hb) (h2.below hb) (h3.below hb) hx
  unfold spanV at cs
  cases hp : place s t p 0 with
  | none =>
    rw [putE_8 ⟨hx, hx2⟩ hp]
    simp only [hp] at cs
    have csH := Lib.hid cs
    clear hx hx2 cs hp
    go_enter Try.func8, Try.ntmps8
    go_wp2_with fail
    refine v1H.out.mono ?_
    rintro e w1 ⟨rfl, hb⟩
    go_wp2_with fail
    refine (v2H.out _ hb).mono ?_
    rintro e w2 ⟨rfl, hb2⟩
    go_wp2_with fail
    refine (csH.out _ (bcall hb hb2)).mono ?_
    rintro e w3 ⟨rfl, hb3⟩
    go_wp2_with fail
    go_ret2
    exact ⟨_, rfl, .nil _ _ _ _ _, bcall (bcall hb hb2) hb3⟩
  | some z =>
    simp only [hp] at cs
    obtain ⟨r, hr, -⟩ := (place_sub p (okT_skip0 hx)).1 z hp
    obtain ⟨e1, e2, e3, e4⟩ := part_split hr
    have ht60 := (okT_parts hx).2.2.1
    have hu60 := (okT_parts hx2).2.2.1
    have hE4 := fun h => putE_4 ⟨hx, hx2⟩ hp h
    have hE0 := fun h => putE_0 ⟨hx, hx2⟩ hp h
    have hcap := h2.cap
    have mc := h2.max
    unfold big at mc
    obtain ⟨b, o, rfl, -, -, -⟩ := h2.int 0 (by omega)
    obtain ⟨y, hy⟩ : ∃ y, z + (partAt s (t.drop z)).length = y := ⟨_, rfl⟩
    rw [hy] at cs e1 e2
    have hyt : y ≤ t.length := by omega
    have hzc : z ≤ c2 := by omega
    have hzl : z ≤ t.length := by omega
    obtain ⟨F, hF⟩ : ∃ F, putL s t u z = F := ⟨_, rfl⟩
    have hF2 : t.take z ++ (u ++ t.drop y) = F := by rw [← hF]; unfold putL; rw [hy]
    rw [hF] at hE4 hE0
    have hcat : ∀ W', Below w.heap.size w W' → Calls Try.prog 17 #[.slice (some ⟨W'.heap.size, 0, none⟩) 3 3] (W'.alloc (.cells #[.slice (some ⟨b, o, none⟩) z c2, .slice a4 u.length c4, .slice (if c2 = y then some ⟨b, o, none⟩ else some ⟨b, o + y, none⟩) (t.length - y) (c2 - y)] 25)) (retOwn (W'.alloc (.cells #[.slice (some ⟨b, o, none⟩) z c2, .slice a4 u.length c4, .slice (if c2 = y then some ⟨b, o, none⟩ else some ⟨b, o + y, none⟩) (t.length - y) (c2 - y)] 25)) F) := by
      intro W' hb
      have i1 := (Ints.headPart h2 z hzl).any.below hb
      have i2 := h4.any.below hb
      have i3 := (Ints.tail h2 y hyt).any.below hb
      have l1 : (t.take z).length = z := by rw [List.length_take]; omega
      have l3 : (t.drop y).length = t.length - y := List.length_drop
      have hT := Sl.new (E := slE intE) (S := fun _ => True) W' [[.slice (some ⟨b, o, none⟩) z c2], [.slice a4 u.length c4], [.slice (if c2 = y then some ⟨b, o, none⟩ else some ⟨b, o + y, none⟩) (t.length - y) (c2 - y)]] [t.take z, u, t.drop y] 25 rfl (by unfold big; simp) (fun i g1 g2 => by
        match i, g1 with
        | 0, _ => exact ⟨_, _, by simp [l1], i1⟩
        | 1, _ => exact ⟨_, _, rfl, i2⟩
        | 2, _ => exact ⟨_, _, by simp only [List.getElem_cons_succ, List.getElem_cons_zero, l3], i3⟩)
      have hcc := Concat_any _ _ _ _ hT (by unfold lim; simp only [List.flatten_cons, List.length_append, List.flatten_nil, List.length_nil, l1, l3]; omega)
      have hfl : [t.take z, u, t.drop y].flatten = F := by rw [← hF2]; simp
      rw [hfl] at hcc
      exact hcc
    have csH := Lib.hid cs
    have hcatH := Lib.hid hcat
    have hE0H := Lib.hid hE0
    have hE4H := Lib.hid hE4
    clear hx hx2 cs hp hE0 hE4 hcat hF hF2 e1 e2 e3 e4 hr hy h1 h2 h3 h4
    go_enter Try.func8, Try.ntmps8
    go_wp2_with fail
    refine v1H.out.mono ?_
    rintro e w1 ⟨rfl, hb⟩
    go_wp2_with fail
    refine (v2H.out _ hb).mono ?_
    rintro e w2 ⟨rfl, hb2⟩
    go_wp2_with fail
    refine (csH.out _ (bcall hb hb2)).mono ?_
    rintro e w3 ⟨rfl, hb3⟩
    have B3 := bcall (bcall hb hb2) hb3
    clear v1H v2H csH hb hb2 hb3
    go_wp2_with fail
    refine wp_region_held_drew (S := fun w' => Below w.heap.size w w') (by kernel_rfl) B3.drew (fun hS => ?_)
    refine region_take 0 (some 34) (v := ?_) rfl rfl (by kernel_rfl) (by kernel_rfl) (by kernel_rfl) (fun _ _ _ h => h) rfl ?_ hS ?_
    rotate_left
    · (intro w9 hS9; go_simp; try (with_reducible rfl))
    simp only [Act.put, List.setIfInBounds_toArray, List.set_cons_zero, List.set_cons_succ]
    refine region_take 1 (some 35) (v := ?_) rfl rfl (by kernel_rfl) (by kernel_rfl) (by kernel_rfl) (fun _ _ _ h => h) rfl ?_ hS ?_
    rotate_left
    · (intro w9 hS9; go_simp; try (with_reducible rfl))
    simp only [Act.put, List.setIfInBounds_toArray, List.set_cons_zero, List.set_cons_succ]
    refine region_take 2 (some 36) (v := ?_) rfl rfl (by kernel_rfl) (by kernel_rfl) (by kernel_rfl) (fun _ _ _ h => h) rfl ?_ hS ?_
    rotate_left
    · (intro w9 hS9; go_simp; try (with_reducible rfl))
    simp only [Act.put, List.setIfInBounds_toArray, List.set_cons_zero, List.set_cons_succ]
    refine region_take 3 (some 37) (v := ?_) rfl rfl (by kernel_rfl) (by kernel_rfl) (by kernel_rfl) (fun _ _ _ h => h) rfl ?_ hS ?_
    rotate_left
    · (intro w9 hS9; go_simp; try (with_reducible rfl))
    simp only [Act.put, List.setIfInBounds_toArray, List.set_cons_zero, List.set_cons_succ]
    refine region_take 4 (some 38) (v := ?_) rfl rfl (by kernel_rfl) (by kernel_rfl) (by kernel_rfl) (fun _ _ _ h => h) rfl ?_ hS ?_
    rotate_left
    · (intro w9 hS9; go_simp; try (with_reducible rfl))
    simp only [Act.put, List.setIfInBounds_toArray, List.set_cons_zero, List.set_cons_succ]
    refine region_take 5 (some 39) (v := ?_) rfl rfl (by kernel_rfl) (by kernel_rfl) (by kernel_rfl) (fun _ _ _ h => h) rfl ?_ hS ?_
    rotate_left
    · (intro w9 hS9; go_simp; try (with_reducible rfl))
    simp only [Act.put, List.setIfInBounds_toArray, List.set_cons_zero, List.set_cons_succ]
    refine region_take 6 (some 40) (v := ?_) rfl rfl (by kernel_rfl) (by kernel_rfl) (by kernel_rfl) (fun _ _ _ h => h) rfl ?_ hS ?_
    rotate_left
    · (intro w9 hS9; go_simp; try (with_reducible rfl))
    simp only [Act.put, List.setIfInBounds_toArray, List.set_cons_zero, List.set_cons_succ]
    refine region_call 7 rfl (by kernel_rfl) (fun K hK => ?_)
    go_simp
    have hc8 := hcatH.out _ hS
    refine hK.out _ _ (hS.trans ((below1 _ _).mono hS.size)) ?_
    clear hS hK
    intro hS
    refine region_call 8 rfl (by kernel_rfl) (fun K hK => ?_)
    go_simp
    refine hc8.mono ?_
    rintro e w8 ⟨v8, rfl, o8, hb8⟩
    obtain ⟨a8, c8, rfl, -⟩ := OwnI.ints o8
    have hsz := hS.size
    have hB9 := bcall hS hb8
    refine hK.out _ _ hB9 ?_
    clear hS hK
    intro hS
    refine region_take 9 (some 13) (v := ?_) rfl rfl (by kernel_rfl) (by kernel_rfl) (by kernel_rfl) (fun _ _ _ h => h) rfl ?_ hS ?_
    rotate_left
    · (intro w9 hS9; go_simp; try (with_reducible rfl))
    simp only [Act.put, List.setIfInBounds_toArray, List.set_cons_zero, List.set_cons_succ]
    refine wpAnyH_done (by kernel_rfl) ?_ _
    generalize (if c2 = y then some ⟨b, o, none⟩ else some ⟨b, o + y, none⟩ : Option Addr) = a5
    clear hS
    have hoH := Lib.hid (o8.baseMono (base' := w.heap.size) hsz)
    clear o8 hb8 hcatH hc8
    go_wp2_with fail
    · go_ret2
      rw [hE4H.out (by omega)]
      exact ⟨_, rfl, .nil _ _ _ _ _, hB9⟩
    · go_ret2
      rw [hE0H.out (by omega)]
      exact ⟨_, rfl, hoH.out, hB9⟩
end Go.Proofs.Ytgkddhakhapjlaa
