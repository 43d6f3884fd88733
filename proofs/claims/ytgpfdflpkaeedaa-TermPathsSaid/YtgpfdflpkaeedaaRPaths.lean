/- Walks: Paths of the reference. -/
import Derived.Test.YtgpfdflpkaeedaaWalkZ
namespace Go.Proofs.Ytgpfdflpkaeedaa
open Go Go.RowKit Go.Maps

theorem waysOk_all {s : Sg} {t : List Int} (h : okT s t = true) {LL : List (List Int)} (ho : waysOk s t t.length 0 LL) : ∀ j (hj : j < LL.length), LL[j] = way s t j := by
  intro j hj
  have hl : j < t.length := by rw [← ho.1]; exact hj
  refine ho.2 j hj ?_
  rcases Nat.eq_zero_or_pos j with h0 | h0
  · exact .inl h0
  · obtain ⟨q0, k, p, -, hp, hk⟩ := place_parent ((way_place h).2 j hl).1 h0
    have hpb := place_bound (okT_skip0 h) hp
    simp at hpb
    exact .inr (.inl ⟨p, k, by omega, hk⟩)
/-- the paths of the first k parts that are v -/
def pathsK (s : Sg) (t v : List Int) (k : Nat) : List (List Int) := (((PL s t.length t).take k).filter (fun e => decide (e.2 = v))).map (·.1)
theorem pathsK_all {s : Sg} {t v : List Int} (h : okT s t = true) : pathsK s t v t.length = pathsT s t v := by
  unfold pathsK pathsT; rw [List.take_of_length_le (by rw [(way_place h).1]; exact Nat.le_refl _)]
theorem pathsK_len {s : Sg} {t v : List Int} (k : Nat) : (pathsK s t v k).length ≤ k := by
  unfold pathsK
  rw [List.length_map]
  exact Nat.le_trans (List.length_filter_le _ _) (by rw [List.length_take]; omega)
theorem pathsK_succ {s : Sg} {t v : List Int} (h : okT s t = true) {k : Nat} (hk : k < t.length) : pathsK s t v (k + 1) = if partAt s (t.drop k) = v then pathsK s t v k ++ [way s t k] else pathsK s t v k := by
  obtain ⟨hj, he⟩ := ((way_place h).2 k hk).2.1
  unfold pathsK
  rw [List.take_succ_eq_append_getElem hj, List.filter_append, List.map_append, he]
  by_cases hv : partAt s (t.drop k) = v
  · rw [if_pos hv, List.filter_cons_of_pos (by simpa using hv)]; rfl
  · rw [if_neg hv, List.filter_cons_of_neg (by simpa using hv)]; simp

def retPE (r : List (List Int) × Int) (w : World) (e : Ending) (w' : World) : Prop := ∃ v, e = .returned (.tuple #[v, .int .i64 r.2]) ∧ OwnPs (fun _ => True) w' w.heap.size v r.1 ∧ Below w.heap.size w w'
def rpRel (s : Sg) (t v : List Int) (w2 : World) (out i : Value) (wr : World) : Prop :=
  ∃ k : Nat, i = .int .i64 k ∧ k ≤ t.length ∧ OwnPs (fun _ => True) wr w2.heap.size out (pathsK s t v k) ∧ Below w2.heap.size w2 wr
theorem OwnPs.baseMono' {S : Nat → Prop} {w : World} {b b' : Nat} {v : Value} {l : List (List Int)} (h : OwnPs S w b v l) (hb : b' ≤ b) : OwnPs S w b' v l := OwnL.baseMono h hb

set_option maxRecDepth 20000 in
set_option maxHeartbeats 8000000 in
theorem rPaths_any {S1 S2 S3 : Nat → Prop} (a1 a2 a3 : Option Addr) (c1 c2 c3 : Nat) (s : Sg) (t v : List Int) (w : World) (h1 : Sign S1 w a1 c1 s) (h2 : Ints S2 w a2 c2 t) (h3 : Ints S3 w a3 c3 v) :
    Calls Try.prog 43 #[.slice a1 s.length c1, .slice a2 t.length c2, .slice a3 v.length c3] w (retPE (pathsE s t v) w) := by
  have m2 := h2.le
  have m3 := h3.le
  have v1 := rValid_any a1 a2 c1 c2 s t w h1 h2
  have v2 := fun W (hb : Drew w W) => rValid_any a1 a3 c1 c3 s v W (h1.drew hb) (h3.drew hb)
  obtain ⟨x, hx⟩ : ∃ x, okT s t = x := ⟨_, rfl⟩
  obtain ⟨x2, hx2⟩ : ∃ x, okT s v = x := ⟨_, rfl⟩
  rw [hx] at v1
  rw [hx2] at v2
  have v1H := Lib.hid v1
  have v2H := Lib.hid v2
  clear v1 v2
  cases x with
  | false =>
    rw [show pathsE s t v = ([], 1) by rw [pathsE, hx, if_neg (by simp)]]
    clear hx hx2
    go_enter Try.func43, Try.ntmps43
    go_wp2_with (go_at_call 26; refine v1H.out.mono ?_; rintro e w1 ⟨rfl, hb⟩)
    go_ret2
    exact ⟨_, rfl, .nil _ _ _ _ _, hb.below _⟩
  | true =>
  cases x2 with
  | false =>
    rw [show pathsE s t v = ([], 1) by rw [pathsE, hx2, if_neg (by simp)]]
    clear hx hx2
    go_enter Try.func43, Try.ntmps43
    go_wp2_with fail
    refine v1H.out.mono ?_
    rintro e w1 ⟨rfl, hb⟩
    go_wp2_with fail
    refine (v2H.out _ hb).mono ?_
    rintro e w2 ⟨rfl, hb2⟩
    go_wp2_with fail
    go_ret2
    exact ⟨_, rfl, .nil _ _ _ _ _, (hb.below _).trans (hb2.below _)⟩
  | true =>
    rw [show pathsE s t v = (pathsT s t v, 0) by rw [pathsE, hx, hx2, if_pos ⟨rfl, rfl⟩]]
    obtain ⟨hsg, hl1, hl60, -⟩ := okT_parts hx
    obtain ⟨-, hway⟩ := way_place hx
    have hxH := Lib.hid hx
    have hsgH := Lib.hid hsg
    have hwayH := Lib.hid hway
    clear hx hx2 hsg hway
    go_enter Try.func43, Try.ntmps43
    go_wp2_with fail
    refine v1H.out.mono ?_
    rintro e w1 ⟨rfl, hb⟩
    go_wp2_with fail
    refine (v2H.out _ hb).mono ?_
    rintro e w2 ⟨rfl, hb2⟩
    have hB2 : Below w.heap.size w w2 := (hb.below _).trans (hb2.below _)
    clear hb hb2 v1H v2H
    go_wp2_with fail
    refine (Ways_any a1 a2 c1 c2 s t w2 (h1.below hB2) (h2.below hB2) hxH.out).mono ?_
    rintro e w3 ⟨g, L, rfl, hoL, hwL, hb3⟩
    have hLl := hwL.1
    have hLw := waysOk_all hxH.out hwL
    have hB3 := bcall hB2 hb3
    have hoLH := Lib.hid hoL
    have hLwH := Lib.hid hLw
    have hLlH := Lib.hid hLl
    have hgl := (hoL.lt g rfl).2
    have h1H := Lib.hid (h1.below hB3)
    have h2H := Lib.hid (h2.below hB3)
    have h3H := Lib.hid (h3.below hB3)
    have hB3H := Lib.hid hB3
    clear hoL hLw hLl hwL h1 h2 h3 hB3 hB2 hb3
    go_wp2_with fail
    go_loopw [9, 10] (fun out i wr => rpRel s t v w3 out i wr) (fun _ i _ => t.length - (intOf i).toNat)
    case atStart => exact ⟨0, rfl, Nat.zero_le _, .nil _ _ _ _ _, .refl _ _⟩
    case round =>
      obtain ⟨k, rfl, hk, ho, hB⟩ := hrel
      have hoH := Lib.hid ho
      have hBH := Lib.hid hB
      by_cases hlt : k < t.length
      · obtain ⟨-, -, r, hr⟩ := hwayH.out k hlt
        have hsuc := pathsK_succ (v := v) hxH.out hlt
        have hkl : k < L.length := by have := hLlH.out; omega
        obtain ⟨a', c', q2, hIu, -⟩ := OwnPs.cell hoLH.out hLlH.out.symm k hkl
        rw [hLwH.out k hkl] at q2 hIu
        have hwl := place_len (okT_skip0 hxH.out) ((hwayH.out k hlt).1)
        have cp := rPart_any a1 a2 c1 c2 s t k r wr (h1H.out.below hB) (h2H.out.below hB) hsgH.out hr hl60
        have q2r := cell_later hB q2
        have hpl : (partAt s (t.drop k)).length ≤ 60 := by have := partAt_len hr; rw [List.length_drop] at this; omega
        obtain ⟨pa, hpa⟩ : ∃ pa, partAt s (t.drop k) = pa := ⟨_, rfl⟩
        obtain ⟨u, hu⟩ : ∃ u, way s t k = u := ⟨_, rfl⟩
        rw [hpa] at cp hsuc hpl
        rw [hu] at q2 q2r hIu hsuc hwl
        have hkK := pathsK_len (s := s) (t := t) (v := v) k
        have hpu : ∀ W5, Below wr.heap.size wr W5 → ∃ a6 c6 w6 v' w7, RowKit.Hid (runApp (.slice (some ⟨W5.heap.size, 0, none⟩) 0 0) (.slice a' u.length c') (W5.alloc (.cells #[] 3)) = .ok (.slice a6 u.length c6) w6) ∧
            RowKit.Hid ((Builtin.append_ #[54, 54] 54 #[u9, .slice (some ⟨w6.heap.size, 0, none⟩) 1 1]).run Try.prog (w6.alloc (.cells #[.slice a6 u.length c6] 24)) = .ok v' w7) ∧ RowKit.Hid (OwnPs (fun _ => True) w7 w3.heap.size v' (pathsK s t v k ++ [u])) ∧ RowKit.Hid (Below w3.heap.size w3 w7) := by
          intro W5 hb5
          have hb6 := below1 W5 (.cells #[] 3)
          obtain ⟨x1, w6, r1, o1, -, b1⟩ := app24 (lit0 (w := W5) W5.heap.size (Nat.le_refl _)) ((hIu.below (hB.trans (hb5.mono hB.size))).below hb6) (by simp; omega) hb6.size
          obtain ⟨a6, c6, rfl, hI6⟩ := OwnI.ints o1
          rw [List.nil_append] at hI6 r1
          have hbw : Below wr.heap.size wr w6 := hb5.trans ((hb6.trans b1).mono hb5.size)
          obtain ⟨v', w7, r2, o2, b2⟩ := Ps_push ho hB hbw (hI6.weak (S' := Off (fun _ => True) u9) (fun b hb => ⟨trivial, fun e => by have := (ho.lt b e.symm).2; have := hb5.size; omega⟩)) (by omega)
          exact ⟨a6, c6, w6, v', w7, Lib.hid r1, r2, o2, b2⟩
        have cpH := Lib.hid cp
        have hsucH := Lib.hid hsuc
        have hpuH := Lib.hid hpu
        have q2rH := Lib.hid q2r
        have hpaH := Lib.hid hpa
        clear cp hpu q2r hu hr q2 hIu ho hB hsuc hwl hkK hpa
        go_wp2_with fail
        (with_reducible refine cpH.out.mono ?_)
        rintro e w4 ⟨vp, rfl, hop, hb4⟩
        obtain ⟨a5, c5, rfl, hI5⟩ := OwnI.ints hop
        clear hop
        have cs := Same_any a5 a3 c5 c3 pa v w4 hI5 ((h3H.out.below hBH.out).below hb4)
        clear hI5
        by_cases hpv : pa = v
        · rw [decide_eq_true hpv] at cs
          rw [if_pos hpv] at hsucH
          have csH := Lib.hid cs
          clear cs hpv
          go_wp2_with fail
          (with_reducible refine csH.out.mono ?_)
          rintro e w5 ⟨rfl, hd5⟩
          have hb5 : Below wr.heap.size wr w5 := hb4.trans (hd5.below _)
          obtain ⟨a6, c6, w6, v', w7, r1, r2, o2, b2⟩ := hpuH.out w5 hb5
          have q2' := cell_later hb5 q2rH.out
          have hg5 : g < w5.heap.size := World.block_lt_of_cell? _ _ q2'
          clear hd5 csH
          go_wp2_with (first | (at_builtin; refine wpList_append_run rfl _ _ 24 rfl rfl rfl r1.out ?_; clear r1) | (at_builtin; refine wpList_append_run rfl _ _ 54 rfl rfl rfl r2.out ?_))
          go_roundw
          case rel => exact ⟨k + 1, by go_num, by omega, by rw [hsucH.out]; exact o2.out, b2.out⟩
          case measure => simp [intOf]; omega
        · rw [decide_eq_false hpv] at cs
          rw [if_neg hpv] at hsucH
          have csH := Lib.hid cs
          clear cs hpv
          go_wp2_with fail
          (with_reducible refine csH.out.mono ?_)
          rintro e w5 ⟨rfl, hd5⟩
          have hb5 : Below wr.heap.size wr w5 := hb4.trans (hd5.below _)
          have hb5H := Lib.hid hb5
          clear hd5 csH hb5
          go_wp2_with fail
          go_roundw
          case rel => exact ⟨k + 1, by go_num, by omega, by rw [hsucH.out]; exact hoH.out.call hb5H.out, bcall hBH.out hb5H.out⟩
          case measure => simp [intOf]; omega
      · obtain rfl : k = t.length := by omega
        rw [pathsK_all hxH.out] at ho
        have hoH := Lib.hid ho
        clear ho hB
        go_wp2_with fail
        go_ret2
        exact ⟨_, rfl, OwnPs.baseMono' hoH.out hB3H.out.size, bcall hB3H.out hBH.out⟩
end Go.Proofs.Ytgpfdflpkaeedaa
