/- Walks: Built. -/
import Derived.Test.YtgpfdflpkaeedaaWalkQ
namespace Go.Proofs.Ytgpfdflpkaeedaa
open Go Go.RowKit Go.Maps

set_option maxHeartbeats 1000000 in
theorem ContainsBad_any {S1 S2 : Nat → Prop} (a1 a2 : Option Addr) (c1 c2 : Nat) (s : Sg) (L : List (List Int)) (bx : Nat) (w : World) (h1 : Sign S1 w a1 c1 s) (h2 : Terms S2 w a2 c2 L) (hq : w.cell? ⟨bx, 0, none⟩ = some (.slice a1 s.length c1)) :
    Calls Try.prog 68 #[.slice a2 L.length c2, .func (.func 69) #[] #[.pointer (some ⟨bx, 0, none⟩)]] w fun e w' => e = .returned (.bool (!(L.all (okT s)))) ∧ Below w.heap.size w w' := by
  have ci := IndexBad_any a1 a2 c1 c2 s L bx w h1 h2 hq
  have ciH := Lib.hid ci
  clear ci h1 h2 hq
  go_enter Try.func68, Try.ntmps68
  go_wp2_with (go_at_call 87; refine ciH.out.mono ?_; rintro e w' ⟨n, rfl, hn, hn2, hb⟩; have hn2H := Lib.hid hn2; clear hn2)
  go_ret
  exact ⟨ret_bool hn2H.out, hb⟩

theorem OwnTs.lit1 {w : World} {a : Option Addr} {c : Nat} {u : List Int} {T : Nat → Prop} (h : Ints T w a c u) :
    OwnTs (fun _ => True) (w.alloc (.cells #[.slice a u.length c] 25)) w.heap.size (.slice (some ⟨w.heap.size, 0, none⟩) 1 1) [u] := by
  have hr := World.ownsRow_lit (base := w.heap.size) (e := 25) (size := 1) w #[.slice a u.length c] 1 (Nat.le_refl _) (by unfold maxLen; omega) (by simp)
  refine ⟨[[.slice a u.length c]], hr, rfl, fun i h1 h2 => ?_⟩
  match i, h1 with
  | 0, _ => exact ⟨a, c, rfl, (h.lt.weak (S' := Off (fun _ => True) (.slice (some ⟨w.heap.size, 0, none⟩) 1 1)) (fun b hb => ⟨trivial, fun e => by simp [Value.ownBlock] at e; omega⟩)).below (below1 _ _)⟩

theorem lit_append {S2 : Nat → Prop} {w w2 : World} {a2 : Option Addr} {c2 : Nat} {L : List (List Int)} (n : Int) (hn : inRange n) (h2 : Terms S2 w a2 c2 L) (hB : Below w.heap.size w w2) (hl : L.length ≤ 1000000) :
    ∃ a c w', RowKit.Hid ((Builtin.append_ #[45, 45] 45 #[.slice (some ⟨w2.heap.size + 1, 0, none⟩) 1 1, .slice a2 L.length c2]).run Try.prog ((w2.alloc (.cells #[.int .i64 n] 3)).alloc (.cells #[.slice (some ⟨w2.heap.size, 0, none⟩) 1 1] 25)) = .ok (.slice a (L.length + 1) c) w') ∧
      RowKit.Hid (Terms (fun _ => True) w' a c ([n] :: L)) ∧ RowKit.Hid (Below w2.heap.size w2 w') := by
  have hI : Ints (fun _ => True) (w2.alloc (.cells #[.int .i64 n] 3)) (some ⟨w2.heap.size, 0, none⟩) 1 [n] := by
    have := OwnL.lit (S := fun _ => False) w2 [n] 3 (by simpa using hn) (by unfold maxLen; simp)
    obtain ⟨a, c, he, hI⟩ := OwnI.ints this
    simp at he
    obtain ⟨rfl, rfl⟩ := he
    exact hI.any
  have ho := OwnTs.lit1 hI
  simp only [World.size_alloc] at ho
  have hB' : Below w.heap.size w ((w2.alloc (.cells #[.int .i64 n] 3)).alloc (.cells #[.slice (some ⟨w2.heap.size, 0, none⟩) 1 1] 25)) := hB.trans ((below2 _ _ _).mono hB.size)
  obtain ⟨v', w', hrun, ho', hg, -, -⟩ := ho.append_run (P := Try.prog) (t := 45) (ty := 45) Try.underlying45 infoTerm rfl (h2.lt.below hB') (fun i hi vs h => (slE intE).mono h (fun b _ hb => ⟨trivial, fun e => by have := hB.size; simp [Value.ownBlock] at e; omega⟩) (.refl _ _)) (by simp; omega) (by unfold big; simp; omega) (by simp)
  have hBn := (below2 w2 (.cells #[.int .i64 n] 3) (.cells #[.slice (some ⟨w2.heap.size, 0, none⟩) 1 1] 25)).grown hg (by simp; omega) (fun k e => by simp [Value.ownBlock] at e; omega)
  obtain ⟨a, c, rfl, hT⟩ := ho'.sl
  refine ⟨a, c, w', Lib.hid ?_, Lib.hid hT.any, Lib.hid hBn⟩
  simpa [Nat.add_comm] using hrun

set_option maxRecDepth 20000 in
set_option maxHeartbeats 2000000 in
theorem Built_any {S1 S2 : Nat → Prop} (a1 a2 : Option Addr) (c1 c2 : Nat) (s : Sg) (y : Int) (L : List (List Int)) (w : World) (h1 : Sign S1 w a1 c1 s) (h2 : Terms S2 w a2 c2 L) (hy : inRange y) (hl : L.flatten.length + 1 ≤ lim) (hLl : L.length ≤ lim) :
    Calls Try.prog 38 #[.slice a1 s.length c1, .int .i64 y, .slice a2 L.length c2] w (retE (builtE s y L) w) := by
  have m1 := h1.le
  have m2 := h2.le
  unfold lim at hl hLl
  go_enter Try.func38, Try.ntmps38
  go_wp2_with fail
  have hB0 := below1 w (.cells #[.slice a1 s.length c1] 23)
  have q0 : (w.alloc (.cells #[.slice a1 s.length c1] 23)).cell? ⟨w.heap.size, 0, none⟩ = some (.slice a1 s.length c1) := by go_simp
  have hs1 := h1.below hB0
  have hT1 := h2.below hB0
  clear h1 h2
  generalize w.alloc (.cells #[.slice a1 s.length c1] 23) = W at *
  have v1 := ValidSign_any a1 c1 s W hs1
  have v2 := fun W' (hb : Below W.heap.size W W') => ContainsBad_any a1 a2 c1 c2 s L w.heap.size W' (hs1.below hb) (hT1.below hb) (cell_later hb q0)
  obtain ⟨x1, hx1⟩ : ∃ x, okSign s = x := ⟨_, rfl⟩
  obtain ⟨x2, hx2⟩ : ∃ x, L.all (okT s) = x := ⟨_, rfl⟩
  rw [hx1] at v1
  rw [hx2] at v2
  have v2H := Lib.hid v2
  refine v1.mono ?_
  clear v1 v2
  rintro e w1 ⟨rfl, hb1⟩
  cases x1 with
  | false =>
    have hE := Lib.hid (builtE_1 (s := s) (y := y) (L := L) (by rw [hx1]; simp))
    clear hx1 hx2 hs1 hT1
    go_wp2_with fail
    go_ret2
    rw [hE.out]
    exact ⟨_, rfl, .nil _ _ _ _ _, hB0.trans (hb1.mono hB0.size)⟩
  | true =>
    have q1 := cell_later hb1 q0
    cases x2 with
    | false =>
      have hE := Lib.hid (builtE_1 (s := s) (y := y) (L := L) (by rw [hx2]; simp))
      clear hx1 hx2 hs1 hT1
      go_wp2_with (go_at_call 68; refine (v2H.out _ hb1).mono ?_; rintro e w2 ⟨rfl, hb2'⟩; have hb2 := bcall hb1 hb2')
      go_ret2
      rw [hE.out]
      exact ⟨_, rfl, .nil _ _ _ _ _, hB0.trans (hb2.mono hB0.size)⟩
    | true =>
      have cw := fun W => within_any y 0 ((s.length : Int) - 1) W
      by_cases hw : 0 ≤ y ∧ y < s.length
      · obtain ⟨n, rfl⟩ := Int.eq_ofNat_of_zero_le hw.1
        have hn : n < s.length := by omega
        have hb1' : (decide ((0 : Int) ≤ (n : Int)) && decide ((n : Int) ≤ (s.length : Int) - 1)) = true := by simp; omega
        simp only [hb1'] at cw
        have cwH := Lib.hid cw
        obtain ⟨b, o, rfl, -, -, q, -, -⟩ := hs1.sym n hn
        have hg : (s.getD (n : Int).toNat default).2 = s[n].2 := by rw [Int.toNat_natCast, List.getD_eq_getElem?_getD, List.getElem?_eq_getElem hn]; rfl
        obtain ⟨ay, hay⟩ : ∃ ay, s[n].2 = ay := ⟨_, rfl⟩
        rw [hay] at q hg
        by_cases hlen : (L.length : Int) = ay
        · subst hlen
          have hE0 : 1 + L.flatten.length ≤ 60 → builtE s n L = ((n : Int) :: L.flatten, 0) := fun h => builtE_0 ⟨hx1, hx2⟩ hw hg.symm h
          have hE4 : ¬ 1 + L.flatten.length ≤ 60 → builtE s n L = ([], 4) := fun h => builtE_4 ⟨hx1, hx2⟩ hw hg.symm h
          obtain ⟨F, hF⟩ : ∃ F, (n : Int) :: L.flatten = F := ⟨_, rfl⟩
          have hFl : F.length = 1 + L.flatten.length := by rw [← hF, List.length_cons]; omega
          rw [← hFl, hF] at hE0
          rw [← hFl] at hE4
          have hl9 : F.length ≤ 1000000 := by omega
          have hcat : ∀ a c W', Terms (fun _ => True) W' a c ([(n : Int)] :: L) → Calls Try.prog 70 #[.slice a (L.length + 1) c] W' (retOwn W' F) := by
            intro a c W' hT
            have := Concat_any a c ([(n : Int)] :: L) W' hT (by unfold lim; simp only [List.flatten_cons, List.length_append, List.length_cons, List.length_nil]; omega)
            rw [List.length_cons, List.flatten_cons] at this
            rw [← hF]; exact this
          have hla : ∀ W2 (hb : Below W.heap.size W W2), _ := fun W2 hb => lit_append (w2 := W2) (n : Int) hy hT1 hb hLl
          have hE0H := Lib.hid hE0
          have hE4H := Lib.hid hE4
          clear hE0 hE4
          have hlaH := Lib.hid hla
          have hcatH := Lib.hid hcat
          have hqH := Lib.hid q
          clear cw hb1' hx1 hx2 hw hg q hs1 hT1 hla hcat hF hFl hay
          go_wp2_with (first | (go_at_call 68; refine (v2H.out _ hb1).mono ?_; rintro e w2 ⟨rfl, hb2'⟩; have hb2 := bcall hb1 hb2'; have q := cell_later hb2 hqH.out; have q2 := cell_later hb2 q0; obtain ⟨a9, c9, w9, hrunH, hT9, hB9⟩ := hlaH.out w2 hb2) | (go_at_call 51; refine (cwH.out _).mono ?_; rintro e w3 ⟨rfl, rfl⟩) | (at_builtin; refine wpList_append_run rfl (.tmp 35) (.tmp 36) _ rfl rfl rfl hrunH.out ?_) | (go_at_call 70; refine (hcatH.out _ _ _ hT9.out).mono ?_; rintro e w10 ⟨v, rfl, ho, hb10⟩; have hB9' := bcall (bcall hB0 hb2) hB9.out; obtain ⟨a8, c8, rfl, -⟩ := ho.ints; have hB10 := Lib.hid (bcall hB9' hb10); have hoH := Lib.hid (ho.baseMono hB9'.size); clear ho hb10))
          · go_ret2
            rw [hE4H.out (by omega)]
            exact ⟨_, rfl, .nil _ _ _ _ _, hB10.out⟩
          · go_ret2
            rw [hE0H.out (by omega)]
            exact ⟨_, rfl, hoH.out, hB10.out⟩
        · have hE := Lib.hid (builtE_9 ⟨hx1, hx2⟩ hw (L := L) (by rw [hg]; exact hlen))
          have hqH := Lib.hid q
          have hne : ((L.length : Int) != ay) = true := by simpa using hlen
          clear cw hb1' hx1 hx2 hw hg q hs1 hT1 hay hlen
          go_wp2_with (first | (go_at_call 68; refine (v2H.out _ hb1).mono ?_; rintro e w2 ⟨rfl, hb2'⟩; have hb2 := bcall hb1 hb2'; have q := cell_later hb2 hqH.out; have q2 := cell_later hb2 q0) | (go_at_call 51; refine (cwH.out _).mono ?_; rintro e w3 ⟨rfl, rfl⟩))
          go_ret2
          rw [hE.out]
          exact ⟨_, rfl, .nil _ _ _ _ _, hB0.trans (hb2.mono hB0.size)⟩
      · have hE := Lib.hid (builtE_5 ⟨hx1, hx2⟩ (L := L) hw)
        have hb1' : (decide ((0 : Int) ≤ y) && decide (y ≤ (s.length : Int) - 1)) = false := by simp; omega
        simp only [hb1'] at cw
        have cwH := Lib.hid cw
        clear cw hb1' hx1 hx2 hw hs1 hT1
        go_wp2_with (first | (go_at_call 68; refine (v2H.out _ hb1).mono ?_; rintro e w2 ⟨rfl, hb2'⟩; have hb2 := bcall hb1 hb2'; have q2 := cell_later hb2 q0) | (go_at_call 51; refine (cwH.out _).mono ?_; rintro e w3 ⟨rfl, rfl⟩))
        go_ret2
        rw [hE.out]
        exact ⟨_, rfl, .nil _ _ _ _ _, hB0.trans (hb2.mono hB0.size)⟩
end Go.Proofs.Ytgpfdflpkaeedaa
