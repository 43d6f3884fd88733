/- Walks of package unify: match and Instance, walked. -/
import Derived.Test.YtgkddhakhapjlaaUMatch
namespace Go.Proofs.Ytgkddhakhapjlaa
open Go Go.RowKit Go.Maps

theorem ret_2 {v : Value} {b b' : Bool} (h : b = b') : Ending.returned (.tuple #[v, .bool b]) = .returned (.tuple #[v, .bool b']) := by rw [h]
def matRel (s : Sg) (a b : List Int) (w : World) (iv kv : Value) (wr : World) : Prop :=
  ∃ (i k n : Nat) (B : Bd), iv = .int .i64 i ∧ kv = .int .i64 k ∧ MRel s a b k i B ∧ n ≤ k ∧ BdMap w wr w.heap.size n B ∧ Below w.heap.size w wr
set_option maxRecDepth 20000 in
set_option maxHeartbeats 8000000 in
theorem match_any {S1 S2 S3 : Nat → Prop} (a1 a2 a3 : Option Addr) (c1 c2 c3 : Nat) (s : Sg) (a b : List Int) (w : World) (h1 : Sign S1 w a1 c1 s) (h2 : Ints S2 w a2 c2 a) (h3 : Ints S3 w a3 c3 b) (hok : okSign s = true) (ha : W1 s a) (hb : W1 s b) (la : a.length ≤ 1000) (lb : b.length ≤ 1000) :
    Calls Try.prog 18 #[.slice a1 s.length c1, .slice a2 a.length c2, .slice a3 b.length c3] w fun e w' => ∃ v, e = .returned (.tuple #[v, .bool (instB s a b)]) ∧ Below w.heap.size w w' := by
  have m2 := h2.le
  have m3 := h3.le
  have hmm := @run_makeMap Try.prog
  have hst := Lib.hid (MRel.start ha hb)
  have hokH := Lib.hid hok
  have h1H := Lib.hid h1.lt
  have h2H := Lib.hid h2.lt
  have h3H := Lib.hid h3.lt
  clear ha hb hok h1 h2 h3
  go_enter Try.func18, Try.ntmps18
  go_wp2_with fail
  go_loopw [9, 19] (fun iv kv wr => matRel s a b w iv kv wr) (fun iv kv _ => a.length - (intOf kv).toNat)
  case atStart => exact ⟨0, 0, 0, _, rfl, rfl, hst.out, Nat.le_refl _, BdMap.made _ _, below1 _ _⟩
  case round =>
    obtain ⟨i, k, n, B, rfl, rfl, hM, hn, hD, hB⟩ := hrel
    by_cases hk : k < a.length
    · obtain ⟨hi, r, hr, hcw⟩ := hM.part hk
      obtain ⟨ba, oa, rfl, -, q1, r1⟩ := (h2H.out.below hB).int k hk
      obtain ⟨bb, ob, rfl, hbb, q2, -⟩ := (h3H.out.below hB).int i hi
      by_cases hneg : a[k] < 0
      · have hBm := fun v => hM.var_no (u := v) hk hneg hr
        have hBv := hM.var hk hneg hr
        obtain ⟨e1, e2, -, -, e5, e6, e7⟩ := part_ends hi hr
        obtain ⟨u, hu⟩ : ∃ u, partW s (b.drop i) = u := ⟨_, rfl⟩
        obtain ⟨x, hx⟩ : ∃ x, a[k] = x := ⟨_, rfl⟩
        obtain ⟨to, hto⟩ : ∃ to, b.length - r.length = to := ⟨_, rfl⟩
        have caft := after_any a1 (some ⟨bb, ob, none⟩) c1 c3 s b i r wr (h1H.out.below hB) (h3H.out.below hB) hokH.out hr
        have hpart : Ints (fun x => x < w.heap.size) w (some ⟨bb, ob + i, none⟩) (to - i) u := by
          rw [← hu, e1, hto]
          exact (Ints.part h3H.out i to (to - i) (by omega) (by omega) (Nat.le_refl _) (by have := h3H.out.cap; omega)).weak (fun x hx => hx.2)
        rw [hto] at caft e2 e6 e7 hBv
        rw [hu] at hBm hBv e5 e6
        rw [hx] at q1 r1 hneg hBm hBv
        have hcapt : to ≤ c3 := by have := h3H.out.cap; omega
        have caftH := Lib.hid caft
        have hMH := Lib.hid hM
        have hBmH := Lib.hid hBm
        have hBvH := Lib.hid hBv
        have hpartH := Lib.hid hpart
        have hBH := Lib.hid hB
        have hDH := Lib.hid hD
        have e6H := Lib.hid e6
        have r1H := Lib.hid r1
        have htob : to ≤ b.length := by omega
        have hmb := hD.lt
        clear caft hM hBm hBv hpart hr hx hu e1 e6 e5 hcw hto r1
        cases hBx : B x with
        | none =>
          have hl := hDH.out.look_none x r1H.out hBx
          have hbvH := Lib.hid (hBvH.out (.inl hBx))
          clear hBvH hBmH hB hD hBx
          obtain ⟨w', n', hst2, hn', hD', hg, -⟩ := hDH.out.store (by unfold maxLen; omega) x r1H.out hpartH.out
          rw [e6H.out] at hst2
          have hst3 := hst2.out
          go_wp2_with (go_at_call 31; refine caftH.out.mono ?_; rintro e w9 ⟨rfl, rfl⟩)
          go_roundw
          case rel => exact ⟨to, k + 1, n', _, rfl, by go_num, hbvH.out, by have := hn'.out; omega, hD'.out, hBH.out.grown hg.out hBH.out.size (fun j e => by injection e with e; omega)⟩
          case measure => simp [intOf]; omega
        | some v =>
          obtain ⟨av, cv, hl, hIv⟩ := hDH.out.look_some x r1H.out hBx
          have ce := Equal_any av (some ⟨bb, ob + i, none⟩) cv (to - i) v u wr (hIv.below hB) (hpartH.out.below hB)
          rw [e6H.out] at ce
          by_cases hvu : v = u
          · rw [decide_eq_true hvu] at ce
            have hbvH := Lib.hid (hBvH.out (.inr (by rw [hBx, hvu])))
            have hsomeH : RowKit.Hid ((B x).isSome = true) := Lib.hid (by rw [hBx]; rfl)
            have ceH := Lib.hid ce
            clear hBvH hBmH hB hD hBx hvu ce hIv
            go_wp2_with (first | (go_at_call 31; refine caftH.out.mono ?_; rintro e w9 ⟨rfl, rfl⟩) | (go_at_call 24; refine ceH.out.mono ?_; rintro e w9 ⟨rfl, hd9⟩; obtain ⟨w', n', hst2, hn', hD', hg, -⟩ := (hDH.out.below (hd9.below wr.heap.size) hmb).store (by unfold maxLen; omega) x r1H.out hpartH.out; rw [e6H.out] at hst2; have hst3 := hst2.out))
            go_roundw
            case rel =>
              have hB9 := bcall hBH.out (hd9.below _)
              exact ⟨to, k + 1, n', _, rfl, by go_num, hbvH.out, by have := hn'.out; omega, hD'.out, hB9.grown hg.out hB9.size (fun j e => by injection e with e; omega)⟩
            case measure => simp [intOf]; omega
          · rw [decide_eq_false hvu] at ce
            have hfH := Lib.hid (hBmH.out v hBx hvu)
            have ceH := Lib.hid ce
            clear hBvH hBmH hB hD hBx hvu ce hIv
            go_wp2_with (first | (go_at_call 31; refine caftH.out.mono ?_; rintro e w9 ⟨rfl, rfl⟩) | (go_at_call 24; refine ceH.out.mono ?_; rintro e w9 ⟨rfl, hd9⟩))
            go_ret2
            exact ⟨_, ret_2 hfH.out.symm, bcall hBH.out (hd9.below _)⟩
      · by_cases he : b[i] = a[k]
        · have hsH := Lib.hid (hM.sym hk hi hneg he)
          rw [he] at q2
          obtain ⟨x, hx⟩ : ∃ x, a[k] = x := ⟨_, rfl⟩
          rw [hx] at q1 q2 hneg
          have hxx : (x != x) = false := by simp
          have hBH := Lib.hid hB
          have hDH := Lib.hid hD
          clear hM hr hcw he hx hB hD
          go_wp2_with fail
          go_roundw
          case rel => exact ⟨i + 1, k + 1, n, B, by go_num, by go_num, hsH.out, by omega, hDH.out, hBH.out⟩
          case measure => simp [intOf]; omega
        · have hfH := Lib.hid (hM.sym_no hk hi hneg he)
          obtain ⟨x, hx⟩ : ∃ x, a[k] = x := ⟨_, rfl⟩
          obtain ⟨y, hy⟩ : ∃ y, b[i] = y := ⟨_, rfl⟩
          rw [hx] at q1 hneg he
          rw [hy] at q2 he
          have hxx : (y != x) = true := by simpa using he
          have hBH := Lib.hid hB
          clear hM hr hcw he hx hy hB hD
          go_wp2_with fail
          go_ret2
          first | exact ⟨_, ret_2 hfH.out.symm, hBH.out⟩ | exact ⟨⟨_, ret_2 hfH.out.symm⟩, hBH.out⟩
    · obtain rfl : k = a.length := by have := hM.ka; omega
      have hfH := Lib.hid hM.done
      clear hM
      go_wp2_with fail
      go_ret2
      exact ⟨_, ret_2 hfH.out.symm, hB⟩

set_option maxHeartbeats 1000000 in
theorem Instance_any {S1 S2 S3 : Nat → Prop} (a1 a2 a3 : Option Addr) (c1 c2 c3 : Nat) (s : Sg) (a b : List Int) (w : World) (h1 : Sign S1 w a1 c1 s) (h2 : Ints S2 w a2 c2 a) (h3 : Ints S3 w a3 c3 b) :
    Calls Try.prog 9 #[.slice a1 s.length c1, .slice a2 a.length c2, .slice a3 b.length c3] w fun e w' => e = .returned (.bool (okT s a && okT s b && instB s a b)) ∧ Below w.heap.size w w' := by
  have m2 := h2.le
  have m3 := h3.le
  have v1 := Valid_any a1 a2 c1 c2 s a w h1 h2
  have v2 := fun W (hb : Below w.heap.size w W) => Valid_any a1 a3 c1 c3 s b W (h1.below hb) (h3.below hb)
  have v3 : okT s a = true → okT s b = true → ∀ W, Below w.heap.size w W → _ := fun e1 e2 W hb => match_any a1 a2 a3 c1 c2 c3 s a b W (h1.below hb) (h2.below hb) (h3.below hb) (okT_parts e1).1 (okT_w1 e1) (okT_w1 e2) (by have := (okT_parts e1).2.2.1; omega) (by have := (okT_parts e2).2.2.1; omega)
  generalize okT s a = x at *
  generalize okT s b = y at *
  generalize instB s a b = z at *
  have v1H := Lib.hid v1
  have v2H := Lib.hid v2
  have v3H := Lib.hid v3
  clear v1 v2 v3 h1 h2 h3
  cases x with
  | false =>
    go_enter Try.func9, Try.ntmps9
    go_wp2_with (go_at_call 15; refine v1H.out.mono ?_; rintro e w1 ⟨rfl, hb1⟩)
    go_ret
    exact ⟨rfl, hb1⟩
  | true =>
    cases y with
    | false =>
      go_enter Try.func9, Try.ntmps9
      go_wp2_with fail
      refine v1H.out.mono ?_
      rintro e w1 ⟨rfl, hb1⟩
      go_wp2_with fail
      refine (v2H.out _ hb1).mono ?_
      rintro e w2 ⟨rfl, hb2⟩
      go_wp2_with fail
      go_ret
      exact ⟨rfl, bcall hb1 hb2⟩
    | true =>
      go_enter Try.func9, Try.ntmps9
      go_wp2_with fail
      refine v1H.out.mono ?_
      rintro e w1 ⟨rfl, hb1⟩
      go_wp2_with fail
      refine (v2H.out _ hb1).mono ?_
      rintro e w2 ⟨rfl, hb2⟩
      have hbb := bcall hb1 hb2
      go_wp2_with fail
      refine (v3H.out trivial trivial _ hbb).mono ?_
      rintro e w3 ⟨v, rfl, hb3⟩
      go_wp2_with fail
      go_ret
      exact ⟨by simp, bcall hbb hb3⟩
end Go.Proofs.Ytgkddhakhapjlaa
