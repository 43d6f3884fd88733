/- Walks: At, of both; lists of terms alike; all valid. -/
import Derived.Test.YtgkddhakhapjlaaWalkM
namespace Go.Proofs.Ytgkddhakhapjlaa
open Go Go.RowKit Go.Maps

def spanV (s : Sg) (t p : List Int) : Value := match place s t p 0 with
  | some z => .tuple #[.int .i64 z, .int .i64 (z + (partAt s (t.drop z)).length : Nat), .bool true]
  | none => .tuple #[.int .i64 0, .int .i64 0, .bool false]
def spanRel (s : Sg) (t p : List Int) (w : World) (fr to i : Value) (wr : World) : Prop :=
  ∃ (j a : Nat) (rest : List Int), i = .int .i64 j ∧ fr = .int .i64 a ∧ to = .int .i64 (t.length - rest.length : Nat) ∧ j ≤ p.length ∧ skip s 1 (t.drop a) = some rest ∧ place s t (p.drop j) a = place s t p 0 ∧ Below w.heap.size w wr
def sumRel (L : List (List Int)) (a k : Nat) (w1 : World) (fr i : Value) (wr : World) : Prop :=
  ∃ q : Nat, i = .int .i64 q ∧ q ≤ k ∧ fr = .int .i64 (a + 1 + (L.take q).flatten.length : Nat) ∧ wr = w1
theorem len_take_flatten {L : List (List Int)} {q : Nat} : (L.take q).flatten.length ≤ L.flatten.length := by
  have : L.flatten.length = (L.take q).flatten.length + (L.drop q).flatten.length := by rw [← List.length_append, ← List.flatten_append, List.take_append_drop]
  omega
theorem take_flatten_succ {L : List (List Int)} {q : Nat} (h : q < L.length) : (L.take (q + 1)).flatten.length = (L.take q).flatten.length + L[q].length := by
  rw [List.take_succ_eq_append_getElem h, List.flatten_append, List.length_append]; simp
set_option maxHeartbeats 2000000 in
theorem span_any {S1 S2 S3 : Nat → Prop} (a1 a2 a3 : Option Addr) (c1 c2 c3 : Nat) (s : Sg) (t p : List Int) (w : World) (h1 : Sign S1 w a1 c1 s) (h2 : Ints S2 w a2 c2 t) (h3 : Ints S3 w a3 c3 p) (hok : okT s t = true) :
    Calls Try.prog 16 #[.slice a1 s.length c1, .slice a2 t.length c2, .slice a3 p.length c3] w fun e w' => e = .returned (spanV s t p) ∧ Below w.heap.size w w' := by
  have m2 := h2.le
  have m3 := h3.le
  have mc := h2.max
  unfold big at mc
  have hcap := h2.cap
  obtain ⟨hsg, hl1, hl2, -⟩ := okT_parts hok
  obtain ⟨b, o, rfl, -, -, -⟩ := h2.int 0 (by omega)
  have hs0 := okT_skip0 hok
  have hokH := Lib.hid hok
  have hs0H := Lib.hid hs0
  have hsgH := Lib.hid hsg
  clear hok hs0 hsg
  go_enter Try.func16, Try.ntmps16
  go_wp2_with fail
  go_loopw [6, 7, 18] (fun fr to i wr => spanRel s t p w fr to i wr) (fun _ _ i _ => p.length - (intOf i).toNat)
  case atStart => exact ⟨0, 0, [], rfl, rfl, by simp, Nat.zero_le _, hs0H.out, rfl, .refl _ _⟩
  case round =>
    obtain ⟨j, a, rest, rfl, rfl, rfl, hj, hsk, hpl, hB⟩ := hrel
    by_cases hlt : j < p.length
    · obtain ⟨b3, o3, rfl, -, q3, hr3⟩ := h3.int j hlt
      have q3' := (hB.cell (p := ⟨b3, o3 + j, none⟩) (World.block_lt_of_cell? w _ q3)).trans q3
      obtain ⟨hoku, hlenu⟩ := okT_part hokH.out hsk
      obtain ⟨hA1, hA2, hA3, halt⟩ := part_args hsk
      have hrl := skip_len _ _ _ _ hsk
      rw [List.length_drop] at hrl
      obtain ⟨z, hz⟩ : ∃ z, t.length - rest.length = z := ⟨_, rfl⟩
      have hpart : (t.drop a).take (z - a) = partAt s (t.drop a) := by
        unfold partAt; rw [hsk]; simp; congr 1; omega
      have hsub := h2.part a z (c2 - a) (by omega) (by omega) (by omega) (by omega)
      rw [hpart] at hsub
      have hso := step_ok hsk
      have hsn := step_no hsk
      have hsp := argsT_spec hoku
      obtain ⟨u, hu⟩ : ∃ u, partAt s (t.drop a) = u := ⟨_, rfl⟩
      rw [hu] at hsub hoku hlenu hA1 hA3 hso hsn hsp
      have hul : u.length = z - a := by omega
      have ca := args_any a1 (some ⟨b, o + a, none⟩) c1 (c2 - a) s u wr (h1.below hB) (hsub.below hB) hoku
      rw [hul] at ca
      obtain ⟨L, hL⟩ : ∃ L, argsT s u = L := ⟨_, rfl⟩
      have hfl : 1 + L.flatten.length = u.length := by
        have := congrArg List.length hsp.2.1
        rw [hL, List.length_cons] at this; omega
      rw [hL] at ca hA3 hso hsn
      have hfl60 : L.flatten.length ≤ 60 := by omega
      obtain ⟨x, hx⟩ : ∃ x, p[j] = x := ⟨_, rfl⟩
      have hpd : p.drop j = x :: p.drop (j + 1) := by rw [List.drop_eq_getElem_cons hlt, hx]
      rw [hx] at q3' hr3
      rw [hpd, place] at hpl
      rw [hz]
      have hz60 : z ≤ 60 := by omega
      have haz : a ≤ z := by omega
      have hzl : z ≤ t.length := by omega
      have hLl : L.length ≤ 60 := by
        have : ∀ M : List (List Int), (∀ u ∈ M, 1 ≤ u.length) → M.length ≤ M.flatten.length := by
          intro M
          induction M with
          | nil => intro; simp
          | cons y r ih => intro hh; rw [List.flatten_cons, List.length_append, List.length_cons]; have := hh y (by simp); have := ih (fun v hv => hh v (by simp [hv])); omega
        have h5 := this L (fun v hv => by
          have h6 := hsp.2.2 v (by rw [hL]; exact hv)
          exact (okT_parts h6).2.1)
        omega
      by_cases hk : 0 ≤ x ∧ x < L.length
      · obtain ⟨k, rfl⟩ := Int.eq_ofNat_of_zero_le hk.1
        have hkl : k < L.length := by omega
        obtain ⟨y, r', e1, e2, e3, e4, -⟩ := hso k hkl
        rw [e1] at hpl
        obtain ⟨M, hM⟩ : ∃ M : Nat, (L.take k).flatten.length = M := ⟨_, rfl⟩
        have hM1 : M + L[k].length ≤ L.flatten.length := by
          have := take_flatten_succ hkl
          have := len_take_flatten (L := L) (q := k + 1); omega
        obtain ⟨-, hlen'⟩ := okT_part hokH.out e3
        rw [e4] at hlen'
        have hr' := skip_len _ _ _ _ e3
        rw [List.length_drop] at hr'
        have hto : y + L[k].length = t.length - r'.length := by omega
        have hb1 : (decide ((0 : Int) ≤ (k : Int)) && decide ((k : Int) ≤ (L.length : Int) - 1)) = true := by simp; omega
        have cw := fun W => within_any (k : Int) 0 ((L.length : Int) - 1) W
        simp only [hb1] at cw
        have cwH := Lib.hid cw
        clear cw hb1
        have caH := Lib.hid ca
        have hplH := Lib.hid hpl
        have e3H := Lib.hid e3
        have htoH := Lib.hid hto
        have hBH := Lib.hid hB
        have e2M : y = a + 1 + M := by omega
        have hMH := Lib.hid hM
        clear ca hpl e1 e2 e3 e4 hB hpd hsp hoku hsub hso hsn hA1 hA2 hA3 hsk hu hpart hlen' hr' hto hx hM hL hlenu hfl h1 h2 h3
        go_wp2_with (first | (go_at_call 29; refine caH.out.mono ?_; rintro e w1 ⟨v, rfl, ho0, hb1'⟩; obtain ⟨a4, c4, rfl, hT⟩ := ho0.sl; clear ho0; have hBn := Lib.hid (hBH.out.trans (hb1'.mono hBH.out.size)); clear hb1'; have mT := hT.cap; have mT2 := hT.max; unfold big at mT2; obtain ⟨bt, ot, at5, ct5, rfl, -, qk, -⟩ := hT.sub k hkl) | (go_at_call 27; refine (cwH.out _).mono ?_; rintro e w2 ⟨rfl, rfl⟩))
        go_loopw [6, 40] (fun fr i wr => sumRel L a k w1 fr i wr) (fun _ i _ => k - (intOf i).toNat)
        case atStart => exact ⟨0, rfl, Nat.zero_le _, by simp, rfl⟩
        case round =>
          obtain ⟨q, rfl, hq, rfl, rfl⟩ := hrel
          by_cases hqk : q < k
          · have hql : q < L.length := by omega
            obtain ⟨bq, oq, aq, cq, hee, -, qq, -⟩ := hT.sub q hql
            simp only [Option.some.injEq, Addr.mk.injEq, and_true] at hee
            obtain ⟨rfl, rfl⟩ := hee
            have hts := take_flatten_succ hql
            have htl := len_take_flatten (L := L) (q := q + 1)
            obtain ⟨N1, hN1⟩ : ∃ N1 : Nat, (L.take q).flatten.length = N1 := ⟨_, rfl⟩
            rw [hN1] at hts ⊢
            have htsH := Lib.hid hts
            have hN2 : N1 + L[q].length ≤ 60 := by omega
            clear hts htl hT hN1
            go_wp2_with fail
            go_roundw
            case rel => exact ⟨q + 1, by go_num, by omega, by rw [htsH.out]; go_num, rfl⟩
            case measure => simp [intOf]; omega
          · have hqk' : q = k := by omega
            subst hqk'
            rw [hMH.out]
            clear hT
            go_wp2_with fail
            go_roundw
            case rel => exact ⟨j + 1, y, r', by go_num, by rw [e2M], by rw [← htoH.out, e2M]; go_num, by omega, e3H.out, hplH.out, hBn.out⟩
            case measure => simp [intOf]; omega
      · rw [hsn x hk] at hpl
        have hv : spanV s t p = .tuple #[.int .i64 0, .int .i64 0, .bool false] := by rw [spanV, ← hpl]; rfl
        have hb1 : (decide ((0 : Int) ≤ x) && decide (x ≤ (L.length : Int) - 1)) = false := by simp; omega
        have cw := fun W => within_any x 0 ((L.length : Int) - 1) W
        simp only [hb1] at cw
        have cwH := Lib.hid cw
        clear cw hb1
        have hvH := Lib.hid hv
        have caH := Lib.hid ca
        have hBH := Lib.hid hB
        clear hv ca hB hpl hpd hsp hoku hsub hso hsn hA1 hA2 hA3 hsk hu hpart hx hL hlenu hk h1 h2 h3
        go_wp2_with (first | (go_at_call 29; refine caH.out.mono ?_; rintro e w1 ⟨v, rfl, ho0, hb1'⟩; obtain ⟨a4, c4, rfl, hT⟩ := ho0.sl; clear ho0 hT; have hBn := Lib.hid (hBH.out.trans (hb1'.mono hBH.out.size)); clear hb1') | (go_at_call 27; refine (cwH.out _).mono ?_; rintro e w2 ⟨rfl, rfl⟩))
        go_ret3
        exact ⟨by rw [hvH.out]; rfl, hBn.out⟩
    · have hv : spanV s t p = .tuple #[.int .i64 a, .int .i64 (t.length - rest.length : Nat), .bool true] := by
        rw [List.drop_eq_nil_of_le (by omega), place] at hpl
        obtain ⟨-, hlen⟩ := okT_part hokH.out hsk
        have hrl := skip_len _ _ _ _ hsk
        rw [List.length_drop] at hrl
        rw [spanV, ← hpl]
        simp only [hlen]
        rw [show a + (t.length - a - rest.length) = t.length - rest.length by omega]
      have hvH := Lib.hid hv
      clear hv hpl hsk
      go_wp2_with fail
      go_ret3
      exact ⟨by rw [hvH.out]; rfl, hB⟩
end Go.Proofs.Ytgkddhakhapjlaa
