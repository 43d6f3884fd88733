/- Walks: where a term ends. -/
import Derived.Test.YtpmnnoopoblpgaaGreatWalkA
namespace Go.Proofs.YtpmnnoopoblpgaaGreat
open Go Go.RowKit

def endPost (s : Sg) (t : List Int) (k : Int) (w : World) (e : Ending) (w' : World) : Prop :=
  ∃ d : Nat, e = .returned (.tuple #[.int .i64 (endOf s t k), .int .i64 d]) ∧ d ≤ t.length - k.toNat ∧ (k < 0 → d = 0) ∧ (endOf s t k ≠ -1 → ∀ G, t.length - k.toNat ≤ G → d = dep s G (t.drop k.toNat)) ∧ Drew w w'

def endRel (s : Sg) (t : List Int) (p m : Nat) (w : World) (deep next i : Value) (wr : World) : Prop :=
  ∃ (dn j : Nat) (nx : Int), j ≤ m ∧ i = .int .i64 j ∧ deep = .int .i64 dn ∧ next = .int .i64 nx ∧ EndInv s t (t.length - (p + 1)) m p nx dn j ∧ Drew w wr

set_option maxHeartbeats 400000 in
theorem end1_any {S : Nat → Prop} {a1 a2 : Option Addr} {c1 c2 : Nat} {s : Sg} {t : List Int} (hs : okSign s = true) (pt ps pw : Addr) (M : Nat) :
    ∀ (k : Int) (w : World), (k = -1 ∨ (0 ≤ k ∧ k ≤ t.length ∧ t.length ≤ M + k.toNat)) → Sign S w a1 c1 s → Ints S w a2 c2 t →
      w.cell? pt = some (.slice a2 t.length c2) → w.cell? ps = some (.slice a1 s.length c1) →
      w.cell? pw = some (.func (.func 189) #[] #[.pointer (some pt), .pointer (some ps), .pointer (some pw)]) →
      Calls Tryz.prog 189 #[.int .i64 k, .pointer (some pt), .pointer (some ps), .pointer (some pw)] w (endPost s t k w) := by
  induction M with
  | zero =>
    intro k w hk h1 h2 q1 q2 q3
    have m2 := h2.le
    have hbad : ¬ (0 ≤ k ∧ k < t.length) := by omega
    have he := endOf_out s t k hbad
    have heH := Lib.hid he
    clear he
    by_cases h0 : k < 0
    · go_enter Tryz.func189, Tryz.ntmps189
      go_wp2_with fail
      go_ret2
      exact ⟨0, by rw [heH.out]; rfl, Nat.zero_le _, fun _ => rfl, fun h => (h heH.out).elim, .refl _⟩
    · have h3 : (t.length : Int) ≤ k := by omega
      go_enter Tryz.func189, Tryz.ntmps189
      go_wp2_with fail
      go_ret2
      exact ⟨0, by rw [heH.out]; rfl, Nat.zero_le _, fun _ => rfl, fun h => (h heH.out).elim, .refl _⟩
  | succ M ih =>
    intro k w hk h1 h2 q1 q2 q3
    by_cases hin : 0 ≤ k ∧ k < t.length
    · obtain ⟨p, rfl⟩ := Int.eq_ofNat_of_zero_le hin.1
      have hp : p < t.length := by omega
      have m2 := h2.le
      have hk' := hk
      clear hk hin
      obtain ⟨b2, o2, rfl, -, q4, -⟩ := h2.int p hp
      by_cases hc : codeOk s t[p] = true
      · obtain ⟨hA, hA3⟩ := arC_ok hs hc
        obtain ⟨m, hm⟩ : ∃ m, ar s t[p] = m := ⟨_, rfl⟩
        rw [hm] at hA hA3
        have ca : ∀ n, Calls Tryz.prog 190 #[.slice a1 s.length c1, .int .i64 t[p]] (w.drewN n) fun e w' => e = .returned (.int .i64 (m : Int)) ∧ w.drewN n = w' := fun n => by
          have := arity_any a1 c1 s t[p] (w.drewN n) (h1.drewN n)
          rw [hA] at this; exact this
        have hcH := Lib.hid hc
        have hmH := Lib.hid hm
        have IH := Lib.hid ih
        have caH := Lib.hid ca
        clear hc hm ih ca hA
        have hp' : (p : Int) < t.length := by omega
        go_enter Tryz.func189, Tryz.ntmps189
        go_wp2_with fail
        go_quiet ((go_at_call 190; exact quiet_left (caH.out _)))
        all_goals go_wp2_with fail
        go_loopw [8, 9, 31] (fun deep next i wr => endRel s t p m w deep next i wr) (fun _ _ i _ => m - (intOf i).toNat)
        case atStart => exact ⟨0, 0, _, Nat.zero_le _, rfl, rfl, rfl, EndInv.start _ _ _ _ _ hp, .mk _ _⟩
        case round =>
          obtain ⟨dn, j, nx, hj, rfl, rfl, rfl, hI, n', rfl⟩ := hrel
          by_cases hjm : j < m
          · have hnx := hI.next
            have hdn := hI.1
            have q1' : (w.drewN n').cell? pt = _ := q1
            have q2' : (w.drewN n').cell? ps = _ := q2
            have q3' : (w.drewN n').cell? pw = _ := q3
            have ci := IH.out nx (w.drewN n') (by omega) (h1.drewN _) (h2.drewN _) q1' q2' q3'
            have ciH := Lib.hid ci
            have hIH := Lib.hid hI
            clear ci hI
            go_wp2_with (go_at_call 189; refine ciH.out.mono ?_; rintro e w' ⟨d, rfl, hd1, hd0, hd2, n2, rfl⟩)
            all_goals
              have hst := EndInv.step hIH.out hjm (Nat.le_refl _) (d := d) (by rcases hnx with h | h; · omega
                                                                               · rw [hd0 (by omega)]; omega) hd2
              go_roundw
              case rel => exact ⟨_, _, _, _, _, ⟨max dn d, j + 1, _, by omega, by go_num, by congr 1; omega, rfl, hst, .mk _ _⟩, rfl, rfl, rfl, rfl, rfl⟩
              case measure => simp [intOf]; omega
          · have hjm' : j = m := by omega
            subst hjm'
            have hdn := hI.1
            have hpost := hI
            rw [← hmH.out] at hpost
            have hfin := EndInv.done hp rfl hcH.out hpost (Nat.le_refl _)
            have hfH := Lib.hid hfin
            clear hpost hfin hI
            go_wp2_with fail
            go_ret2
            exact ⟨dn + 1, by rw [hfH.out.1]; rfl, by simp; omega, fun h => by omega, by rw [hfH.out.1]; exact fun h G hG => hfH.out.2 h G hG, .mk _ _⟩
      · have hc' : codeOk s t[p] = false := by simpa using hc
        have hA := arC_bad hc'
        have he := Lib.hid (endOf_bad s t p hp hc')
        have ca : ∀ n, Calls Tryz.prog 190 #[.slice a1 s.length c1, .int .i64 t[p]] (w.drewN n) fun e w' => e = .returned (.int .i64 (-1)) ∧ w.drewN n = w' := fun n => by
          have := arity_any a1 c1 s t[p] (w.drewN n) (h1.drewN n)
          rw [hA] at this; exact this
        have caH := Lib.hid ca
        clear ca hA hc hc' ih
        have hp' : (p : Int) < t.length := by omega
        go_enter Tryz.func189, Tryz.ntmps189
        go_wp2_with fail
        go_quiet ((go_at_call 190; exact quiet_left (caH.out _)))
        all_goals go_wp2_with fail
        go_ret2
        exact ⟨0, by rw [he.out]; rfl, Nat.zero_le _, fun _ => rfl, fun h => (h he.out).elim, .mk _ _⟩
    · have m2 := h2.le
      have he := endOf_out s t k hin
      have heH := Lib.hid he
      clear he
      by_cases h0 : k < 0
      · go_enter Tryz.func189, Tryz.ntmps189
        go_wp2_with fail
        go_ret2
        exact ⟨0, by rw [heH.out]; rfl, Nat.zero_le _, fun _ => rfl, fun h => (h heH.out).elim, .refl _⟩
      · have h3 : (t.length : Int) ≤ k := by omega
        go_enter Tryz.func189, Tryz.ntmps189
        go_wp2_with fail
        go_ret2
        exact ⟨0, by rw [heH.out]; rfl, Nat.zero_le _, fun _ => rfl, fun h => (h heH.out).elim, .refl _⟩

def endPostB (s : Sg) (t : List Int) (k : Int) (w : World) (e : Ending) (w' : World) : Prop :=
  ∃ d : Nat, e = .returned (.tuple #[.int .i64 (endOf s t k), .int .i64 d]) ∧ (endOf s t k ≠ -1 → ∀ G, t.length - k.toNat ≤ G → d = dep s G (t.drop k.toNat)) ∧ Below w.heap.size w w'

set_option maxHeartbeats 400000 in
theorem end_any {S1 S2 : Nat → Prop} {a1 a2 : Option Addr} {c1 c2 : Nat} {s : Sg} {t : List Int} (hs : okSign s = true) (k : Int) (w : World) (hk : k = -1 ∨ (0 ≤ k ∧ k ≤ t.length)) (h1 : Sign S1 w a1 c1 s) (h2 : Ints S2 w a2 c2 t) :
    Calls Tryz.prog 164 #[.slice a1 s.length c1, .slice a2 t.length c2, .int .i64 k] w (endPostB s t k w) := by
  have m2 := h2.le
  go_enter Tryz.func164, Tryz.ntmps164
  go_wp2_with fail
  refine (end1_any hs _ _ _ t.length k _ (by omega) (h1.any.below (below3 _ _ _ _)) (h2.any.below (below3 _ _ _ _)) (by go_simp) (by go_simp) (by go_simp)).mono ?_
  rintro e w' ⟨d, rfl, hd1, hd0, hd2, n2, rfl⟩
  go_wp2_with fail
  go_ret2
  exact ⟨d, rfl, hd2, (below3 _ _ _ _).trans (.trans (.refl _ _) ((Drew.mk _ n2).below _))⟩
end Go.Proofs.YtpmnnoopoblpgaaGreat
