/- Walks of package unify: where parts end; terms with variables of any number. -/
import Derived.Test.YtpmnnoopoblpgaaGreatUni
import Derived.Test.YtpmnnoopoblpgaaGreatWalkI
namespace Go.Proofs.YtpmnnoopoblpgaaGreat
open Go Go.RowKit Go.Maps

theorem okSign_ars {s : Sg} (h : okSign s = true) (n : Nat) (hn : n < s.length) : 0 ≤ s[n].2 ∧ s[n].2 ≤ 3 := by
  simp only [okSign, Bool.and_eq_true] at h
  have := List.all_eq_true.1 h.1.1.2 s[n] (List.getElem_mem hn)
  simp only [entOk, Bool.and_eq_true, decide_eq_true_eq] at this
  omega
theorem arW_sym {s : Sg} {n : Nat} (hn : n < s.length) (h0 : 0 ≤ s[n].2) : (s[n].2 : Int) = (arW s (n : Int) : Nat) := by
  unfold arW
  rw [if_neg (by omega), Int.toNat_natCast, List.getD_eq_getElem?_getD, List.getElem?_eq_getElem hn]
  simp only [Option.getD_some]
  omega
theorem arW_neg {s : Sg} {n : Int} (h : n < 0) : arW s n = 0 := by unfold arW; rw [if_pos h]

def aftRel (s : Sg) (t r : List Int) (w : World) (at_ op : Value) (wr : World) : Prop :=
  ∃ p k : Nat, at_ = .int .i64 p ∧ op = .int .i64 k ∧ p ≤ t.length ∧ skw s k (t.drop p) = some r ∧ wr = w
set_option maxHeartbeats 1000000 in
theorem after_any {S1 S2 : Nat → Prop} (a1 a2 : Option Addr) (c1 c2 : Nat) (s : Sg) (t : List Int) (p : Nat) (r : List Int) (w : World) (h1 : Sign S1 w a1 c1 s) (h2 : Ints S2 w a2 c2 t) (hok : okSign s = true) (hp : skw s 1 (t.drop p) = some r) :
    Calls Tryz.prog 202 #[.slice a1 s.length c1, .slice a2 t.length c2, .int .i64 p] w fun e w' => e = .returned (.int .i64 (t.length - r.length : Nat)) ∧ w = w' := by
  have m2 := h2.le
  have hpl : p ≤ t.length := by obtain ⟨h, _⟩ := skw_drop hp; omega
  have hpH := Lib.hid hp
  have hokH := Lib.hid hok
  clear hp hok
  go_enter Tryz.func202, Tryz.ntmps202
  go_wp2_with fail
  go_loopw [2, 7] (fun at_ op wr => aftRel s t r w at_ op wr) (fun at_ _ _ => t.length - (intOf at_).toNat)
  case atStart => exact ⟨p, 1, rfl, rfl, hpl, hpH.out, rfl⟩
  case round =>
    obtain ⟨q, k, rfl, rfl, hq, hs, rfl⟩ := hrel
    cases k with
    | zero =>
      rw [skw_zero] at hs
      have hq2 : (q : Int) = (t.length - r.length : Nat) := by
        have : (t.drop q).length = r.length := by rw [Option.some.inj hs]
        rw [List.length_drop] at this; omega
      have hqH := Lib.hid hq2
      clear hs hq2
      go_wp2_with fail
      go_ret
      exact ⟨ret_int hqH.out, rfl⟩
    | succ k =>
      obtain ⟨hlt, hc, hs'⟩ := skw_drop hs
      have hsl := skw_len _ _ _ _ hs'
      rw [List.length_drop] at hsl
      obtain ⟨b, o, rfl, -, q1, -⟩ := h2.int q hlt
      by_cases hneg : t[q] < 0
      · rw [arW_neg hneg] at hs'
        obtain ⟨x, hx⟩ : ∃ x, t[q] = x := ⟨_, rfl⟩
        rw [hx] at q1 hneg
        have hsH := Lib.hid hs'
        clear hs' hs hc hx
        go_wp2_with fail
        go_roundw
        case rel => exact ⟨q + 1, k, by go_num, by go_num, by omega, hsH.out, rfl⟩
        case measure => simp [intOf]; omega
      · obtain ⟨n, hx⟩ := Int.eq_ofNat_of_zero_le (show (0 : Int) ≤ t[q] by omega)
        have hn : n < s.length := by
          have := of_decide_eq_true hc
          omega
        rw [hx] at q1 hs' hsl
        obtain ⟨b', o', rfl, -, -, q2, -, -⟩ := h1.sym n hn
        rw [arW_sym hn (okSign_ars hokH.out n hn).1] at q2
        have ha3 := (okSign_ars hokH.out n hn).2
        rw [arW_sym hn (okSign_ars hokH.out n hn).1] at ha3
        obtain ⟨m, hm⟩ : ∃ m, arW s (n : Int) = m := ⟨_, rfl⟩
        rw [hm] at q2 hs' hsl ha3
        have hsH := Lib.hid hs'
        clear hs' hs hc hx hm hneg
        go_wp2_with fail
        go_roundw
        case rel => exact ⟨q + 1, k + m, by go_num, by go_num, by omega, hsH.out, rfl⟩
        case measure => simp [intOf]; omega
end Go.Proofs.YtpmnnoopoblpgaaGreat
