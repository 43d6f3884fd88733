/- Walks: ValidSign of the reference; Valid, of both. -/
import Derived.Test.YtpmnnoopoblpgaaGreatWalkD
namespace Go.Proofs.YtpmnnoopoblpgaaGreat
open Go Go.RowKit

theorem sym0 {S : Nat → Prop} {w : World} {a : Option Addr} {c : Nat} {s : Sg} (h : Sign S w a c s) (h0 : 0 < s.length) :
    ∃ b off, a = some ⟨b, off, none⟩ ∧ S b ∧ w.cell? ⟨b, off, none⟩ = some (.string s[0].1) ∧ w.cell? ⟨b, off + 1, none⟩ = some (.int .i64 s[0].2) := by
  obtain ⟨b, o, ha, hb, h1, h2, _⟩ := h.sym 0 h0
  simp at h1 h2
  exact ⟨b, o, ha, hb, h1, h2⟩
def vsR1 (s : Sg) (w0 : World) (i : Value) (wr : World) : Prop := ∃ k : Nat, i = .int .i64 k ∧ k ≤ s.length ∧ goodTo s k ∧ Drew w0 wr
def vsR2 (s : Sg) (w0 : World) (x : ByteArray) (k : Nat) (i : Value) (wr : World) : Prop := ∃ j : Nat, i = .int .i64 j ∧ j ≤ k ∧ x ∉ nm s j ∧ Drew w0 wr
theorem nm_succ {s : Sg} {j : Nat} {x : ByteArray} (hj : j < s.length) (h : x ∉ nm s j) (hx : s[j].1 ≠ x) : x ∉ nm s (j + 1) := by
  unfold nm at *
  rw [List.take_succ_eq_append_getElem hj, List.map_append, List.mem_append, not_or]
  exact ⟨h, by simpa using fun e => hx e.symm⟩
theorem nm_mem {s : Sg} {j k : Nat} (hj : j < k) (hk : k ≤ s.length) : (s[j]'(by omega)).1 ∈ nm s k := by
  unfold nm
  exact List.mem_map.2 ⟨s[j], List.mem_take_iff_getElem.2 ⟨j, by omega, rfl⟩, rfl⟩

set_option maxHeartbeats 1000000 in
theorem rValidSign_any {S : Nat → Prop} (a : Option Addr) (c : Nat) (s : Sg) (w : World) (h : Sign S w a c s) :
    Calls Tryz.prog 86 #[.slice a s.length c] w fun e w' => e = .returned (.bool (okSign s)) ∧ Drew w w' := by
  have m := h.le
  by_cases h12 : 1 ≤ s.length ∧ s.length ≤ 12
  · have hr : (decide (1 ≤ (s.length : Int)) && decide ((s.length : Int) ≤ 12)) = true := by simp; omega
    have hl0 : 0 < s.length := by omega
    obtain ⟨b, o, rfl, hSb, -, q0⟩ := sym0 h hl0
    have hgd : (s.getD 0 default).2 = s[0].2 := by rw [List.getD_eq_getElem?_getD, List.getElem?_eq_getElem hl0]; rfl
    have hgdH := Lib.hid hgd
    have h12H := Lib.hid h12
    obtain ⟨n0, hn0⟩ : ∃ n, s[0].2 = n := ⟨_, rfl⟩
    rw [hn0] at q0 hgd
    have hgdH := Lib.hid hgd
    clear hgd hn0 h12
    by_cases h2 : n0 = 2
    · subst h2
      go_enter Tryz.func86, Tryz.ntmps86
      go_wp2_with (go_at_call 132; refine (rwithin_any _ _ _ _).mono ?_; rw [hr]; rintro e w' ⟨rfl, rfl⟩)
      go_loopw [3, 4] (fun i _ wr => vsR1 s w i wr) (fun i _ _ => s.length - (intOf i).toNat)
      case atStart => exact ⟨0, rfl, Nat.zero_le _, goodTo_zero s, .refl _⟩
      case round =>
        obtain ⟨k, rfl, hk, hg, n1, rfl⟩ := hrel
        by_cases hlt : k < s.length
        · obtain ⟨b', o', he, -, p1, p2, hsz, hrg⟩ := h.sym k hlt
          simp only [Option.some.injEq, Addr.mk.injEq, and_true] at he
          obtain ⟨rfl, rfl⟩ := he
          obtain ⟨x, hx⟩ : ∃ x, s[k].1 = x := ⟨_, rfl⟩
          obtain ⟨n, hn⟩ : ∃ n, s[k].2 = n := ⟨_, rfl⟩
          rw [hx] at p1 hsz
          rw [hn] at p2 hrg
          obtain ⟨ok, hok⟩ : ∃ ok, nameOk x = ok := ⟨_, rfl⟩
          obtain ⟨ra, hra⟩ : ∃ ra, (decide (0 ≤ n) && decide (n ≤ 3)) = ra := ⟨_, rfl⟩
          have hent : entOk s[k] = (ok && ra) := by rw [entOk_eq, hx, hn, hok, hra]
          have hxH := Lib.hid hx
          have hgH := Lib.hid hg
          have hentH := Lib.hid hent
          have hokH := Lib.hid hok
          have hraH := Lib.hid hra
          have hH := Lib.hid h
          clear hx hn hg hent hok hra h
          cases ok with
          | false =>
            have hfin := Lib.hid (bad_ent hlt hentH.out)
            go_wp2_with (first | (go_at_call 132; refine (rwithin_any _ _ _ _).mono ?_; rw [hraH.out]; rintro e w' ⟨rfl, rfl⟩) | (go_at_call 142; refine (isName_any _ _ hsz).mono ?_; rw [hokH.out]; rintro e w' ⟨rfl, rfl⟩))
            go_ret
            exact ⟨ret_bool hfin.out.symm, .mk _ _⟩
          | true =>
            cases ra with
            | false =>
              have hfin := Lib.hid (bad_ent hlt hentH.out)
              go_wp2_with (first | (go_at_call 132; refine (rwithin_any _ _ _ _).mono ?_; rw [hraH.out]; rintro e w' ⟨rfl, rfl⟩) | (go_at_call 142; refine (isName_any _ _ hsz).mono ?_; rw [hokH.out]; rintro e w' ⟨rfl, rfl⟩))
              go_ret
              exact ⟨ret_bool hfin.out.symm, .mk _ _⟩
            | true =>
              go_wp2_with (first | (go_at_call 132; refine (rwithin_any _ _ _ _).mono ?_; rw [hraH.out]; rintro e w' ⟨rfl, rfl⟩) | (go_at_call 142; refine (isName_any _ _ hsz).mono ?_; rw [hokH.out]; rintro e w' ⟨rfl, rfl⟩))
              go_loopw [4] (fun i wr => vsR2 s w x k i wr) (fun i _ => k - (intOf i).toNat)
              case atStart => exact ⟨0, rfl, Nat.zero_le _, by simp [nm], .mk _ _⟩
              case round =>
                obtain ⟨j, rfl, hj, hni, n2, rfl⟩ := hrel
                by_cases hjk : j < k
                · have hjs : j < s.length := by omega
                  obtain ⟨b', o', he, -, r1, -, -, -⟩ := hH.out.sym j hjs
                  simp only [Option.some.injEq, Addr.mk.injEq, and_true] at he
                  obtain ⟨rfl, rfl⟩ := he
                  have hniH := Lib.hid hni
                  obtain ⟨y, hy⟩ : ∃ y, s[j].1 = y := ⟨_, rfl⟩
                  rw [hy] at r1
                  have hyH := Lib.hid hy
                  clear hni hy
                  by_cases hxy : y = x
                  · have hfin := Lib.hid (bad_dup hlt (by rw [hxH.out, ← hxy, ← hyH.out]; exact nm_mem hjk (Nat.le_of_lt hlt)))
                    have hb := str_eq hxy
                    clear hxy
                    go_wp2_with fail
                    go_quiet (fail)
                    all_goals go_wp2_with fail
                    go_ret
                    exact ⟨ret_bool hfin.out.symm, .mk2 _ _ _⟩
                  · have hb := str_neq hxy
                    have hxyH := Lib.hid hxy
                    clear hxy
                    go_wp2_with fail
                    go_quiet (fail)
                    all_goals go_wp2_with fail
                    exact ⟨⟨j + 1, by go_num, by omega, nm_succ hjs hniH.out (by rw [hyH.out]; exact hxyH.out), .mk _ _⟩, by simp [intOf]; omega⟩
                · have hjk' : j = k := by omega
                  subst hjk'
                  have hgs := Lib.hid (goodTo_succ hgH.out hlt hentH.out (by rw [hxH.out]; exact hni))
                  go_wp2_with fail
                  go_roundw
                  case rel => exact ⟨j + 1, by go_num, by omega, hgs.out, .mk _ _⟩
                  case measure => simp [intOf]; omega
        · have hfin := Lib.hid (good_all (by omega) hg)
          clear hg
          go_wp2_with fail
          go_ret
          refine ⟨ret_bool ?_, .mk _ _⟩
          rw [hfin.out, hgdH.out, decide_eq_true h12H.out.1, decide_eq_true h12H.out.2]
          rfl
    · have hfin : okSign s = false := by unfold okSign; rw [hgdH.out, decide_eq_false h2, Bool.and_false]
      have hne : (n0 != 2) = true := by simp [h2]
      have hfinH := Lib.hid hfin
      clear hfin h2
      go_enter Tryz.func86, Tryz.ntmps86
      go_wp2_with (go_at_call 132; refine (rwithin_any _ _ _ _).mono ?_; rw [hr]; rintro e w' ⟨rfl, rfl⟩)
      go_ret
      exact ⟨ret_bool hfinH.out.symm, .refl _⟩
  · have hr : (decide (1 ≤ (s.length : Int)) && decide ((s.length : Int) ≤ 12)) = false := by simp; omega
    have hfin : okSign s = false := by simp [okSign]; omega
    have hfinH := Lib.hid hfin
    clear hfin h12
    go_enter Tryz.func86, Tryz.ntmps86
    go_wp2_with (go_at_call 132; refine (rwithin_any _ _ _ _).mono ?_; rw [hr]; rintro e w' ⟨rfl, rfl⟩)
    go_ret
    exact ⟨ret_bool hfinH.out.symm, .refl _⟩

theorem endOf_zero {s : Sg} {t : List Int} (ht : 1 ≤ t.length) : decide (endOf s t 0 = t.length) = decide (skip s 1 t = some []) := by
  rw [Bool.eq_iff_iff, decide_eq_true_eq, decide_eq_true_eq]
  cases h : skip s 1 t with
  | none => have := endOf_none s t 0 (by simpa using h); simp at this; rw [this]; simp <;> omega
  | some r =>
    obtain ⟨h1, h2, h3, h4⟩ := endOf_some s t 0 r (by simpa using h)
    simp at h1
    rw [h1]
    constructor
    · intro e; have : r.length = 0 := by omega
      rw [List.length_eq_zero_iff] at this; rw [this]
    · intro e; cases e; simp
theorem codeOk_within {s : Sg} {n : Int} : (decide (-12 ≤ n) && decide (n ≤ (s.length : Int) - 1)) = codeOk s n := by
  rw [Bool.eq_iff_iff]; simp [codeOk] <;> omega

set_option maxHeartbeats 1000000 in
theorem Valid_any {S1 S2 : Nat → Prop} (a1 a2 : Option Addr) (c1 c2 : Nat) (s : Sg) (t : List Int) (w : World) (h1 : Sign S1 w a1 c1 s) (h2 : Ints S2 w a2 c2 t) :
    Calls Tryz.prog 119 #[.slice a1 s.length c1, .slice a2 t.length c2] w fun e w' => e = .returned (.bool (okT s t)) ∧ Below w.heap.size w w' := by
  have m2 := h2.le
  obtain ⟨ok, hok⟩ : ∃ ok, okSign s = ok := ⟨_, rfl⟩
  have hv := ValidSign_any a1 c1 s w h1
  rw [hok] at hv
  have hvH := Lib.hid hv
  clear hv
  cases ok with
  | false =>
    have hfin : okT s t = false := by simp [okT, hok]
    have hfinH := Lib.hid hfin
    clear hfin hok
    go_enter Tryz.func119, Tryz.ntmps119
    go_wp2_with (go_at_call 85; refine hvH.out.mono ?_; rintro e w1 ⟨rfl, hb1⟩)
    go_ret
    exact ⟨ret_bool hfinH.out.symm, hb1⟩
  | true =>
    by_cases hl : 1 ≤ t.length ∧ t.length ≤ 60
    · have hr : (decide (1 ≤ (t.length : Int)) && decide ((t.length : Int) ≤ 60)) = true := by simp; omega
      have hfin : okT s t = decide (endOf s t 0 = t.length) := by rw [endOf_zero hl.1]; simp [okT, hok, hl]
      have hfinH := Lib.hid hfin
      have hokH := Lib.hid hok
      clear hfin hok
      go_enter Tryz.func119, Tryz.ntmps119
      go_wp2_with (first | (go_at_call 85; refine hvH.out.mono ?_; rintro e w1 ⟨rfl, hb1⟩) | (go_at_call 141; refine (within_any _ _ _ _).mono ?_; rw [hr]; rintro e w' ⟨rfl, rfl⟩) | (go_at_call 164; refine (end_any hokH.out 0 _ (.inr ⟨Int.le_refl _, Int.natCast_nonneg _⟩) (h1.below hb1) (h2.below hb1)).mono ?_; rintro e w2 ⟨d, rfl, hd, hb2⟩))
      go_ret
      refine ⟨ret_bool ?_, hb1.trans (hb2.mono hb1.size)⟩
      rw [hfinH.out, Bool.eq_iff_iff]; simp
    · have hr : (decide (1 ≤ (t.length : Int)) && decide ((t.length : Int) ≤ 60)) = false := by simp; omega
      have hfin : okT s t = false := by simp [okT, hok]; omega
      have hfinH := Lib.hid hfin
      clear hfin hok
      go_enter Tryz.func119, Tryz.ntmps119
      go_wp2_with (first | (go_at_call 85; refine hvH.out.mono ?_; rintro e w1 ⟨rfl, hb1⟩) | (go_at_call 141; refine (within_any _ _ _ _).mono ?_; rw [hr]; rintro e w' ⟨rfl, rfl⟩))
      go_ret
      exact ⟨ret_bool hfinH.out.symm, hb1⟩

def rvRel (s : Sg) (t : List Int) (w : World) (need i : Value) (wr : World) : Prop :=
  ∃ k n : Nat, i = .int .i64 k ∧ need = .int .i64 n ∧ k ≤ t.length ∧ n ≤ 1 + 3 * k ∧ (skip s n (t.drop k) = some [] ↔ skip s 1 t = some []) ∧ Drew w wr

set_option maxHeartbeats 1000000 in
theorem rValid_any {S1 S2 : Nat → Prop} (a1 a2 : Option Addr) (c1 c2 : Nat) (s : Sg) (t : List Int) (w : World) (h1 : Sign S1 w a1 c1 s) (h2 : Ints S2 w a2 c2 t) :
    Calls Tryz.prog 78 #[.slice a1 s.length c1, .slice a2 t.length c2] w fun e w' => e = .returned (.bool (okT s t)) ∧ Drew w w' := by
  have m1 := h1.le
  have m2 := h2.le
  obtain ⟨ok, hok⟩ : ∃ ok, okSign s = ok := ⟨_, rfl⟩
  have hv := rValidSign_any a1 c1 s w h1
  rw [hok] at hv
  have hvH := Lib.hid hv
  clear hv
  cases ok with
  | false =>
    have hfin : okT s t = false := by simp [okT, hok]
    have hfinH := Lib.hid hfin
    clear hfin hok
    go_enter Tryz.func78, Tryz.ntmps78
    go_wp2_with (go_at_call 86; refine hvH.out.mono ?_; rintro e w1 ⟨rfl, hb1⟩)
    go_ret
    exact ⟨ret_bool hfinH.out.symm, hb1⟩
  | true =>
    by_cases hl : 1 ≤ t.length ∧ t.length ≤ 60
    · have hr : (decide (1 ≤ (t.length : Int)) && decide ((t.length : Int) ≤ 60)) = true := by simp; omega
      have hfin : okT s t = decide (skip s 1 t = some []) := by simp [okT, hok, hl]
      have hfinH := Lib.hid hfin
      have hokH := Lib.hid hok
      clear hfin hok
      go_enter Tryz.func78, Tryz.ntmps78
      go_wp2_with (first | (go_at_call 86; refine hvH.out.mono ?_; rintro e w1 ⟨rfl, nn, rfl⟩) | (go_at_call 132; refine (rwithin_any _ _ _ _).mono ?_; rw [hr]; rintro e w' ⟨rfl, rfl⟩))
      go_loopw [5, 6] (fun need i wr => rvRel s t w need i wr) (fun _ i _ => t.length - (intOf i).toNat)
      case atStart => exact ⟨0, 1, rfl, rfl, Nat.zero_le _, Nat.le_refl _, by simp, .mk _ _⟩
      case round =>
        obtain ⟨k, n, rfl, rfl, hk, hn, hs, n2, rfl⟩ := hrel
        by_cases hlt : k < t.length
        · have hdc := List.drop_eq_getElem_cons hlt
          rw [hdc] at hs
          obtain ⟨b, o, rfl, -, q, -⟩ := h2.int k hlt
          by_cases hn0 : n = 0
          · subst hn0
            have hfin : okT s t = false := by rw [hfinH.out, decide_eq_false]; rw [← hs, skip_zero]; exact fun e => by cases e
            have hfin2 := Lib.hid hfin
            clear hs hdc hfin h2 h1
            go_wp2_with fail
            go_ret
            exact ⟨ret_bool hfin2.out.symm, .mk _ _⟩
          · obtain ⟨n', rfl⟩ : ∃ n', n = n' + 1 := ⟨n - 1, by omega⟩
            have hnz : (((n' + 1 : Nat) : Int) == 0) = false := by simp; omega
            rw [skip_cons] at hs
            obtain ⟨cd, hcd⟩ : ∃ cd, codeOk s t[k] = cd := ⟨_, rfl⟩
            have hw := codeOk_within (s := s) (n := t[k])
            rw [hcd] at hw
            rw [hcd] at hs
            have hwH := Lib.hid hw
            clear hw
            cases cd with
            | false =>
              have hfin : okT s t = false := by rw [hfinH.out, decide_eq_false]; rw [← hs]; simp
              have hfin2 := Lib.hid hfin
              clear hs hdc hfin h2 h1 hcd
              go_wp2_with (go_at_call 132; refine (rwithin_any _ _ _ _).mono ?_; rw [hwH.out]; rintro e w' ⟨rfl, rfl⟩)
              go_ret
              exact ⟨ret_bool hfin2.out.symm, .mk _ _⟩
            | true =>
              rw [if_pos rfl] at hs
              obtain ⟨hA, hA3⟩ := arC_ok hokH.out hcd
              have ca := rArity_any a1 c1 s t[k] (w.drewN n2) (h1.drewN _) hcd
              rw [hA] at ca
              have caH := Lib.hid ca
              have hsH := Lib.hid hs
              obtain ⟨m, hm⟩ : ∃ m, ar s t[k] = m := ⟨_, rfl⟩
              rw [hm] at caH hsH hA3
              clear hs hdc hcd ca hA hm
              go_wp2_with (first | (go_at_call 132; refine (rwithin_any _ _ _ _).mono ?_; rw [hwH.out]; rintro e w' ⟨rfl, rfl⟩) | (go_at_call 133; refine caH.out.mono ?_; rintro e w' ⟨rfl, rfl⟩))
              go_roundw
              case rel => exact ⟨k + 1, n' + m, by go_num, by congr 1 <;> omega, by omega, by omega, hsH.out, .mk _ _⟩
              case measure => simp [intOf]; omega
        · have hd : t.drop k = [] := List.drop_eq_nil_of_le (by omega)
          rw [hd] at hs
          have hsH := Lib.hid hs
          clear hs hd h1 h2
          go_wp2_with fail
          go_ret
          refine ⟨ret_bool ?_, .mk _ _⟩
          rw [hfinH.out, Bool.eq_iff_iff, decide_eq_true_eq, ← hsH.out]
          cases n with
          | zero => simp [skip_zero]
          | succ n => simp [skip_nil] <;> omega
    · have hr : (decide (1 ≤ (t.length : Int)) && decide ((t.length : Int) ≤ 60)) = false := by simp; omega
      have hfin : okT s t = false := by simp [okT, hok]; omega
      have hfinH := Lib.hid hfin
      clear hfin hok
      go_enter Tryz.func78, Tryz.ntmps78
      go_wp2_with (first | (go_at_call 86; refine hvH.out.mono ?_; rintro e w1 ⟨rfl, hb1⟩) | (go_at_call 132; refine (rwithin_any _ _ _ _).mono ?_; rw [hr]; rintro e w' ⟨rfl, rfl⟩))
      go_ret
      exact ⟨ret_bool hfinH.out.symm, hb1⟩
end Go.Proofs.YtpmnnoopoblpgaaGreat
