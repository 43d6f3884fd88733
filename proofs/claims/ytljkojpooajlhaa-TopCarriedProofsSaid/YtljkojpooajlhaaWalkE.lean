/- Walks: ValidSign of the reference; Valid, of both. -/
import Derived.Test.YtljkojpooajlhaaWalkD
namespace Go.Proofs.Ytljkojpooajlhaa
open Go Go.RowKit

theorem sym0 {S : Nat → Prop} {w : World} {a : Option Addr} {c : Nat} {s : Sg} (h : Sign S w a c s) (h0 : 0 < s.length) :
    ∃ b off, a = some ⟨b, off, none⟩ ∧ S b ∧ w.cell? ⟨b, off, none⟩ = some (.string s[0].1) ∧ w.cell? ⟨b, off + 1, none⟩ = some (.int .i64 s[0].2) := by
  obtain ⟨b, o, ha, hb, h1, h2, _⟩ := h.sym 0 h0
  simp at h1 h2
  exact ⟨b, o, ha, hb, h1, h2⟩
def vsR1 (s : Sg) (w0 : World) (i : Value) (wr : World) : Prop := ∃ k : Nat, i = .int .i64 k ∧ k ≤ s.length ∧ goodTo s k ∧ Drew w0 wr
def vsR2 (s : Sg) (w0 : World) (x : ByteArray) (k : Nat) (i : Value) (wr : World) : Prop := ∃ j : Nat, i = .int .i64 j ∧ j ≤ k ∧ x ∉ nm s j ∧ Drew w0 wr
theorem nm_succ {s : Sg} {j : Nat} {x : ByteArray} (hj : j < s.length) (h : x ∉ nm s j) (hx : s[j].1 ≠ x) : x ∉ nm s (j + 1) := by
  unfold nm at *
  rw [List.take_succ_eq_append_getElem hj, List.map_append, List.mem_append, not_or]
  exact ⟨h, by simpa using fun e => hx e.symm⟩
theorem nm_mem {s : Sg} {j k : Nat} (hj : j < k) (hk : k ≤ s.length) : (s[j]'(by omega)).1 ∈ nm s k := by
  unfold nm
  exact List.mem_map.2 ⟨s[j], List.mem_take_iff_getElem.2 ⟨j, by omega, rfl⟩, rfl⟩

theorem endOf_zero {s : Sg} {t : List Int} (ht : 1 ≤ t.length) : decide (endOf s t 0 = t.length) = decide (skip s 1 t = some []) := by
  rw [Bool.eq_iff_iff, decide_eq_true_eq, decide_eq_true_eq]
  cases h : skip s 1 t with
  | none => have := endOf_none s t 0 (by simpa using h); simp at this; rw [this]; simp <;> omega
  | some r =>
    obtain ⟨h1, h2, h3, h4⟩ := endOf_some s t 0 r (by simpa using h)
    simp at h1
    rw [h1]
    constructor
    · intro e; have : r.length = 0 := by omega
      rw [List.length_eq_zero_iff] at this; rw [this]
    · intro e; cases e; simp
theorem codeOk_within {s : Sg} {n : Int} : (decide (-12 ≤ n) && decide (n ≤ (s.length : Int) - 1)) = codeOk s n := by
  rw [Bool.eq_iff_iff]; simp [codeOk] <;> omega

set_option maxHeartbeats 1000000 in
theorem Valid_any {S1 S2 : Nat → Prop} (a1 a2 : Option Addr) (c1 c2 : Nat) (s : Sg) (t : List Int) (w : World) (h1 : Sign S1 w a1 c1 s) (h2 : Ints S2 w a2 c2 t) :
    Calls Try.prog 16 #[.slice a1 s.length c1, .slice a2 t.length c2] w fun e w' => e = .returned (.bool (okT s t)) ∧ Below w.heap.size w w' := by
  have m2 := h2.le
  obtain ⟨ok, hok⟩ : ∃ ok, okSign s = ok := ⟨_, rfl⟩
  have hv := ValidSign_any a1 c1 s w h1
  rw [hok] at hv
  have hvH := Lib.hid hv
  clear hv
  cases ok with
  | false =>
    have hfin : okT s t = false := by simp [okT, hok]
    have hfinH := Lib.hid hfin
    clear hfin hok
    go_enter Try.func16, Try.ntmps16
    go_wp2_with (go_at_call 22; refine hvH.out.mono ?_; rintro e w1 ⟨rfl, hb1⟩)
    go_ret
    exact ⟨ret_bool hfinH.out.symm, hb1⟩
  | true =>
    by_cases hl : 1 ≤ t.length ∧ t.length ≤ 60
    · have hr : (decide (1 ≤ (t.length : Int)) && decide ((t.length : Int) ≤ 60)) = true := by simp; omega
      have hfin : okT s t = decide (endOf s t 0 = t.length) := by rw [endOf_zero hl.1]; simp [okT, hok, hl]
      have hfinH := Lib.hid hfin
      have hokH := Lib.hid hok
      clear hfin hok
      go_enter Try.func16, Try.ntmps16
      go_wp2_with (first | (go_at_call 22; refine hvH.out.mono ?_; rintro e w1 ⟨rfl, hb1⟩) | (go_at_call 28; refine (within_any _ _ _ _).mono ?_; rw [hr]; rintro e w' ⟨rfl, rfl⟩) | (go_at_call 29; refine (end_any hokH.out 0 _ (.inr ⟨Int.le_refl _, Int.natCast_nonneg _⟩) (h1.below hb1) (h2.below hb1)).mono ?_; rintro e w2 ⟨d, rfl, hd, hb2⟩))
      go_ret
      refine ⟨ret_bool ?_, hb1.trans (hb2.mono hb1.size)⟩
      rw [hfinH.out, Bool.eq_iff_iff]; simp
    · have hr : (decide (1 ≤ (t.length : Int)) && decide ((t.length : Int) ≤ 60)) = false := by simp; omega
      have hfin : okT s t = false := by simp [okT, hok]; omega
      have hfinH := Lib.hid hfin
      clear hfin hok
      go_enter Try.func16, Try.ntmps16
      go_wp2_with (first | (go_at_call 22; refine hvH.out.mono ?_; rintro e w1 ⟨rfl, hb1⟩) | (go_at_call 28; refine (within_any _ _ _ _).mono ?_; rw [hr]; rintro e w' ⟨rfl, rfl⟩))
      go_ret
      exact ⟨ret_bool hfinH.out.symm, hb1⟩

def rvRel (s : Sg) (t : List Int) (w : World) (need i : Value) (wr : World) : Prop :=
  ∃ k n : Nat, i = .int .i64 k ∧ need = .int .i64 n ∧ k ≤ t.length ∧ n ≤ 1 + 3 * k ∧ (skip s n (t.drop k) = some [] ↔ skip s 1 t = some []) ∧ Drew w wr

end Go.Proofs.Ytljkojpooajlhaa
