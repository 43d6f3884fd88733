/- What a dictionary makes of a term. No program is named. -/
import Derived.Test.YtljkojpooajlhaaMathWays2
namespace Go.Proofs.Ytljkojpooajlhaa

/-- a symbol carried, of the arguments carried -/
def carA (d : Ways) (n : Int) (A : List (List Int)) : List Int := (d.getD n.toNat (0, [])).1 :: ((d.getD n.toNat (0, [])).2.map (fun k => A.getD k.toNat [])).flatten
def carF (a : Sg) (d : Ways) : Nat → List Int → List Int
  | 0, _ => []
  | _ + 1, [] => []
  | f + 1, n :: r => if n < 0 then [n] else carA d n ((splitK a (ar a n) r).map (carF a d f))
theorem carF_fuel {a : Sg} {d : Ways} : ∀ (f f' : Nat) (u : List Int), skip a 1 u = some [] → u.length ≤ f → u.length ≤ f' → carF a d f u = carF a d f' u
  | 0, _, u, h, h1, _ => by have := skip_len a 1 u [] h; simp at this; omega
  | _, 0, u, h, _, h2 => by have := skip_len a 1 u [] h; simp at this; omega
  | f + 1, f' + 1, [], h, _, _ => by simp [skip_nil] at h
  | f + 1, f' + 1, n :: r, h, h1, h2 => by
    rw [carF, carF]
    split
    · rfl
    · rw [skip_cons] at h
      split at h
      · rw [Nat.zero_add] at h
        obtain ⟨a1, a2, a3⟩ := splitK_spec a (ar a n) r [] h
        rw [List.append_nil] at a2
        congr 1
        apply List.map_congr_left
        intro u hu
        have hl := len_flatten hu
        rw [a2] at hl
        simp only [List.length_cons] at h1 h2
        exact carF_fuel f f' u (a3 u hu).1 (by omega) (by omega)
      · cases h
/-- a term carried -/
def carT (a : Sg) (d : Ways) (t : List Int) : List Int := carF a d t.length t
theorem carT_neg {a : Sg} {d : Ways} {n : Int} (h : n < 0) : carT a d [n] = [n] := by unfold carT; rw [List.length_singleton, carF, if_pos h]
theorem carT_node {a : Sg} {d : Ways} {t : List Int} (h : okT a t = true) (hn : 0 ≤ t.headD 0) : carT a d t = carA d (t.headD 0) ((argsT a t).map (carT a d)) := by
  obtain ⟨n, r, rfl, hc, hs⟩ := okT_head h
  simp only [List.headD_cons] at hn ⊢
  unfold carT
  rw [List.length_cons, carF, if_neg (by omega)]
  congr 1
  obtain ⟨a1, a2, a3⟩ := splitK_spec a (ar a n) r [] hs
  rw [List.append_nil] at a2
  apply List.map_congr_left
  intro u hu
  have hl := len_flatten hu
  rw [a2] at hl
  exact carF_fuel _ _ u (a3 u hu).1 hl (Nat.le_refl _)
theorem validD_parts {a b : Sg} {d : Ways} (h : validD a b d = true) : okSign a = true ∧ okSign b = true ∧ d.length = a.length ∧ wysOk a b d d.length = true ∧ (d.getD 0 (0, [])).1 = 0 ∧ (d.getD 0 (0, [])).2 = [0, 1] := by
  unfold validD at h
  simp only [Bool.and_eq_true, decide_eq_true_eq] at h
  obtain ⟨h1, h2, h3, h4, h5, h6⟩ := h
  have := first_way h1 h3 h4
  rw [h6] at this
  exact ⟨h1, h2, h3, h4, h5, by simpa using this⟩
/-- the way of a symbol -/
theorem validD_way {a b : Sg} {d : Ways} (h : validD a b d = true) {n : Int} (h0 : 0 ≤ n) (h1 : n < a.length) :
    0 ≤ (d.getD n.toNat (0, [])).1 ∧ (d.getD n.toNat (0, [])).1 < b.length ∧ arAt b (d.getD n.toNat (0, [])).1 = arAt a n ∧ ((d.getD n.toNat (0, [])).2.length : Int) = arAt a n ∧ (d.getD n.toNat (0, [])).2.Perm (ascL (d.getD n.toNat (0, [])).2.length) := by
  obtain ⟨-, -, hl, hw, -, -⟩ := validD_parts h
  have := wysOk_at hw n.toNat (by omega)
  unfold wayOk at this
  simp only [Bool.and_eq_true, decide_eq_true_eq] at this
  obtain ⟨⟨g1, g2⟩, g3, g4, g5⟩ := this
  rw [Int.toNat_of_nonneg h0] at g3 g4
  exact ⟨g1, by omega, g3, g4, ordB_perm g5⟩
theorem ascL_map (A : List (List Int)) : (ascL A.length).map (fun k => A.getD k.toNat []) = A := by
  apply List.ext_getElem
  · rw [List.length_map, ascL_len]
  · intro i h1 h2
    rw [List.getElem_map, ascL_get, Int.toNat_natCast, List.getD_eq_getElem?_getD, List.getElem?_eq_getElem h2]; rfl
theorem ar_at {s : Sg} (h : okSign s = true) {n : Int} (h0 : 0 ≤ n) (h1 : n < s.length) : (ar s n : Int) = arAt s n ∧ codeOk s n = true := by
  have hc : codeOk s n = true := by unfold codeOk; rw [Bool.or_eq_true, decide_eq_true_eq, decide_eq_true_eq]; exact .inr ⟨h0, h1⟩
  refine ⟨?_, hc⟩
  rw [← (arC_ok h hc).1]
  unfold arC arAt
  rw [if_neg (by omega), if_pos ⟨h0, h1⟩]
theorem perm_flat_len {A B : List (List Int)} (h : A.Perm B) : A.flatten.length = B.flatten.length := by
  induction h with
  | nil => rfl
  | cons x _ ih => rw [List.flatten_cons, List.flatten_cons, List.length_append, List.length_append, ih]
  | swap x y l => simp only [List.flatten_cons, List.length_append]; omega
  | trans _ _ i1 i2 => rw [i1, i2]
theorem carT_ok {a b : Sg} {d : Ways} (hd : validD a b d = true) : ∀ (f : Nat) {t : List Int}, okT a t = true → t.length ≤ f → okT b (carT a d t) = true ∧ (carT a d t).length = t.length
  | 0, t, h, hf => by have := (okT_parts h).2.1; omega
  | f + 1, t, h, hf => by
    obtain ⟨n, x, ht, hc, hs⟩ := okT_head h
    obtain ⟨g1, g2, g3⟩ := argsT_spec h
    obtain ⟨hA, hB, -⟩ := validD_parts hd
    have h60 := (okT_parts h).2.2.1
    by_cases hn : n < 0
    · have har : ar a n = 0 := ar_neg hn
      rw [har, skip_zero] at hs
      simp only [Option.some.injEq] at hs
      subst hs
      subst ht
      rw [carT_neg hn]
      refine ⟨okT_of_skip hB ?_ (by simp), rfl⟩
      have hcb : codeOk b n = true := by
        unfold codeOk at hc ⊢
        simp only [Bool.or_eq_true, decide_eq_true_eq] at hc ⊢
        omega
      rw [skip_cons, if_pos hcb, ar_neg hn, skip_zero]
    · have hh : t.headD 0 = n := by rw [ht]; rfl
      have hnl : n < a.length := by simp [codeOk] at hc; omega
      obtain ⟨w1, w2, w3, w4, w5⟩ := validD_way hd (n := n) (by omega) hnl
      rw [carT_node h (by rw [hh]; omega), hh]
      have hfl : (argsT a t).flatten.length + 1 = t.length := by
        have := congrArg List.length g2
        rw [List.length_cons] at this; omega
      have hargs : ∀ u ∈ argsT a t, okT b (carT a d u) = true ∧ (carT a d u).length = u.length := fun u hu => by
        have := len_flatten hu
        exact carT_ok hd f (g3 u hu) (by omega)
      rw [hh] at g1
      have hlenA : (argsT a t).length = (d.getD n.toNat (0, [])).2.length := by
        have := (ar_at hA (n := n) (by omega) hnl).1
        omega
      obtain ⟨A, hAe⟩ : ∃ A, argsT a t = A := ⟨_, rfl⟩
      rw [hAe] at hargs hfl hlenA g1 ⊢
      unfold carA
      obtain ⟨w, hw⟩ : ∃ w, d.getD n.toNat (0, []) = w := ⟨_, rfl⟩
      rw [hw] at w1 w2 w3 w4 w5 hlenA ⊢
      have hperm : (w.2.map (fun k => (A.map (carT a d)).getD k.toNat [])).Perm (A.map (carT a d)) := by
        have := w5.map (fun k => (A.map (carT a d)).getD k.toNat [])
        rw [← hlenA, ← List.length_map (f := carT a d) (as := A), ascL_map] at this
        exact this
      have hl : (w.2.map (fun k => (A.map (carT a d)).getD k.toNat [])).flatten.length + 1 = t.length := by
        rw [perm_flat_len hperm, ← hfl]
        congr 1
        rw [List.length_flatten, List.length_flatten, List.map_map]
        congr 1
        apply List.map_congr_left
        intro u hu
        exact (hargs u hu).2
      refine ⟨okT_of_skip hB ?_ (by rw [List.length_cons]; omega), by rw [List.length_cons]; omega⟩
      obtain ⟨r1, r2⟩ := ar_at hB w1 w2
      rw [skip_cons, if_pos r2, Nat.zero_add]
      have hlen : (w.2.map (fun k => (A.map (carT a d)).getD k.toNat [])).length = ar b w.1 := by rw [List.length_map]; omega
      rw [← hlen]
      refine skip_flatten _ (fun u hu => ?_)
      have hu2 := hperm.mem_iff.1 hu
      obtain ⟨y, hy, rfl⟩ := List.mem_map.1 hu2
      exact (okT_parts (hargs y hy).1).2.2.2
end Go.Proofs.Ytljkojpooajlhaa
