/- Dictionaries composed. No program is named. -/
import Derived.Test.YtljkojpooajlhaaMathCarry
namespace Go.Proofs.Ytljkojpooajlhaa

theorem compA_get {x l : List Int} : ∀ {k : Nat}, compA x l k = (List.range k).map (fun i => x.getD (l.getD i 0).toNat 0)
  | 0 => rfl
  | k + 1 => by rw [compA, compA_get, List.range_succ, List.map_append]; rfl
theorem compA_all (x l : List Int) : compA x l l.length = l.map (fun j => x.getD j.toNat 0) := by
  rw [compA_get]
  apply List.ext_getElem
  · simp
  · intro i h1 h2
    have hi : i < l.length := by simpa using h2
    have e : l.getD i 0 = l[i] := by rw [List.getD_eq_getElem?_getD, List.getElem?_eq_getElem hi]; rfl
    rw [List.getElem_map, List.getElem_map, List.getElem_range, e]
/-- one way of what is composed -/
def compW (d e : Ways) (i : Nat) : Int × List Int := ((e.getD (d.getD i (0, [])).1.toNat (0, [])).1, (e.getD (d.getD i (0, [])).1.toNat (0, [])).2.map (fun j => (d.getD i (0, [])).2.getD j.toNat 0))
theorem compD_map (d e : Ways) : ∀ (k : Nat), compD d e k = (List.range k).map (compW d e)
  | 0 => rfl
  | k + 1 => by rw [compD, compD_map d e k, List.range_succ, List.map_append, compA_all]; rfl
theorem compD_len (d e : Ways) (k : Nat) : (compD d e k).length = k := by rw [compD_map]; simp
theorem compD_get {d e : Ways} {k i : Nat} (h : i < k) : (compD d e k).getD i (0, []) = compW d e i := by
  rw [compD_map, List.getD_eq_getElem?_getD, List.getElem?_eq_getElem (by simpa using h), Option.getD_some, List.getElem_map, List.getElem_range]
theorem ordB_of_perm {l : List Int} (h : l.Perm (ascL l.length)) : ordB l = true := by
  rw [ordB_iff]
  intro i hi
  exact h.mem_iff.2 (mem_ascL.2 (by omega))
theorem ascL_mapI (x : List Int) : (ascL x.length).map (fun k => x.getD k.toNat 0) = x := by
  apply List.ext_getElem
  · rw [List.length_map, ascL_len]
  · intro i h1 h2
    rw [List.getElem_map, ascL_get, Int.toNat_natCast, List.getD_eq_getElem?_getD, List.getElem?_eq_getElem h2]; rfl
theorem comp_perm {x l : List Int} (hx : x.Perm (ascL x.length)) (hl : l.Perm (ascL l.length)) (he : l.length = x.length) : (l.map (fun j => x.getD j.toNat 0)).Perm (ascL (l.map (fun j => x.getD j.toNat 0)).length) := by
  have h1 := hl.map (fun j => x.getD j.toNat 0)
  rw [he, ascL_mapI] at h1
  rw [List.length_map, he]
  exact h1.trans hx
theorem validD_of {a b : Sg} {d : Ways} (ha : okSign a = true) (hb : okSign b = true) (hl : d.length = a.length) (h0 : (d.getD 0 (0, [])).1 = 0) (h1 : (d.getD 0 (0, [])).2 = [0, 1]) (hw : ∀ i, i < d.length → wayOk a b i (d.getD i (0, [])) = true) : validD a b d = true := by
  have hk : ∀ k, k ≤ d.length → wysOk a b d k = true := by
    intro k
    induction k with
    | zero => intro _; rfl
    | succ k ih => intro hk; rw [wysOk, ih (by omega), hw k (by omega)]; rfl
  unfold validD
  rw [ha, hb, hk _ (Nat.le_refl _), h0, h1]
  simp [hl]
theorem validD_at {a b : Sg} {d : Ways} (h : validD a b d = true) {i : Nat} (hi : i < a.length) :
    0 ≤ (d.getD i (0, [])).1 ∧ (d.getD i (0, [])).1 < b.length ∧ arAt b (d.getD i (0, [])).1 = arAt a i ∧ ((d.getD i (0, [])).2.length : Int) = arAt a i ∧ (d.getD i (0, [])).2.Perm (ascL (d.getD i (0, [])).2.length) := by
  have := validD_way h (n := (i : Int)) (by omega) (by omega)
  simpa using this
theorem comp_valid {a b c : Sg} {d e : Ways} (hd : validD a b d = true) (he : validD b c e = true) : validD a c (compD d e d.length) = true := by
  obtain ⟨a1, a2, a3, -, a5, a6⟩ := validD_parts hd
  obtain ⟨b1, b2, b3, -, b5, b6⟩ := validD_parts he
  have hl := okSign_len a1
  have hz := compD_get (d := d) (e := e) (k := d.length) (i := 0) (by omega)
  refine validD_of a1 b2 (by rw [compD_len, a3]) ?_ ?_ (fun i hi => ?_)
  · rw [hz, compW, a5]; exact b5
  · rw [hz, compW, a5, a6]
    rw [show (e.getD (0 : Int).toNat (0, [])).2 = [0, 1] from b6]; rfl
  · rw [compD_len] at hi
    rw [compD_get hi]
    obtain ⟨g1, g2, g3, g4, g5⟩ := validD_at hd (i := i) (by omega)
    obtain ⟨f1, f2, f3, f4, f5⟩ := validD_way he g1 g2
    unfold wayOk compW
    rw [Bool.and_eq_true, Bool.and_eq_true, Bool.and_eq_true, Bool.and_eq_true, decide_eq_true_eq, decide_eq_true_eq, decide_eq_true_eq, decide_eq_true_eq]
    refine ⟨⟨f1, ?_⟩, by rw [f3, g3], by rw [List.length_map, f4, g3], ?_⟩
    · show (e.getD (d.getD i (0, [])).1.toNat (0, [])).1 ≤ (c.length : Int) - 1
      omega
    · exact ordB_of_perm (comp_perm g5 f5 (by omega))
theorem argsT_build {s : Sg} (hs : okSign s = true) {n : Int} (h0 : 0 ≤ n) (h1 : n < s.length) {A : List (List Int)} (hA : ∀ u ∈ A, skip s 1 u = some []) (hl : (A.length : Int) = arAt s n) : argsT s (n :: A.flatten) = A := by
  have := (ar_at hs h0 h1).1
  unfold argsT
  simp only
  rw [show ar s n = A.length by omega]
  have h := splitK_flatten A [] hA
  rwa [List.append_nil] at h
/-- what is composed carries by both -/
theorem comp_carry {a b c : Sg} {d e : Ways} (hd : validD a b d = true) (he : validD b c e = true) : ∀ (f : Nat) {t : List Int}, okT a t = true → t.length ≤ f → carT b e (carT a d t) = carT a (compD d e d.length) t
  | 0, t, h, hf => by have := (okT_parts h).2.1; omega
  | f + 1, t, h, hf => by
    obtain ⟨n, x, ht, hc, hs⟩ := okT_head h
    obtain ⟨g1, g2, g3⟩ := argsT_spec h
    obtain ⟨hA, hB, hdl, -⟩ := validD_parts hd
    by_cases hn : n < 0
    · have har : ar a n = 0 := ar_neg hn
      rw [har, skip_zero] at hs
      simp only [Option.some.injEq] at hs
      subst hs
      subst ht
      rw [carT_neg hn, carT_neg hn, carT_neg hn]
    · have hh : t.headD 0 = n := by rw [ht]; rfl
      have hnl : n < a.length := by simp [codeOk] at hc; omega
      obtain ⟨w1, w2, w3, w4, w5⟩ := validD_way hd (n := n) (by omega) hnl
      obtain ⟨v1, v2, v3, v4, v5⟩ := validD_way he w1 w2
      have hok := (carT_ok hd t.length h (Nat.le_refl _)).1
      rw [carT_node h (by rw [hh]; omega), hh] at hok ⊢
      rw [carT_node (d := compD d e d.length) h (by rw [hh]; omega), hh]
      have hfl : (argsT a t).flatten.length + 1 = t.length := by
        have := congrArg List.length g2
        rw [List.length_cons] at this; omega
      have hargs : ∀ u ∈ argsT a t, okT b (carT a d u) = true ∧ carT b e (carT a d u) = carT a (compD d e d.length) u := fun u hu => by
        have := len_flatten hu
        exact ⟨(carT_ok hd u.length (g3 u hu) (Nat.le_refl _)).1, comp_carry hd he f (g3 u hu) (by omega)⟩
      rw [hh] at g1
      have hlenA : (argsT a t).length = (d.getD n.toNat (0, [])).2.length := by
        have := (ar_at hA (n := n) (by omega) hnl).1
        omega
      obtain ⟨A, hAe⟩ : ∃ A, argsT a t = A := ⟨_, rfl⟩
      rw [hAe] at hargs hlenA hok ⊢
      have hcw := compD_get (d := d) (e := e) (k := d.length) (i := n.toNat) (by omega)
      unfold carA at hok ⊢
      rw [hcw]
      unfold compW
      obtain ⟨w, hw⟩ : ∃ w, d.getD n.toNat (0, []) = w := ⟨_, rfl⟩
      rw [hw] at w1 w2 w3 w4 w5 v1 v2 v3 v4 v5 hlenA hok ⊢
      have hin : ∀ k ∈ w.2, 0 ≤ k ∧ k < A.length := fun k hk => by
        have := mem_ascL.1 (w5.mem_iff.1 hk)
        omega
      have hAA : ∀ u ∈ w.2.map (fun k => (A.map (carT a d)).getD k.toNat []), skip b 1 u = some [] := fun u hu => by
        obtain ⟨k, hk, rfl⟩ := List.mem_map.1 hu
        obtain ⟨h0, h1⟩ := hin k hk
        have hlt : k.toNat < A.length := by omega
        rw [List.getD_eq_getElem?_getD, List.getElem?_eq_getElem (by rw [List.length_map]; exact hlt), Option.getD_some, List.getElem_map]
        exact (okT_parts (hargs _ (List.getElem_mem hlt)).1).2.2.2
      rw [carT_node hok (by exact w1)]
      rw [List.headD_cons, argsT_build hB w1 w2 hAA (by rw [List.length_map]; omega)]
      unfold carA
      congr 1
      congr 1
      simp only [List.map_map]
      apply List.map_congr_left
      intro j hj
      have hjr := mem_ascL.1 (v5.mem_iff.1 hj)
      have hjl : j.toNat < w.2.length := by omega
      have hm := hin _ (List.getElem_mem hjl)
      have hml : (w.2[j.toNat]).toNat < A.length := by omega
      rw [List.getD_eq_getElem?_getD, List.getElem?_eq_getElem (by simpa using hjl), Option.getD_some, List.getElem_map]
      have ew : w.2.getD j.toNat 0 = w.2[j.toNat] := by rw [List.getD_eq_getElem?_getD, List.getElem?_eq_getElem hjl]; rfl
      have eg : ∀ F : List Int → List Int, (A.map F).getD (w.2[j.toNat]).toNat [] = F A[(w.2[j.toNat]).toNat] := fun F => by
        rw [List.getD_eq_getElem?_getD, List.getElem?_eq_getElem (by simpa using hml), Option.getD_some, List.getElem_map]
      simp only [Function.comp]
      rw [ew, eg, eg]
      exact (hargs _ (List.getElem_mem hml)).2
/-- composing is associative -/
theorem comp_assoc {a b c s : Sg} {d e g : Ways} (hd : validD a b d = true) (he : validD b c e = true) (hg : validD c s g = true) : compD (compD d e d.length) g (compD d e d.length).length = compD d (compD e g e.length) d.length := by
  obtain ⟨-, -, a3, -⟩ := validD_parts hd
  obtain ⟨-, -, b3, -⟩ := validD_parts he
  rw [compD_len, compD_map, compD_map d (compD e g e.length)]
  apply List.map_congr_left
  intro i hi
  have hi' := List.mem_range.1 hi
  obtain ⟨g1, g2, g3, g4, g5⟩ := validD_at hd (i := i) (by omega)
  obtain ⟨f1, f2, f3, f4, f5⟩ := validD_way he g1 g2
  obtain ⟨k1, k2, k3, k4, k5⟩ := validD_way hg f1 f2
  have e1 := compD_get (d := d) (e := e) hi'
  have e2 := compD_get (d := e) (e := g) (k := e.length) (i := (d.getD i (0, [])).1.toNat) (by omega)
  unfold compW at e1 e2 ⊢
  rw [e1, e2]
  simp only
  congr 1
  rw [List.map_map]
  apply List.map_congr_left
  intro j hj
  have hjr := mem_ascL.1 (k5.mem_iff.1 hj)
  simp only [Function.comp]
  have hjl : j.toNat < (e.getD (d.getD i (0, [])).1.toNat (0, [])).2.length := by omega
  rw [List.getD_eq_getElem?_getD, List.getElem?_eq_getElem (by simpa using hjl), Option.getD_some, List.getElem_map]
  rw [List.getD_eq_getElem?_getD (l := (e.getD (d.getD i (0, [])).1.toNat (0, [])).2), List.getElem?_eq_getElem hjl, Option.getD_some]
end Go.Proofs.Ytljkojpooajlhaa
