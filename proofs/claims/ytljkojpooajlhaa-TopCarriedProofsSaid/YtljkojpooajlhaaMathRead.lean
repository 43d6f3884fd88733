/- The heads of a text alone tell the term. No program is named. -/
import Derived.Test.YtljkojpooajlhaaMathText
namespace Go.Proofs.Ytljkojpooajlhaa

/-- a letter or a digit -/
def isW (c : UInt8) : Bool := isLet c || (decide (48 ≤ c.toNat) && decide (c.toNat ≤ 57))
def headW (s : Sg) (w : List UInt8) : Option Int :=
  match (List.range s.length).find? (fun i : Nat => decide (nmL s (i : Int) = w)) with
  | some i => some (i : Int)
  | none => ((List.range 12).find? (fun v => decide (w = 120 :: Lib.decDigits v))).map (fun v => -(v : Int) - 1)
/-- a word comes to its end -/
def flushW (s : Sg) (w : List UInt8) (o : List Int) : Option (List Int) := if w = [] then some o else (headW s w).map (fun n => o ++ [n])
def hgo (s : Sg) (k : Nat) : List UInt8 → List UInt8 → List Int → Option (List Int)
  | [], w, o => match flushW s w o with
    | none => none
    | some o => if 60 < o.length then none else some o
  | c :: r, w, o =>
    if isW c = true then (if 8 < w.length + 1 then none else hgo s k r (w ++ [c]) o)
    else match flushW s w o with
      | none => none
      | some o2 =>
        if 60 < (if k = 2 ∧ c = 40 ∧ w = [] then o2 ++ [0] else o2).length then none else hgo s k r [] (if k = 2 ∧ c = 40 ∧ w = [] then o2 ++ [0] else o2)
theorem hgo_word {s : Sg} {k : Nat} : ∀ (x w : List UInt8) (o : List Int) (r : List UInt8), x.all isW = true → w.length + x.length ≤ 8 → hgo s k (x ++ r) w o = hgo s k r (w ++ x) o
  | [], w, o, r, _, _ => by rw [List.append_nil]; rfl
  | c :: x, w, o, r, h, hl => by
    rw [List.all_cons, Bool.and_eq_true] at h
    rw [List.length_cons] at hl
    rw [List.cons_append, hgo, if_pos h.1, if_neg (by omega), hgo_word x (w ++ [c]) o r h.2 (by rw [List.length_append, List.length_singleton]; omega), List.append_assoc]
    rfl
/-- a sign that is no letter ends a word -/
theorem hgo_sep {s : Sg} {k : Nat} {c : UInt8} {r w : List UInt8} {o o2 : List Int} (hc : isW c = false) (hf : flushW s w o = some o2) (hl : o2.length ≤ 60) (h40 : k = 2 ∧ c = 40 → w ≠ []) : hgo s k (c :: r) w o = hgo s k r [] o2 := by
  have hn : ¬ (k = 2 ∧ c = 40 ∧ w = []) := fun h => h40 ⟨h.1, h.2.1⟩ h.2.2
  rw [hgo, if_neg (by rw [hc]; decide), hf]
  simp only [if_neg hn]
  rw [if_neg (by omega)]
theorem hgo_open {s : Sg} {r : List UInt8} {o : List Int} (hl : o.length + 1 ≤ 60) : hgo s 2 (40 :: r) [] o = hgo s 2 r [] (o ++ [0]) := by
  have hf : flushW s [] o = some o := by unfold flushW; rw [if_pos rfl]
  rw [hgo, if_neg (by decide), hf]
  simp only [true_and, if_true]
  rw [if_neg (by rw [List.length_append, List.length_singleton]; omega)]
theorem flush_nil (s : Sg) (o : List Int) : flushW s [] o = some o := by unfold flushW; rw [if_pos rfl]
theorem nm_all {s : Sg} (h : okSign s = true) {n : Int} (h0 : 0 ≤ n) (h1 : n < s.length) : (nmL s n).all isLet = true ∧ 1 ≤ (nmL s n).length ∧ (nmL s n).length ≤ 8 := by
  unfold nmL
  have hl : n.toNat < s.length := by omega
  rw [List.getD_eq_getElem?_getD, List.getElem?_eq_getElem hl, Option.getD_some]
  unfold okSign at h
  simp only [Bool.and_eq_true, List.all_eq_true] at h
  have he := h.1.1.2 s[n.toNat] (List.getElem_mem hl)
  unfold entOk nameOk at he
  simp only [Bool.and_eq_true, decide_eq_true_eq] at he
  exact ⟨he.1.2, he.1.1.1, he.1.1.2⟩
theorem nm_inj {s : Sg} (h : okSign s = true) {i j : Nat} (hi : i < s.length) (hj : j < s.length) (he : nmL s (i : Int) = nmL s (j : Int)) : i = j := by
  unfold nmL at he
  rw [Int.toNat_natCast, Int.toNat_natCast, List.getD_eq_getElem?_getD, List.getElem?_eq_getElem hi, List.getD_eq_getElem?_getD, List.getElem?_eq_getElem hj, Option.getD_some, Option.getD_some] at he
  have h2 : s[i].1 = s[j].1 := by
    apply ByteArray.ext
    apply Array.ext'
    exact he
  unfold okSign at h
  simp only [Bool.and_eq_true, decide_eq_true_eq] at h
  have hn := h.1.2
  have hp := List.pairwise_iff_getElem.1 hn
  rcases Nat.lt_trichotomy i j with hij | hij | hij
  · exact (hp i j (by simpa using hi) (by simpa using hj) hij (by simp [h2])).elim
  · exact hij
  · exact (hp j i (by simpa using hj) (by simpa using hi) hij (by simp [h2])).elim
theorem isLet_isW {x : List UInt8} (h : x.all isLet = true) : x.all isW = true := by
  rw [List.all_eq_true] at *
  intro c hc
  unfold isW
  rw [h c hc, Bool.true_or]
theorem headW_name {s : Sg} (h : okSign s = true) {n : Int} (h0 : 0 ≤ n) (h1 : n < s.length) : headW s (nmL s n) = some n := by
  have hf : (List.range s.length).find? (fun i : Nat => decide (nmL s (i : Int) = nmL s n)) = some n.toNat := by
    rw [List.find?_range_eq_some]
    refine ⟨by simp; congr 1; omega, by simp; omega, fun j hj => ?_⟩
    simp only [Bool.not_eq_true', decide_eq_false_iff_not]
    intro he
    have := nm_inj h (i := j) (j := n.toNat) (by omega) (by omega) (by rw [he]; congr 1; omega)
    omega
  unfold headW
  rw [hf]
  simp; omega
def dgv (v : Nat) : List UInt8 := if v < 10 then [UInt8.ofNat (48 + v)] else [49, UInt8.ofNat (38 + v)]
theorem dec_dgv {v : Nat} (h : v < 12) : Lib.decDigits v = dgv v := by
  unfold dgv
  by_cases h1 : v < 10
  · rw [if_pos h1, Lib.decDigits_one h1]
  · rw [if_neg h1, Lib.decDigits_two h1 (by omega)]
    have : v = 10 ∨ v = 11 := by omega
    rcases this with rfl | rfl <;> rfl
theorem dgv_inj : ∀ v, v < 12 → ∀ j, j < v → dgv j ≠ dgv v := by decide
theorem dgv_last : ∀ v, v < 12 → (120 :: dgv v).all isLet = false := by decide
theorem dgv_word : ∀ v, v < 12 → (120 :: dgv v).all isW = true := by decide
theorem headW_var {s : Sg} (h : okSign s = true) {v : Nat} (hv : v < 12) : headW s (120 :: Lib.decDigits v) = some (-(v : Int) - 1) := by
  have hn : (List.range s.length).find? (fun i : Nat => decide (nmL s (i : Int) = 120 :: Lib.decDigits v)) = none := by
    rw [List.find?_eq_none]
    intro i hi he
    rw [decide_eq_true_eq] at he
    have h1 := (nm_all h (n := (i : Int)) (by omega) (by have := List.mem_range.1 hi; omega)).1
    rw [he, dec_dgv hv, dgv_last v hv] at h1
    cases h1
  have hf : (List.range 12).find? (fun u => decide (120 :: Lib.decDigits v = 120 :: Lib.decDigits u)) = some v := by
    rw [List.find?_range_eq_some]
    refine ⟨by simp, by simp; omega, fun j hj => ?_⟩
    simp only [Bool.not_eq_true', decide_eq_false_iff_not, List.cons.injEq, true_and]
    rw [dec_dgv hv, dec_dgv (by omega)]
    exact fun e => dgv_inj v hv j hj e.symm
  unfold headW
  rw [hn, hf]
  rfl
theorem hgo_seps {s : Sg} {k : Nat} : ∀ (sep : List UInt8) (w : List UInt8) (o O : List Int) (r : List UInt8), sep ≠ [] → (∀ c ∈ sep, isW c = false ∧ c ≠ 40) → flushW s w o = some O → O.length ≤ 60 → hgo s k (sep ++ r) w o = hgo s k r [] O
  | [], _, _, _, _, h, _, _, _ => (h rfl).elim
  | [c], w, o, O, r, _, h, hf, hl => by
    have hc := h c (by simp)
    exact hgo_sep hc.1 hf hl (fun e => absurd e.2 hc.2)
  | c :: d :: sep, w, o, O, r, _, h, hf, hl => by
    have hc := h c (by simp)
    rw [List.cons_append, hgo_sep hc.1 hf hl (fun e => absurd e.2 hc.2)]
    exact hgo_seps (d :: sep) [] O O r (by simp) (fun x hx => h x (List.mem_cons_of_mem _ hx)) (flush_nil s O) hl
theorem ar0_two {s : Sg} (h : okSign s = true) : ar s 0 = 2 := by
  have hl := okSign_len h
  unfold okSign at h
  simp only [Bool.and_eq_true, decide_eq_true_eq] at h
  unfold ar arC
  rw [if_neg (by omega), if_pos ⟨by omega, by omega⟩]
  have := h.2
  rw [Int.toNat_zero]
  rw [this]; rfl
def HgoAt (s : Sg) (k : Nat) (t : List Int) : Prop := ∀ (o : List Int) (r : List UInt8), o.length + t.length ≤ 60 → ∃ w o', hgo s k (txt k s t ++ r) [] o = hgo s k r w o' ∧ flushW s w o' = some (o ++ t)
theorem hgo_tail {s : Sg} {k : Nat} {sep : List UInt8} (hs : sep ≠ []) (hc : ∀ c ∈ sep, isW c = false ∧ c ≠ 40) : ∀ (A : List (List Int)), (∀ a ∈ A, HgoAt s k a) → ∀ (w : List UInt8) (o O : List Int) (r : List UInt8), flushW s w o = some O → O.length + A.flatten.length ≤ 60 →
    ∃ w' o', hgo s k (Lib.joinTail sep (A.map (txt k s)) ++ r) w o = hgo s k r w' o' ∧ flushW s w' o' = some (O ++ A.flatten)
  | [], _, w, o, O, r, hf, _ => ⟨w, o, rfl, by simpa using hf⟩
  | a :: A, hA, w, o, O, r, hf, hl => by
    rw [List.flatten_cons, List.length_append] at hl
    obtain ⟨w1, o1, e1, f1⟩ := hA a (by simp) O (Lib.joinTail sep (A.map (txt k s)) ++ r) (by omega)
    obtain ⟨w2, o2, e2, f2⟩ := hgo_tail hs hc A (fun x hx => hA x (by simp [hx])) w1 o1 (O ++ a) r f1 (by rw [List.length_append]; omega)
    refine ⟨w2, o2, ?_, by rw [f2, List.flatten_cons, List.append_assoc]⟩
    have : Lib.joinTail sep ((a :: A).map (txt k s)) ++ r = sep ++ (txt k s a ++ (Lib.joinTail sep (A.map (txt k s)) ++ r)) := by
      simp [Lib.joinTail, List.append_assoc]
    rw [this, hgo_seps sep w o O _ hs hc hf (by omega), e1, e2]
theorem hgo_join {s : Sg} {k : Nat} {sep : List UInt8} (hs : sep ≠ []) (hc : ∀ c ∈ sep, isW c = false ∧ c ≠ 40) {A : List (List Int)} (hne : A ≠ []) (hA : ∀ a ∈ A, HgoAt s k a) (O : List Int) (r : List UInt8) (hl : O.length + A.flatten.length ≤ 60) :
    ∃ w' o', hgo s k (Lib.join (A.map (txt k s)) sep ++ r) [] O = hgo s k r w' o' ∧ flushW s w' o' = some (O ++ A.flatten) := by
  cases A with
  | nil => exact (hne rfl).elim
  | cons a A =>
    rw [List.flatten_cons, List.length_append] at hl
    obtain ⟨w1, o1, e1, f1⟩ := hA a (by simp) O (Lib.joinTail sep (A.map (txt k s)) ++ r) (by omega)
    obtain ⟨w2, o2, e2, f2⟩ := hgo_tail hs hc A (fun x hx => hA x (by simp [hx])) w1 o1 (O ++ a) r f1 (by rw [List.length_append]; omega)
    refine ⟨w2, o2, ?_, by rw [f2, List.flatten_cons, List.append_assoc]⟩
    rw [List.map_cons, Lib.join_cons, List.append_assoc, e1, e2]
theorem hgo_txt {s : Sg} {k : Nat} : ∀ (f : Nat) {t : List Int}, okT s t = true → t.length ≤ f → HgoAt s k t
  | 0, t, h, hf => by have := (okT_parts h).2.1; omega
  | f + 1, t, h, hf => by
    intro o r hl
    obtain ⟨n, x, ht, hc, hs⟩ := okT_head h
    obtain ⟨g1, g2, g3⟩ := argsT_spec h
    have hok := (okT_parts h).1
    by_cases hn : n < 0
    · have har : ar s n = 0 := ar_neg hn
      rw [har, skip_zero] at hs
      simp only [Option.some.injEq] at hs
      subst hs
      subst ht
      rw [txt_neg hn]
      have hv : (-n - 1).toNat < 12 := by simp [codeOk] at hc; omega
      refine ⟨120 :: Lib.decDigits (-n - 1).toNat, o, ?_, ?_⟩
      · rw [hgo_word _ [] o r (by rw [dec_dgv hv]; exact dgv_word _ hv) (by have := dec_len (v := (-n - 1).toNat) (by omega); rw [List.length_nil, List.length_cons]; omega), List.nil_append]
      · unfold flushW
        rw [if_neg (by simp), headW_var hok hv, Option.map_some]
        congr 2
        simp; omega
    · have hh : t.headD 0 = n := by rw [ht]; rfl
      have hnl : n < s.length := by simp [codeOk] at hc; omega
      have hA : ∀ a ∈ argsT s t, HgoAt s k a := fun a ha => by
        have hl2 := len_flatten ha
        have : 1 + (argsT s t).flatten.length = t.length := by
          have := congrArg List.length g2
          rw [List.length_cons] at this; omega
        exact hgo_txt f (g3 _ ha) (by omega)
      rw [txt_node h (by rw [hh]; omega), hh]
      obtain ⟨n1, n2, n3⟩ := nm_all hok (n := n) (by omega) hnl
      have hfl : (argsT s t).flatten.length + 1 = t.length := by
        have := congrArg List.length g2
        rw [List.length_cons] at this; omega
      have htn : t = n :: (argsT s t).flatten := by rw [← hh]; exact g2
      obtain ⟨A, hAe⟩ : ∃ A, argsT s t = A := ⟨_, rfl⟩
      rw [hAe] at hA hfl htn g1 ⊢
      have hgo1 : ∀ r, hgo s k (nmL s n ++ r) [] o = hgo s k r (nmL s n) o := fun r => by rw [hgo_word _ [] o r (isLet_isW n1) (by rw [List.length_nil]; omega), List.nil_append]
      have hf1 : flushW s (nmL s n) o = some (o ++ [n]) := by
        unfold flushW
        rw [if_neg (fun e => by rw [e] at n2; simp at n2), headW_name hok (by omega) hnl, Option.map_some]
      have hend : o ++ [n] ++ A.flatten = o ++ t := by rw [htn, List.append_assoc]; rfl
      have hsp : ∀ c ∈ [(32 : UInt8)], isW c = false ∧ c ≠ 40 := by decide
      have har : ∀ c ∈ [(32 : UInt8), 45, 62, 32], isW c = false ∧ c ≠ 40 := by decide
      have hcm : ∀ c ∈ [(44 : UInt8), 32], isW c = false ∧ c ≠ 40 := by decide
      unfold comb
      by_cases hk1 : k = 1
      · rw [if_pos hk1, List.append_assoc, hgo1]
        obtain ⟨w', o', e, f'⟩ := hgo_tail (by simp) hsp A hA (nmL s n) o _ r hf1 (by rw [List.length_append, List.length_singleton]; omega)
        exact ⟨w', o', e, by rw [f', hend]⟩
      · rw [if_neg hk1]
        by_cases hk2 : k = 2
        · rw [if_pos hk2]
          by_cases hn0 : n = 0
          · rw [if_pos hn0]
            have hne : A ≠ [] := fun e => by
              have : ar s 0 = 0 := by rw [e] at g1; rw [hn0] at hh; rw [hh] at g1; simpa using g1.symm
              rw [ar0_two hok] at this
              cases this
            subst hk2
            obtain ⟨w', o', e, f'⟩ := hgo_join (by simp) har hne hA (o ++ [0]) (41 :: r) (by rw [List.length_append, List.length_singleton]; omega)
            refine ⟨[], o ++ t, ?_, flush_nil _ _⟩
            rw [List.cons_append, hgo_open (by omega), List.append_assoc, List.singleton_append, e]
            refine hgo_sep (by decide) (o2 := o ++ t) ?_ (by rw [List.length_append]; omega) (fun e => by simp at e)
            rw [f', ← hend, hn0]
          · rw [if_neg hn0]
            by_cases hAn : A.map (txt k s) = []
            · rw [if_pos hAn, hgo1]
              have : A = [] := by simpa using hAn
              refine ⟨_, _, rfl, ?_⟩
              rw [hf1, ← hend, this]; simp
            · rw [if_neg hAn]
              have hne : A ≠ [] := fun e => hAn (by rw [e]; rfl)
              obtain ⟨w', o', e, f'⟩ := hgo_join (by simp) hcm hne hA (o ++ [n]) (41 :: r) (by rw [List.length_append, List.length_singleton]; omega)
              refine ⟨[], o ++ t, ?_, flush_nil _ _⟩
              rw [List.append_assoc, hgo1, List.cons_append, hgo_sep (by decide) hf1 (by rw [List.length_append, List.length_singleton]; omega) (fun _ e => by rw [e] at n2; simp at n2), List.append_assoc, List.singleton_append, e]
              refine hgo_sep (by decide) (o2 := o ++ t) ?_ (by rw [List.length_append]; omega) (fun e => by simp at e)
              rw [f', ← hend]
        · rw [if_neg hk2]
          by_cases hAn : A.map (txt k s) = []
          · rw [if_pos hAn, hgo1]
            have : A = [] := by simpa using hAn
            refine ⟨_, _, rfl, ?_⟩
            rw [hf1, ← hend, this]; simp
          · rw [if_neg hAn]
            obtain ⟨w', o', e, f'⟩ := hgo_tail (by simp) hsp A hA (nmL s n) o _ (93 :: r) hf1 (by rw [List.length_append, List.length_singleton]; omega)
            refine ⟨[], o ++ t, ?_, flush_nil _ _⟩
            rw [List.cons_append, hgo_sep (by decide) (flush_nil s o) (by omega) (fun e => absurd e.1 hk2), List.append_assoc, List.append_assoc, hgo1, List.singleton_append, e]
            refine hgo_sep (by decide) (o2 := o ++ t) ?_ (by rw [List.length_append]; omega) (fun e => absurd e.1 hk2)
            rw [f', hend]
/-- what is written is read back by its heads -/
theorem hgo_back {s : Sg} {k : Nat} {t : List Int} (h : okT s t = true) : hgo s k (txt k s t) [] [] = some t := by
  have hl := (okT_parts h).2.2.1
  obtain ⟨w, o, e, f⟩ := hgo_txt (k := k) t.length h (Nat.le_refl _) [] [] (by simpa using hl)
  rw [List.append_nil] at e
  rw [e, hgo, f]
  simp only [List.nil_append]
  rw [if_neg (by omega)]
/-- reading: the text of a valid term gives the term -/
theorem txt_inj {s : Sg} {k : Nat} {t u : List Int} (h : okT s t = true) (h' : okT s u = true) (e : txt k s t = txt k s u) : t = u := by
  have h1 := hgo_back (k := k) h
  rw [e, hgo_back h'] at h1
  exact (Option.some.inj h1).symm
end Go.Proofs.Ytljkojpooajlhaa
