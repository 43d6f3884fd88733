/- How a term is written in the three tongues. No program is named. -/
import Derived.Test.YtljkojpooajlhaaMath9
import Derived.Lib.Join
import Derived.Lib.ItoaNum
namespace Go.Proofs.Ytljkojpooajlhaa

def nmL (s : Sg) (n : Int) : List UInt8 := (s.getD n.toNat default).1.data.toList
/-- a symbol with what its arguments are written as -/
def comb (k : Nat) (s : Sg) (n : Int) (L : List (List UInt8)) : List UInt8 :=
  if k = 1 then nmL s n ++ Lib.joinTail [32] L
  else if k = 2 then
    if n = 0 then 40 :: (Lib.join L [32, 45, 62, 32] ++ [41])
    else if L = [] then nmL s n else nmL s n ++ (40 :: (Lib.join L [44, 32] ++ [41]))
  else if L = [] then nmL s n else 91 :: (nmL s n ++ Lib.joinTail [32] L ++ [93])
def tx (k : Nat) (s : Sg) : Nat → List Int → List UInt8
  | 0, _ => []
  | _ + 1, [] => []
  | f + 1, n :: r => if n < 0 then 120 :: Lib.decDigits (-n - 1).toNat else comb k s n ((splitK s (ar s n) r).map (tx k s f))
theorem tx_fuel {k : Nat} {s : Sg} : ∀ (f f' : Nat) (u : List Int), skip s 1 u = some [] → u.length ≤ f → u.length ≤ f' → tx k s f u = tx k s f' u
  | 0, _, u, h, h1, _ => by have := skip_len s 1 u [] h; simp at this; omega
  | _, 0, u, h, _, h2 => by have := skip_len s 1 u [] h; simp at this; omega
  | f + 1, f' + 1, [], h, _, _ => by simp [skip_nil] at h
  | f + 1, f' + 1, n :: r, h, h1, h2 => by
    rw [tx, tx]
    split
    · rfl
    · rw [skip_cons] at h
      split at h
      · rw [Nat.zero_add] at h
        obtain ⟨a1, a2, a3⟩ := splitK_spec s (ar s n) r [] h
        rw [List.append_nil] at a2
        congr 1
        apply List.map_congr_left
        intro u hu
        have hl := len_flatten hu
        rw [a2] at hl
        simp only [List.length_cons] at h1 h2
        exact tx_fuel f f' u (a3 u hu).1 (by omega) (by omega)
      · cases h
/-- the text of a term -/
def txt (k : Nat) (s : Sg) (t : List Int) : List UInt8 := tx k s t.length t
theorem txt_neg {k : Nat} {s : Sg} {n : Int} (h : n < 0) : txt k s [n] = 120 :: Lib.decDigits (-n - 1).toNat := by unfold txt; rw [List.length_singleton, tx, if_pos h]
theorem txt_node {k : Nat} {s : Sg} {t : List Int} (h : okT s t = true) (hn : 0 ≤ t.headD 0) : txt k s t = comb k s (t.headD 0) ((argsT s t).map (txt k s)) := by
  obtain ⟨n, r, rfl, hc, hs⟩ := okT_head h
  simp only [List.headD_cons] at hn ⊢
  unfold txt
  rw [List.length_cons, tx, if_neg (by omega)]
  congr 1
  obtain ⟨a1, a2, a3⟩ := splitK_spec s (ar s n) r [] hs
  rw [List.append_nil] at a2
  apply List.map_congr_left
  intro u hu
  have hl := len_flatten hu
  rw [a2] at hl
  exact tx_fuel _ _ u (a3 u hu).1 hl (Nat.le_refl _)
theorem joinTail_len (sep : List UInt8) : ∀ L : List (List UInt8), (Lib.joinTail sep L).length = (L.map (fun x => x.length + sep.length)).sum
  | [] => rfl
  | x :: r => by
    have ih := joinTail_len sep r
    unfold Lib.joinTail at *
    rw [List.map_cons, List.flatten_cons, List.length_append, ih, List.map_cons, List.sum_cons, List.length_append]; omega
theorem join_len_le (sep : List UInt8) (L : List (List UInt8)) : (Lib.join L sep).length ≤ (L.map (fun x => x.length + sep.length)).sum := by
  cases L with
  | nil => simp [Lib.join_nil]
  | cons x r =>
    rw [Lib.join_cons, List.length_append, joinTail_len, List.map_cons, List.sum_cons]; omega
theorem sum_le {L : List (List UInt8)} {c : Nat} : ∀ {M : List (List Int)} (_ : L.length = M.length) (_ : ∀ i (h1 : i < L.length) (h2 : i < M.length), L[i].length ≤ 24 * M[i].length), (L.map (fun x => x.length + c)).sum ≤ 24 * M.flatten.length + c * M.length := by
  induction L with
  | nil => intro M h _; simp
  | cons x r ih =>
    intro M h hh
    cases M with
    | nil => simp at h
    | cons y M =>
      have h0 := hh 0 (by simp) (by simp)
      have := ih (M := M) (by simpa using h) (fun i h1 h2 => by have := hh (i + 1) (by simp; omega) (by simp; omega); simpa using this)
      simp only [List.map_cons, List.sum_cons, List.flatten_cons, List.length_append, List.length_cons] at *
      simp at h0
      rw [Nat.mul_succ]; omega
theorem nm_len {s : Sg} (h : okSign s = true) (n : Int) : (nmL s n).length ≤ 8 := by
  unfold nmL
  by_cases hl : n.toNat < s.length
  · rw [List.getD_eq_getElem?_getD, List.getElem?_eq_getElem hl, Option.getD_some]
    unfold okSign at h
    simp only [Bool.and_eq_true, List.all_eq_true] at h
    have he := h.1.1.2 s[n.toNat] (List.getElem_mem hl)
    unfold entOk nameOk at he
    simp at he
    simpa using he.1.1.2
  · rw [List.getD_eq_getElem?_getD, List.getElem?_eq_none (by omega)]; decide
theorem comb_len {k : Nat} {s : Sg} (h : okSign s = true) (n : Int) (L : List (List UInt8)) : (comb k s n L).length ≤ 10 + (L.map (fun x => x.length + 4)).sum := by
  have hn := nm_len h n
  have hle : ∀ c, c ≤ 4 → (L.map (fun x => x.length + c)).sum ≤ (L.map (fun x => x.length + 4)).sum := by
    intro c hc
    induction L with
    | nil => simp
    | cons x r ih => simp only [List.map_cons, List.sum_cons]; omega
  unfold comb
  split
  · rw [List.length_append, joinTail_len]; have := hle 1 (by omega); simp only [List.length_singleton]; omega
  · split
    · split
      · have h1 : (Lib.join L [32, 45, 62, 32]).length ≤ (L.map (fun x => x.length + 4)).sum := join_len_le _ L
        simp only [List.length_cons, List.length_append, List.length_nil]
        omega
      · split
        · omega
        · have h1 : (Lib.join L [44, 32]).length ≤ (L.map (fun x => x.length + 2)).sum := join_len_le _ L
          have := hle 2 (by omega)
          simp only [List.length_cons, List.length_append, List.length_nil]
          omega
    · split
      · omega
      · have h1 : (Lib.joinTail [32] L).length = (L.map (fun x => x.length + 1)).sum := joinTail_len _ L
        have := hle 1 (by omega)
        simp only [List.length_cons, List.length_append, List.length_nil]
        omega
theorem dec_len {v : Nat} (h : v < 100) : (Lib.decDigits v).length ≤ 2 := by
  rw [Lib.decDigits]
  split
  · simp
  · rw [Lib.decDigits, dif_pos (by omega)]; simp
theorem txt_len {k : Nat} {s : Sg} : ∀ (f : Nat) {t : List Int}, okT s t = true → t.length ≤ f → (txt k s t).length ≤ 24 * t.length
  | 0, t, h, hf => by have := (okT_parts h).2.1; omega
  | f + 1, t, h, hf => by
    obtain ⟨n, r, ht, hc, hs⟩ := okT_head h
    obtain ⟨g1, g2, g3⟩ := argsT_spec h
    by_cases hn : n < 0
    · have har : ar s n = 0 := ar_neg hn
      rw [har, skip_zero] at hs
      simp only [Option.some.injEq] at hs
      subst hs
      subst ht
      rw [txt_neg hn]
      have := dec_len (v := (-n - 1).toNat) (by simp [codeOk] at hc; omega)
      simp only [List.length_cons, List.length_nil]; omega
    · have hh : t.headD 0 = n := by rw [ht]; rfl
      rw [txt_node h (by rw [hh]; omega)]
      have h1 := comb_len (k := k) (okT_parts h).1 (t.headD 0) ((argsT s t).map (txt k s))
      have hl : 1 + (argsT s t).flatten.length = t.length := by
        have := congrArg List.length g2
        rw [List.length_cons] at this; omega
      have h2 := sum_le (L := (argsT s t).map (txt k s)) (c := 4) (M := argsT s t) (by simp) (fun i h3 h4 => by
        rw [List.getElem_map]
        have hm := List.getElem_mem h4
        have := len_flatten hm
        exact txt_len f (g3 _ hm) (by omega))
      have ha : (argsT s t).length ≤ 3 := by
        rw [g1, hh]; exact (arC_ok (okT_parts h).1 hc).2
      omega
end Go.Proofs.Ytljkojpooajlhaa
