/- The tokens of a term are read as the term. No program is named. -/
import Derived.Test.YtljkojpooajlhaaDoorMathTok
namespace Go.Proofs.YtljkojpooajlhaaDoor

theorem skip_not {w : List UInt8} {r : Toks} (h : w ≠ [32]) : skipB (w :: r) = w :: r := by rw [skipB, if_neg h]
theorem skip_32 (r : Toks) : skipB ([32] :: r) = skipB r := by rw [skipB, if_pos rfl]
theorem nm_not {s : Sg} (h : okSign s = true) {n : Int} (h0 : 0 ≤ n) (h1 : n < s.length) (c : UInt8) (hc : isLet c = false) : nmL s n ≠ [c] := fun e => by
  have := (nm_all h h0 h1).1
  rw [e, List.all_cons, hc, Bool.false_and] at this
  cases this
theorem nameI_name {s : Sg} (h : okSign s = true) {n : Int} (h0 : 0 ≤ n) (h1 : n < s.length) : nameI s (nmL s n) = some n.toNat := by
  unfold nameI
  rw [List.find?_range_eq_some]
  refine ⟨by simp; congr 1; omega, by simp; omega, fun j hj => ?_⟩
  simp only [Bool.not_eq_true', decide_eq_false_iff_not]
  intro he
  have := nm_inj h (i := j) (j := n.toNat) (by omega) (by omega) (by rw [he]; congr 1; omega)
  omega
theorem nameI_var {s : Sg} (h : okSign s = true) {v : Nat} (hv : v < 12) : nameI s (120 :: Lib.decDigits v) = none := by
  unfold nameI
  rw [List.find?_eq_none]
  intro i hi he
  rw [decide_eq_true_eq] at he
  have h1 := (nm_all h (n := (i : Int)) (by omega) (by have := List.mem_range.1 hi; omega)).1
  rw [he, dec_dgv hv, dgv_last v hv] at h1
  cases h1
theorem dgv_atoi : ∀ v, v < 12 → Lib.atoiAll (dgv v) = .ok (v : Int) := by decide +kernel
theorem dgv_sep : ∀ v, v < 12 → (120 :: dgv v : List UInt8) ≠ [32] ∧ (120 :: dgv v : List UInt8) ≠ [40] ∧ (120 :: dgv v : List UInt8) ≠ [91] := by decide
theorem atom_name {s : Sg} (h : okSign s = true) {n : Int} (h0 : 0 ≤ n) (h1 : n < s.length) {T : List Int} (hT : T.length ≤ 60) : atomM s (nmL s n) T = some (ar s n, T ++ [n]) := by
  unfold atomM atomV
  rw [if_neg (by omega), nameI_name h h0 h1]
  simp only [Option.map_some, Int.toNat_of_nonneg h0]
theorem atom_var {s : Sg} (h : okSign s = true) {v : Nat} (hv : v < 12) {T : List Int} (hT : T.length ≤ 60) : atomM s (120 :: Lib.decDigits v) T = some (0, T ++ [-(v : Int) - 1]) := by
  unfold atomM atomV
  rw [if_neg (by omega), nameI_var h hv]
  have e : varV (120 :: Lib.decDigits v) = some (-(v : Int) - 1) := by
    unfold varV trimX
    rw [List.head?_cons, if_pos rfl, List.tail_cons, dec_dgv hv]
    unfold atoiO
    rw [dgv_atoi v hv]
    simp only [Option.bind_some]
    rw [if_pos (by omega)]
  simp only [e, Option.map_some]
  rw [ar_neg (by omega)]
theorem loop_run {g : Nat → RdX → Option RdX} {A : List (List Int)} {S : Nat → Toks} {b : Nat} (hs : ∀ k (hk : k < A.length) (T : List Int), T.length + A[k].length ≤ 60 → b ≤ T.length → g k (S k, T) = some (S (k + 1), T ++ A[k])) :
    ∀ k, k ≤ A.length → ∀ T : List Int, T.length + A.flatten.length ≤ 60 → b ≤ T.length → loopM g k (S 0, T) = some (S k, T ++ (A.take k).flatten)
  | 0, _, T, _, _ => by rw [loopM]; simp
  | k + 1, hk, T, hT, hb => by
    have hk' : k < A.length := by omega
    have hfl := congrArg List.length (congrArg List.flatten (List.take_append_drop k A))
    rw [List.drop_eq_getElem_cons hk', List.flatten_append, List.flatten_cons, List.length_append, List.length_append] at hfl
    rw [loopM, loop_run hs k (by omega) T hT hb, Option.bind_some, hs k hk' _ (by rw [List.length_append]; omega) (by rw [List.length_append]; omega), List.take_succ_eq_append_getElem hk', List.flatten_append, List.append_assoc]
    simp
def RdAt (s : Sg) (k f : Nat) (t : List Int) : Prop := ∀ (R : Toks) (T : List Int), T.length + t.length ≤ 60 → 62 ≤ f + T.length → rdM k s f (tk k s t ++ R, T) = some (R, T ++ t)
theorem rd_skip {s : Sg} {k f : Nat} (L : Toks) (T : List Int) : rdM k s f ([32] :: L, T) = rdM k s f (L, T) := by
  unfold rdM
  cases f with
  | zero =>
    split
    · rfl
    · split
      · rfl
      · rfl
  | succ f =>
    split
    · rw [polM, polM]; simp only [skip_32]
    · split
      · rw [arrM, arrM]; simp only [skip_32]
      · rw [brkM, brkM]; simp only [skip_32]
theorem rd_tail {s : Sg} {k f : Nat} {A : List (List Int)} (hA : ∀ a ∈ A, RdAt s k f a) (R : Toks) {T : List Int} (hT : T.length + A.flatten.length ≤ 60) (hf : 62 ≤ f + T.length) : loopM (fun _ => rdM k s f) A.length (tkTail [[32]] (A.map (tk k s)) ++ R, T) = some (R, T ++ A.flatten) := by
  have := loop_run (g := fun _ => rdM k s f) (A := A) (S := fun j => tkTail [[32]] ((A.map (tk k s)).drop j) ++ R) (b := 62 - f) (fun j hj T' h1 h2 => by
    have hj' : j < (A.map (tk k s)).length := by rw [List.length_map]; exact hj
    rw [List.drop_eq_getElem_cons hj', List.getElem_map]
    have e : tkTail [[32]] (tk k s A[j] :: (A.map (tk k s)).drop (j + 1)) ++ R = [32] :: (tk k s A[j] ++ (tkTail [[32]] ((A.map (tk k s)).drop (j + 1)) ++ R)) := by
      rw [tkTail]; simp [List.append_assoc]
    rw [e, rd_skip]
    exact hA _ (List.getElem_mem hj) _ _ h1 (by omega)) A.length (Nat.le_refl _) T hT (by omega)
  rw [List.take_length] at this
  have e2 : (A.map (tk k s)).drop A.length = [] := by rw [List.drop_eq_nil_iff, List.length_map]; exact Nat.le_refl _
  simp only [e2, List.drop_zero] at this
  exact this
theorem okT_flat {s : Sg} {t : List Int} (h : okT s t = true) : t = t.headD 0 :: (argsT s t).flatten ∧ (argsT s t).flatten.length + 1 = t.length := by
  obtain ⟨g1, g2, g3⟩ := argsT_spec h
  refine ⟨g2, ?_⟩
  have := congrArg List.length g2
  rw [List.length_cons] at this; omega
theorem rd_all {s : Sg} {k : Nat} (hk : k = 1 ∨ k = 2 ∨ k = 3) : ∀ (F : Nat) {t : List Int}, okT s t = true → t.length ≤ F → ∀ f, RdAt s k f t
  | 0, t, h, hF => by have := (okT_parts h).2.1; omega
  | F + 1, t, h, hF => by
    intro f R T hT hf
    have hok := (okT_parts h).1
    obtain ⟨n, x, ht, hc, hs⟩ := okT_head h
    obtain ⟨g1, -, g3⟩ := argsT_spec h
    obtain ⟨g2, g4⟩ := okT_flat h
    have hh : t.headD 0 = n := by rw [ht]; rfl
    have h1 := (okT_parts h).2.1
    obtain ⟨f, rfl⟩ : ∃ f', f = f' + 1 := ⟨f - 1, by omega⟩
    have hT60 : T.length ≤ 60 := by omega
    have hcl : ∀ (c : UInt8) (L : Toks) (U : List Int), c ≠ 32 → closeM c ([c] :: L, U) = some (L, U) := fun c L U hc32 => by
      unfold closeM
      rw [skip_not (fun e => hc32 (by injection e))]
      simp [nextW]
    by_cases hn : n < 0
    · have e := okT_varT h (by rw [hh]; exact hn)
      rw [hh] at e
      have hv : (-n - 1).toNat < 12 := by simp [codeOk] at hc; omega
      obtain ⟨d1, d2, d3⟩ := dgv_sep _ hv
      rw [← dec_dgv hv] at d1 d2 d3
      have ha := atom_var hok hv hT60
      have hnn : -((-n - 1).toNat : Int) - 1 = n := by omega
      rw [hnn] at ha
      rw [e, tk_neg hn, List.singleton_append]
      rcases hk with rfl | rfl | rfl
      · rw [rdM, if_pos rfl, polM]
        simp only [skip_not d1, nextW, ha, Option.bind_some, loopM]
      · rw [rdM, if_neg (by decide), if_pos rfl, arrM]
        simp only [skip_not d1, nextW, if_neg d2, ha, Option.bind_some, loopM, Nat.lt_irrefl, if_false]
      · rw [rdM, if_neg (by decide), if_neg (by decide), brkM]
        simp only [skip_not d1, nextW, if_neg d3, ha, Option.bind_some, loopM]
    · have hnl : n < s.length := by simp [codeOk] at hc; omega
      have h0 : 0 ≤ n := by omega
      have d1 := nm_not hok h0 hnl 32 (by decide)
      have d2 := nm_not hok h0 hnl 40 (by decide)
      have d3 := nm_not hok h0 hnl 91 (by decide)
      have ha := atom_name hok h0 hnl hT60
      have hA : ∀ a ∈ argsT s t, RdAt s k f a := fun a hm => rd_all hk F (g3 _ hm) (by have := len_flatten hm; omega) f
      rw [tk_node h (by rw [hh]; omega), hh]
      rw [hh] at g1 g2
      obtain ⟨A, hAe⟩ : ∃ A, argsT s t = A := ⟨_, rfl⟩
      rw [hAe] at hA g1 g2 g4 ⊢
      have hend : T ++ [n] ++ A.flatten = T ++ t := by rw [g2, List.append_assoc]; rfl
      have hl1 : (T ++ [n]).length = T.length + 1 := by simp
      unfold tkC
      rcases hk with rfl | rfl | rfl
      · rw [if_pos rfl]
        have ht := rd_tail hA R (T := T ++ [n]) (by omega) (by omega)
        rw [hend] at ht
        simp only [rdM, if_true] at ht ⊢
        rw [polM, List.cons_append]
        simp only [skip_not d1, nextW, ha, Option.bind_some]
        rw [← g1]
        exact ht
      · rw [if_neg (by decide), if_pos rfl]
        rw [show rdM 2 s (f + 1) = arrM s (f + 1) from rfl]
        have hr2 : ∀ L U, arrM s f ([32] :: L, U) = arrM s f (L, U) := fun L U => rd_skip (k := 2) L U
        by_cases hn0 : n = 0
        · rw [if_pos hn0]
          have h2 : A.length = 2 := by rw [g1, hn0, ar0_two hok]
          match A, h2 with
          | [a, b], _ =>
            have hla : a.length + b.length + 1 = t.length := by simpa using g4
            have ra := hA a (by simp)
            have rb := hA b (by simp)
            simp only [RdAt, show rdM 2 s f = arrM s f from rfl] at ra rb
            have e1 := ra ([32] :: [45] :: [62] :: [32] :: (tk 2 s b ++ ([41] :: R))) (T ++ [0]) (by simp; omega) (by simp; omega)
            have e2 := rb ([41] :: R) (T ++ [0] ++ a) (by simp; omega) (by simp; omega)
            have ea : [40] :: ([a, b].map (tk 2 s)).getD 0 [] ++ ([32] :: [45] :: [62] :: [32] :: (([a, b].map (tk 2 s)).getD 1 [] ++ [[41]])) ++ R = [40] :: (tk 2 s a ++ ([32] :: [45] :: [62] :: [32] :: (tk 2 s b ++ ([41] :: R)))) := by
              simp [List.append_assoc]
            have ea' : [40] :: (([a, b].map (tk 2 s)).getD 0 [] ++ ([32] :: [45] :: [62] :: [32] :: (([a, b].map (tk 2 s)).getD 1 [] ++ [[41]]))) ++ R = [40] :: (tk 2 s a ++ ([32] :: [45] :: [62] :: [32] :: (tk 2 s b ++ ([41] :: R)))) := ea
            rw [ea', arrM]
            simp only [skip_not (show ([40] : List UInt8) ≠ [32] by decide), nextW, if_true]
            rw [if_neg (by omega), e1, Option.bind_some]
            unfold arrowM
            simp only [skip_32, skip_not (show ([45] : List UInt8) ≠ [32] by decide), nextW, if_true, hr2]
            rw [e2, Option.bind_some, hcl 41 R _ (by decide)]
            have : T ++ [0] ++ a ++ b = T ++ t := by rw [g2, hn0]; simp [List.append_assoc]
            rw [this]
        · rw [if_neg hn0]
          cases A with
          | nil =>
            have har : ar s n = 0 := by simpa using g1.symm
            simp only [List.map_nil, List.singleton_append]
            rw [arrM]
            simp only [skip_not d1, nextW, if_neg d2, ha, Option.bind_some, har, loopM, Nat.lt_irrefl, if_false]
            rw [← hend]; simp
          | cons a A =>
            simp only [List.map_cons]
            have har : 0 < ar s n := by rw [← g1]; simp
            have hloop := loop_run (g := arrStep (arrM s f)) (A := a :: A) (S := fun j => match j with | 0 => [40] :: (tk 2 s a ++ (tkTail [[44], [32]] (A.map (tk 2 s)) ++ ([41] :: R))) | j + 1 => tkTail [[44], [32]] ((A.map (tk 2 s)).drop j) ++ ([41] :: R)) (b := 62 - f) (fun j hj T' q1 q2 => by
              have rj := hA _ (List.getElem_mem hj)
              simp only [RdAt, show rdM 2 s f = arrM s f from rfl] at rj
              cases j with
              | zero =>
                unfold arrStep signA
                simp only [skip_not (show ([40] : List UInt8) ≠ [32] by decide), nextW, if_true]
                have := rj (tkTail [[44], [32]] (A.map (tk 2 s)) ++ ([41] :: R)) T' q1 (by omega)
                simpa using this
              | succ j =>
                have hj' : j < A.length := by simpa using hj
                have hj2 : j < (A.map (tk 2 s)).length := by rw [List.length_map]; exact hj'
                have e : tkTail [[44], [32]] ((A.map (tk 2 s)).drop j) ++ ([41] :: R) = [44] :: [32] :: (tk 2 s A[j] ++ (tkTail [[44], [32]] ((A.map (tk 2 s)).drop (j + 1)) ++ ([41] :: R))) := by
                  rw [List.drop_eq_getElem_cons hj2, List.getElem_map, tkTail]; simp [List.append_assoc]
                simp only [e]
                unfold arrStep signA
                simp only [skip_not (show ([44] : List UInt8) ≠ [32] by decide), nextW, Nat.succ_ne_zero, if_false, if_true, hr2]
                have := rj (tkTail [[44], [32]] ((A.map (tk 2 s)).drop (j + 1)) ++ ([41] :: R)) T' q1 (by omega)
                simpa using this) (a :: A).length (Nat.le_refl _) (T ++ [n]) (by omega) (by omega)
            rw [List.take_length, hend] at hloop
            have e2 : (A.map (tk 2 s)).drop A.length = [] := by rw [List.drop_eq_nil_iff, List.length_map]; exact Nat.le_refl _
            simp only [List.length_cons, e2, tkTail, List.nil_append] at hloop
            have e3 : nmL s n :: [40] :: (tk 2 s a ++ (tkTail [[44], [32]] (A.map (tk 2 s)) ++ [[41]])) ++ R = nmL s n :: [40] :: (tk 2 s a ++ (tkTail [[44], [32]] (A.map (tk 2 s)) ++ ([41] :: R))) := by simp [List.append_assoc]
            rw [e3, arrM]
            simp only [skip_not d1, nextW, if_neg d2, ha, Option.bind_some, har, if_true]
            rw [← g1, List.length_cons, hloop, Option.bind_some, hcl 41 R _ (by decide)]
      · rw [if_neg (by decide), if_neg (by decide)]
        rw [show rdM 3 s (f + 1) = brkM s (f + 1) from rfl]
        cases A with
        | nil =>
          have har : ar s n = 0 := by simpa using g1.symm
          simp only [List.map_nil, List.singleton_append]
          rw [brkM]
          simp only [skip_not d1, nextW, if_neg d3, ha, Option.bind_some, har, loopM]
          rw [← hend]; simp
        | cons a A =>
          have ht := rd_tail hA ([93] :: R) (T := T ++ [n]) (by omega) (by omega)
          rw [hend, show (fun _ : Nat => rdM 3 s f) = (fun _ => brkM s f) from rfl] at ht
          simp only [List.map_cons] at ht ⊢
          have e3 : [91] :: nmL s n :: (tkTail [[32]] (tk 3 s a :: A.map (tk 3 s)) ++ [[93]]) ++ R = [91] :: nmL s n :: (tkTail [[32]] (tk 3 s a :: A.map (tk 3 s)) ++ ([93] :: R)) := by simp [List.append_assoc]
          rw [e3, brkM]
          simp only [skip_not (show ([91] : List UInt8) ≠ [32] by decide), nextW, if_true, ha, Option.bind_some]
          rw [← g1, ht, Option.bind_some, hcl 93 R _ (by decide)]
/-- what is written is read back by its tokens -/
theorem rd_back {s : Sg} {k : Nat} (hk : k = 1 ∨ k = 2 ∨ k = 3) {t : List Int} (h : okT s t = true) : rdM k s 62 (tokM (txt k s t) [], []) = some ([], t) := by
  have h1 := tok_txt (k := k) t.length h (Nat.le_refl _) [] sep_nil
  rw [List.append_nil] at h1
  have h2 := rd_all hk t.length h (Nat.le_refl _) 62 [] [] (by have := (okT_parts h).2.2.1; simpa using this) (by simp)
  rw [h1]
  exact h2
end Go.Proofs.YtljkojpooajlhaaDoor
