/- The proof of a statement, some of its texts joined in build order: part F. -/
import Derived.Test.YtljkojpooajlhaaGreatDoorMathTok
import Derived.Test.YtljkojpooajlhaaGreatDoorMsI
import Derived.Test.YtljkojpooajlhaaGreatDoorMathWays
import Derived.Test.YtljkojpooajlhaaGreatDoorMsG
import Derived.Deep.Cut
import Derived.Test.YtljkojpooajlhaaGreatDoorShJoin
import Derived.Test.YtljkojpooajlhaaGreatDoorMsD
import Derived.BigQuiet
import Derived.Deep.RegionLaw
/- The tokens of a term are read as the term. No program is named. -/
namespace Go.Proofs.YtljkojpooajlhaaGreatDoor

theorem skip_not {w : List UInt8} {r : Toks} (h : w ≠ [32]) : skipB (w :: r) = w :: r := by rw [skipB, if_neg h]
theorem skip_32 (r : Toks) : skipB ([32] :: r) = skipB r := by rw [skipB, if_pos rfl]
theorem nm_not {s : Sg} (h : okSign s = true) {n : Int} (h0 : 0 ≤ n) (h1 : n < s.length) (c : UInt8) (hc : isLet c = false) : nmL s n ≠ [c] := fun e => by
  have := (nm_all h h0 h1).1
  rw [e, List.all_cons, hc, Bool.false_and] at this
  cases this
theorem nameI_name {s : Sg} (h : okSign s = true) {n : Int} (h0 : 0 ≤ n) (h1 : n < s.length) : nameI s (nmL s n) = some n.toNat := by
  unfold nameI
  rw [List.find?_range_eq_some]
  refine ⟨by simp; congr 1; omega, by simp; omega, fun j hj => ?_⟩
  simp only [Bool.not_eq_true', decide_eq_false_iff_not]
  intro he
  have := nm_inj h (i := j) (j := n.toNat) (by omega) (by omega) (by rw [he]; congr 1; omega)
  omega
theorem nameI_var {s : Sg} (h : okSign s = true) {v : Nat} (hv : v < 12) : nameI s (120 :: Lib.decDigits v) = none := by
  unfold nameI
  rw [List.find?_eq_none]
  intro i hi he
  rw [decide_eq_true_eq] at he
  have h1 := (nm_all h (n := (i : Int)) (by omega) (by have := List.mem_range.1 hi; omega)).1
  rw [he, dec_dgv hv, dgv_last v hv] at h1
  cases h1
theorem dgv_atoi : ∀ v, v < 12 → Lib.atoiAll (dgv v) = .ok (v : Int) := by decide +kernel
theorem dgv_sep : ∀ v, v < 12 → (120 :: dgv v : List UInt8) ≠ [32] ∧ (120 :: dgv v : List UInt8) ≠ [40] ∧ (120 :: dgv v : List UInt8) ≠ [91] := by decide
theorem atom_name {s : Sg} (h : okSign s = true) {n : Int} (h0 : 0 ≤ n) (h1 : n < s.length) {T : List Int} (hT : T.length ≤ 60) : atomM s (nmL s n) T = some (ar s n, T ++ [n]) := by
  unfold atomM atomV
  rw [if_neg (by omega), nameI_name h h0 h1]
  simp only [Option.map_some, Int.toNat_of_nonneg h0]
theorem atom_var {s : Sg} (h : okSign s = true) {v : Nat} (hv : v < 12) {T : List Int} (hT : T.length ≤ 60) : atomM s (120 :: Lib.decDigits v) T = some (0, T ++ [-(v : Int) - 1]) := by
  unfold atomM atomV
  rw [if_neg (by omega), nameI_var h hv]
  have e : varV (120 :: Lib.decDigits v) = some (-(v : Int) - 1) := by
    unfold varV trimX
    rw [List.head?_cons, if_pos rfl, List.tail_cons, dec_dgv hv]
    unfold atoiO
    rw [dgv_atoi v hv]
    simp only [Option.bind_some]
    rw [if_pos (by omega)]
  simp only [e, Option.map_some]
  rw [ar_neg (by omega)]
theorem loop_run {g : Nat → RdX → Option RdX} {A : List (List Int)} {S : Nat → Toks} {b : Nat} (hs : ∀ k (hk : k < A.length) (T : List Int), T.length + A[k].length ≤ 60 → b ≤ T.length → g k (S k, T) = some (S (k + 1), T ++ A[k])) :
    ∀ k, k ≤ A.length → ∀ T : List Int, T.length + A.flatten.length ≤ 60 → b ≤ T.length → loopM g k (S 0, T) = some (S k, T ++ (A.take k).flatten)
  | 0, _, T, _, _ => by rw [loopM]; simp
  | k + 1, hk, T, hT, hb => by
    have hk' : k < A.length := by omega
    have hfl := congrArg List.length (congrArg List.flatten (List.take_append_drop k A))
    rw [List.drop_eq_getElem_cons hk', List.flatten_append, List.flatten_cons, List.length_append, List.length_append] at hfl
    rw [loopM, loop_run hs k (by omega) T hT hb, Option.bind_some, hs k hk' _ (by rw [List.length_append]; omega) (by rw [List.length_append]; omega), List.take_succ_eq_append_getElem hk', List.flatten_append, List.append_assoc]
    simp
def RdAt (s : Sg) (k f : Nat) (t : List Int) : Prop := ∀ (R : Toks) (T : List Int), T.length + t.length ≤ 60 → 62 ≤ f + T.length → rdM k s f (tk k s t ++ R, T) = some (R, T ++ t)
theorem rd_skip {s : Sg} {k f : Nat} (L : Toks) (T : List Int) : rdM k s f ([32] :: L, T) = rdM k s f (L, T) := by
  unfold rdM
  cases f with
  | zero =>
    split
    · rfl
    · split
      · rfl
      · rfl
  | succ f =>
    split
    · rw [polM, polM]; simp only [skip_32]
    · split
      · rw [arrM, arrM]; simp only [skip_32]
      · rw [brkM, brkM]; simp only [skip_32]
theorem rd_tail {s : Sg} {k f : Nat} {A : List (List Int)} (hA : ∀ a ∈ A, RdAt s k f a) (R : Toks) {T : List Int} (hT : T.length + A.flatten.length ≤ 60) (hf : 62 ≤ f + T.length) : loopM (fun _ => rdM k s f) A.length (tkTail [[32]] (A.map (tk k s)) ++ R, T) = some (R, T ++ A.flatten) := by
  have := loop_run (g := fun _ => rdM k s f) (A := A) (S := fun j => tkTail [[32]] ((A.map (tk k s)).drop j) ++ R) (b := 62 - f) (fun j hj T' h1 h2 => by
    have hj' : j < (A.map (tk k s)).length := by rw [List.length_map]; exact hj
    rw [List.drop_eq_getElem_cons hj', List.getElem_map]
    have e : tkTail [[32]] (tk k s A[j] :: (A.map (tk k s)).drop (j + 1)) ++ R = [32] :: (tk k s A[j] ++ (tkTail [[32]] ((A.map (tk k s)).drop (j + 1)) ++ R)) := by
      rw [tkTail]; simp [List.append_assoc]
    rw [e, rd_skip]
    exact hA _ (List.getElem_mem hj) _ _ h1 (by omega)) A.length (Nat.le_refl _) T hT (by omega)
  rw [List.take_length] at this
  have e2 : (A.map (tk k s)).drop A.length = [] := by rw [List.drop_eq_nil_iff, List.length_map]; exact Nat.le_refl _
  simp only [e2, List.drop_zero] at this
  exact this
theorem okT_flat {s : Sg} {t : List Int} (h : okT s t = true) : t = t.headD 0 :: (argsT s t).flatten ∧ (argsT s t).flatten.length + 1 = t.length := by
  obtain ⟨g1, g2, g3⟩ := argsT_spec h
  refine ⟨g2, ?_⟩
  have := congrArg List.length g2
  rw [List.length_cons] at this; omega
theorem rd_all {s : Sg} {k : Nat} (hk : k = 1 ∨ k = 2 ∨ k = 3) : ∀ (F : Nat) {t : List Int}, okT s t = true → t.length ≤ F → ∀ f, RdAt s k f t
  | 0, t, h, hF => by have := (okT_parts h).2.1; omega
  | F + 1, t, h, hF => by
    intro f R T hT hf
    have hok := (okT_parts h).1
    obtain ⟨n, x, ht, hc, hs⟩ := okT_head h
    obtain ⟨g1, -, g3⟩ := argsT_spec h
    obtain ⟨g2, g4⟩ := okT_flat h
    have hh : t.headD 0 = n := by rw [ht]; rfl
    have h1 := (okT_parts h).2.1
    obtain ⟨f, rfl⟩ : ∃ f', f = f' + 1 := ⟨f - 1, by omega⟩
    have hT60 : T.length ≤ 60 := by omega
    have hcl : ∀ (c : UInt8) (L : Toks) (U : List Int), c ≠ 32 → closeM c ([c] :: L, U) = some (L, U) := fun c L U hc32 => by
      unfold closeM
      rw [skip_not (fun e => hc32 (by injection e))]
      simp [nextW]
    by_cases hn : n < 0
    · have e := okT_varT h (by rw [hh]; exact hn)
      rw [hh] at e
      have hv : (-n - 1).toNat < 12 := by simp [codeOk] at hc; omega
      obtain ⟨d1, d2, d3⟩ := dgv_sep _ hv
      rw [← dec_dgv hv] at d1 d2 d3
      have ha := atom_var hok hv hT60
      have hnn : -((-n - 1).toNat : Int) - 1 = n := by omega
      rw [hnn] at ha
      rw [e, tk_neg hn, List.singleton_append]
      rcases hk with rfl | rfl | rfl
      · rw [rdM, if_pos rfl, polM]
        simp only [skip_not d1, nextW, ha, Option.bind_some, loopM]
      · rw [rdM, if_neg (by decide), if_pos rfl, arrM]
        simp only [skip_not d1, nextW, if_neg d2, ha, Option.bind_some, loopM, Nat.lt_irrefl, if_false]
      · rw [rdM, if_neg (by decide), if_neg (by decide), brkM]
        simp only [skip_not d1, nextW, if_neg d3, ha, Option.bind_some, loopM]
    · have hnl : n < s.length := by simp [codeOk] at hc; omega
      have h0 : 0 ≤ n := by omega
      have d1 := nm_not hok h0 hnl 32 (by decide)
      have d2 := nm_not hok h0 hnl 40 (by decide)
      have d3 := nm_not hok h0 hnl 91 (by decide)
      have ha := atom_name hok h0 hnl hT60
      have hA : ∀ a ∈ argsT s t, RdAt s k f a := fun a hm => rd_all hk F (g3 _ hm) (by have := len_flatten hm; omega) f
      rw [tk_node h (by rw [hh]; omega), hh]
      rw [hh] at g1 g2
      obtain ⟨A, hAe⟩ : ∃ A, argsT s t = A := ⟨_, rfl⟩
      rw [hAe] at hA g1 g2 g4 ⊢
      have hend : T ++ [n] ++ A.flatten = T ++ t := by rw [g2, List.append_assoc]; rfl
      have hl1 : (T ++ [n]).length = T.length + 1 := by simp
      unfold tkC
      rcases hk with rfl | rfl | rfl
      · rw [if_pos rfl]
        have ht := rd_tail hA R (T := T ++ [n]) (by omega) (by omega)
        rw [hend] at ht
        simp only [rdM, if_true] at ht ⊢
        rw [polM, List.cons_append]
        simp only [skip_not d1, nextW, ha, Option.bind_some]
        rw [← g1]
        exact ht
      · rw [if_neg (by decide), if_pos rfl]
        rw [show rdM 2 s (f + 1) = arrM s (f + 1) from rfl]
        have hr2 : ∀ L U, arrM s f ([32] :: L, U) = arrM s f (L, U) := fun L U => rd_skip (k := 2) L U
        by_cases hn0 : n = 0
        · rw [if_pos hn0]
          have h2 : A.length = 2 := by rw [g1, hn0, ar0_two hok]
          match A, h2 with
          | [a, b], _ =>
            have hla : a.length + b.length + 1 = t.length := by simpa using g4
            have ra := hA a (by simp)
            have rb := hA b (by simp)
            simp only [RdAt, show rdM 2 s f = arrM s f from rfl] at ra rb
            have e1 := ra ([32] :: [45] :: [62] :: [32] :: (tk 2 s b ++ ([41] :: R))) (T ++ [0]) (by simp; omega) (by simp; omega)
            have e2 := rb ([41] :: R) (T ++ [0] ++ a) (by simp; omega) (by simp; omega)
            have ea : [40] :: ([a, b].map (tk 2 s)).getD 0 [] ++ ([32] :: [45] :: [62] :: [32] :: (([a, b].map (tk 2 s)).getD 1 [] ++ [[41]])) ++ R = [40] :: (tk 2 s a ++ ([32] :: [45] :: [62] :: [32] :: (tk 2 s b ++ ([41] :: R)))) := by
              simp [List.append_assoc]
            have ea' : [40] :: (([a, b].map (tk 2 s)).getD 0 [] ++ ([32] :: [45] :: [62] :: [32] :: (([a, b].map (tk 2 s)).getD 1 [] ++ [[41]]))) ++ R = [40] :: (tk 2 s a ++ ([32] :: [45] :: [62] :: [32] :: (tk 2 s b ++ ([41] :: R)))) := ea
            rw [ea', arrM]
            simp only [skip_not (show ([40] : List UInt8) ≠ [32] by decide), nextW, if_true]
            rw [if_neg (by omega), e1, Option.bind_some]
            unfold arrowM
            simp only [skip_32, skip_not (show ([45] : List UInt8) ≠ [32] by decide), nextW, if_true, hr2]
            rw [e2, Option.bind_some, hcl 41 R _ (by decide)]
            have : T ++ [0] ++ a ++ b = T ++ t := by rw [g2, hn0]; simp [List.append_assoc]
            rw [this]
        · rw [if_neg hn0]
          cases A with
          | nil =>
            have har : ar s n = 0 := by simpa using g1.symm
            simp only [List.map_nil, List.singleton_append]
            rw [arrM]
            simp only [skip_not d1, nextW, if_neg d2, ha, Option.bind_some, har, loopM, Nat.lt_irrefl, if_false]
            rw [← hend]; simp
          | cons a A =>
            simp only [List.map_cons]
            have har : 0 < ar s n := by rw [← g1]; simp
            have hloop := loop_run (g := arrStep (arrM s f)) (A := a :: A) (S := fun j => match j with | 0 => [40] :: (tk 2 s a ++ (tkTail [[44], [32]] (A.map (tk 2 s)) ++ ([41] :: R))) | j + 1 => tkTail [[44], [32]] ((A.map (tk 2 s)).drop j) ++ ([41] :: R)) (b := 62 - f) (fun j hj T' q1 q2 => by
              have rj := hA _ (List.getElem_mem hj)
              simp only [RdAt, show rdM 2 s f = arrM s f from rfl] at rj
              cases j with
              | zero =>
                unfold arrStep signA
                simp only [skip_not (show ([40] : List UInt8) ≠ [32] by decide), nextW, if_true]
                have := rj (tkTail [[44], [32]] (A.map (tk 2 s)) ++ ([41] :: R)) T' q1 (by omega)
                simpa using this
              | succ j =>
                have hj' : j < A.length := by simpa using hj
                have hj2 : j < (A.map (tk 2 s)).length := by rw [List.length_map]; exact hj'
                have e : tkTail [[44], [32]] ((A.map (tk 2 s)).drop j) ++ ([41] :: R) = [44] :: [32] :: (tk 2 s A[j] ++ (tkTail [[44], [32]] ((A.map (tk 2 s)).drop (j + 1)) ++ ([41] :: R))) := by
                  rw [List.drop_eq_getElem_cons hj2, List.getElem_map, tkTail]; simp [List.append_assoc]
                simp only [e]
                unfold arrStep signA
                simp only [skip_not (show ([44] : List UInt8) ≠ [32] by decide), nextW, Nat.succ_ne_zero, if_false, if_true, hr2]
                have := rj (tkTail [[44], [32]] ((A.map (tk 2 s)).drop (j + 1)) ++ ([41] :: R)) T' q1 (by omega)
                simpa using this) (a :: A).length (Nat.le_refl _) (T ++ [n]) (by omega) (by omega)
            rw [List.take_length, hend] at hloop
            have e2 : (A.map (tk 2 s)).drop A.length = [] := by rw [List.drop_eq_nil_iff, List.length_map]; exact Nat.le_refl _
            simp only [List.length_cons, e2, tkTail, List.nil_append] at hloop
            have e3 : nmL s n :: [40] :: (tk 2 s a ++ (tkTail [[44], [32]] (A.map (tk 2 s)) ++ [[41]])) ++ R = nmL s n :: [40] :: (tk 2 s a ++ (tkTail [[44], [32]] (A.map (tk 2 s)) ++ ([41] :: R))) := by simp [List.append_assoc]
            rw [e3, arrM]
            simp only [skip_not d1, nextW, if_neg d2, ha, Option.bind_some, har, if_true]
            rw [← g1, List.length_cons, hloop, Option.bind_some, hcl 41 R _ (by decide)]
      · rw [if_neg (by decide), if_neg (by decide)]
        rw [show rdM 3 s (f + 1) = brkM s (f + 1) from rfl]
        cases A with
        | nil =>
          have har : ar s n = 0 := by simpa using g1.symm
          simp only [List.map_nil, List.singleton_append]
          rw [brkM]
          simp only [skip_not d1, nextW, if_neg d3, ha, Option.bind_some, har, loopM]
          rw [← hend]; simp
        | cons a A =>
          have ht := rd_tail hA ([93] :: R) (T := T ++ [n]) (by omega) (by omega)
          rw [hend, show (fun _ : Nat => rdM 3 s f) = (fun _ => brkM s f) from rfl] at ht
          simp only [List.map_cons] at ht ⊢
          have e3 : [91] :: nmL s n :: (tkTail [[32]] (tk 3 s a :: A.map (tk 3 s)) ++ [[93]]) ++ R = [91] :: nmL s n :: (tkTail [[32]] (tk 3 s a :: A.map (tk 3 s)) ++ ([93] :: R)) := by simp [List.append_assoc]
          rw [e3, brkM]
          simp only [skip_not (show ([91] : List UInt8) ≠ [32] by decide), nextW, if_true, ha, Option.bind_some]
          rw [← g1, ht, Option.bind_some, hcl 93 R _ (by decide)]
/-- what is written is read back by its tokens -/
theorem rd_back {s : Sg} {k : Nat} (hk : k = 1 ∨ k = 2 ∨ k = 3) {t : List Int} (h : okT s t = true) : rdM k s 62 (tokM (txt k s t) [], []) = some ([], t) := by
  have h1 := tok_txt (k := k) t.length h (Nat.le_refl _) [] sep_nil
  rw [List.append_nil] at h1
  have h2 := rd_all hk t.length h (Nat.le_refl _) 62 [] [] (by have := (okT_parts h).2.2.1; simpa using this) (by simp)
  rw [h1]
  exact h2
end Go.Proofs.YtljkojpooajlhaaGreatDoor

/- Ways as a text. No program is named. -/
namespace Go.Proofs.YtljkojpooajlhaaGreatDoor

/-- how the numbers of the arguments are written -/
def decsB (l : List Int) : List UInt8 := (l.map (fun v => Lib.decDigits v.toNat)).flatten
def argB (l : List Int) : List UInt8 := if l = [] then [45] else decsB l
def wayB (x : Int × List Int) : List UInt8 := Lib.decDigits x.1.toNat ++ 58 :: argB x.2
def okW1 (x : Int × List Int) : Bool := (decide (0 ≤ x.1) && decide (x.1 ≤ 11)) && (decide (x.2.length ≤ 3) && ordB x.2)
def okWs (d : Ways) : Bool := (decide (1 ≤ d.length) && decide (d.length ≤ 12)) && d.all okW1
def fmtW (d : Ways) : List UInt8 := if okWs d = true then joinM 32 (d.map wayB) else []
theorem okW1_parts {x : Int × List Int} (h : okW1 x = true) : 0 ≤ x.1 ∧ x.1 ≤ 11 ∧ x.2.length ≤ 3 ∧ ordB x.2 = true := by
  unfold okW1 at h
  simp only [Bool.and_eq_true, decide_eq_true_eq] at h
  exact ⟨h.1.1, h.1.2, h.2.1, h.2.2⟩
theorem okWs_parts {d : Ways} (h : okWs d = true) : 1 ≤ d.length ∧ d.length ≤ 12 ∧ ∀ x ∈ d, okW1 x = true := by
  unfold okWs at h
  simp only [Bool.and_eq_true, decide_eq_true_eq, List.all_eq_true] at h
  exact ⟨h.1.1, h.1.2, h.2⟩
theorem ord_lt3 {l : List Int} (h : ordB l = true) (hl : l.length ≤ 3) : ∀ v ∈ l, 0 ≤ v ∧ v < 3 := fun v hv => by
  have := (ordB_perm h).mem_iff.1 hv
  rw [mem_ascL] at this
  omega
theorem dgv_one : ∀ v, v < 3 → dgv v = [UInt8.ofNat (48 + v)] := by decide
theorem dgv12 : ∀ v, v < 12 → 1 ≤ (dgv v).length ∧ (dgv v).length ≤ 2 ∧ ∀ c ∈ dgv v, c ≠ 58 ∧ c ≠ 32 ∧ c ≠ 45 := by decide
theorem numR_dgv12 : ∀ v, v < 12 → numR (dgv v) = some (v : Int) := by decide +kernel
theorem decs_map {l : List Int} (h : ∀ v ∈ l, 0 ≤ v ∧ v < 3) : decsB l = l.map (fun v => UInt8.ofNat (48 + v.toNat)) := by
  unfold decsB
  induction l with
  | nil => rfl
  | cons v l ih =>
    have hv := h v (by simp)
    rw [List.map_cons, List.flatten_cons, List.map_cons, ih (fun u hu => h u (by simp [hu])), dec_dgv (by omega), dgv_one _ (by omega)]
    rfl
theorem digit_facts : ∀ v, v < 3 → (UInt8.ofNat (48 + v)).toNat = 48 + v ∧ UInt8.ofNat (48 + v) ≠ 58 ∧ UInt8.ofNat (48 + v) ≠ 32 ∧ UInt8.ofNat (48 + v) ≠ 45 := by decide
theorem decs_mem {l : List Int} (h : ∀ v ∈ l, 0 ≤ v ∧ v < 3) {c : UInt8} (hc : c ∈ decsB l) : c ≠ 58 ∧ c ≠ 32 ∧ c ≠ 45 ∧ 48 ≤ c.toNat ∧ c.toNat ≤ 50 := by
  rw [decs_map h] at hc
  obtain ⟨v, hv, rfl⟩ := List.mem_map.1 hc
  have := h v hv
  obtain ⟨h1, h2, h3, h4⟩ := digit_facts v.toNat (by omega)
  exact ⟨h2, h3, h4, by omega, by omega⟩
theorem decs_len {l : List Int} (h : ∀ v ∈ l, 0 ≤ v ∧ v < 3) : (decsB l).length = l.length := by rw [decs_map h, List.length_map]
theorem argB_mem {l : List Int} (h : ∀ v ∈ l, 0 ≤ v ∧ v < 3) {c : UInt8} (hc : c ∈ argB l) : c ≠ 58 ∧ c ≠ 32 := by
  unfold argB at hc
  split at hc
  · simp at hc; subst hc; decide
  · have := decs_mem h hc; exact ⟨this.1, this.2.1⟩
theorem argB_len {l : List Int} (h : ∀ v ∈ l, 0 ≤ v ∧ v < 3) (hl : l.length ≤ 3) : 1 ≤ (argB l).length ∧ (argB l).length ≤ 3 := by
  unfold argB
  split
  · simp
  · rename_i hne
    rw [decs_len h]
    have := List.length_pos_iff.2 hne
    omega
theorem argB_dash {l : List Int} (h : ∀ v ∈ l, 0 ≤ v ∧ v < 3) : argB l = [45] ↔ l = [] := by
  unfold argB
  constructor
  · intro e
    split at e
    · assumption
    · have : (45 : UInt8) ∈ decsB l := by rw [e]; simp
      exact ((decs_mem h this).2.2.1 rfl).elim
  · intro e; rw [if_pos e]
theorem way_len {x : Int × List Int} (h : okW1 x = true) : (wayB x).length ≤ 6 := by
  obtain ⟨h1, h2, h3, h4⟩ := okW1_parts h
  have := (argB_len (ord_lt3 h4 h3) h3).2
  have h5 := (dgv12 x.1.toNat (by omega)).2.1
  unfold wayB
  rw [List.length_append, List.length_cons, dec_dgv (by omega)]
  omega
theorem way_no32 {x : Int × List Int} (h : okW1 x = true) : (32 : UInt8) ∉ wayB x := fun hc => by
  obtain ⟨h1, h2, h3, h4⟩ := okW1_parts h
  unfold wayB at hc
  rw [dec_dgv (by omega)] at hc
  rcases List.mem_append.1 hc with hc | hc
  · exact ((dgv12 _ (by omega)).2.2 32 hc).2.1 rfl
  · rcases List.mem_cons.1 hc with hc | hc
    · revert hc; decide
    · exact (argB_mem (ord_lt3 h4 h3) hc).2 rfl
theorem way_words {x : Int × List Int} (h : okW1 x = true) : wordsB 58 (wayB x) = [Lib.decDigits x.1.toNat, argB x.2] := by
  obtain ⟨h1, h2, h3, h4⟩ := okW1_parts h
  unfold wayB
  rw [wordsB_at (fun hc => ?_), wordsB_no (fun hc => (argB_mem (ord_lt3 h4 h3) hc).1 rfl)]
  rw [dec_dgv (by omega)] at hc
  exact ((dgv12 _ (by omega)).2.2 58 hc).1 rfl
theorem way_cut {x : Int × List Int} (h : okW1 x = true) : Lib.cut (wayB x) [58] = (Lib.decDigits x.1.toNat, argB x.2, true) := by
  obtain ⟨h1, h2, h3, h4⟩ := okW1_parts h
  unfold wayB
  refine cut_at (fun hc => ?_)
  rw [dec_dgv (by omega)] at hc
  exact ((dgv12 _ (by omega)).2.2 58 hc).1 rfl
theorem joinW {m : UInt8} : ∀ (ws : List (List UInt8)), ws ≠ [] → (∀ w ∈ ws, m ∉ w) → wordsB m (joinM m ws) = ws
  | [], h, _ => (h rfl).elim
  | [w], _, h => by
    rw [show joinM m [w] = w from rfl]
    exact wordsB_no (h w (by simp))
  | w :: v :: ws, _, h => by
    rw [show joinM m (w :: v :: ws) = w ++ m :: joinM m (v :: ws) from rfl, wordsB_at (h w (by simp)), joinW (v :: ws) (by simp) (fun x hx => h x (by simp [hx]))]
theorem words_fmtW {d : Ways} (h : okWs d = true) : wordsB 32 (fmtW d) = d.map wayB := by
  obtain ⟨h1, -, h3⟩ := okWs_parts h
  unfold fmtW
  rw [if_pos h]
  refine joinW _ (fun e => ?_) (fun w hw => ?_)
  · have := congrArg List.length e
    simp at this; rw [this] at h1; simp at h1
  · obtain ⟨x, hx, rfl⟩ := List.mem_map.1 hw
    exact way_no32 (h3 x hx)
/-- what the program parses, its readers given -/
def parW (av : List UInt8 → Int) (ag : List UInt8 → List Int) (text : List UInt8) : Ways := (wordsB 32 text).map (fun w => (av (Lib.cut w [58]).1, ag (Lib.cut w [58]).2.1))
theorem parW_fmt {av : List UInt8 → Int} {ag : List UInt8 → List Int} (ha : ∀ v, v < 12 → av (Lib.decDigits v) = (v : Int)) (hg : ∀ l : List Int, (∀ v ∈ l, 0 ≤ v ∧ v < 3) → ag (argB l) = l) {d : Ways} (h : okWs d = true) : parW av ag (fmtW d) = d := by
  obtain ⟨-, -, h1⟩ := okWs_parts h
  unfold parW
  rw [words_fmtW h, List.map_map]
  conv => rhs; rw [← List.map_id d]
  refine List.map_congr_left (fun x hx => ?_)
  have e1 := way_cut (h1 x hx)
  obtain ⟨e2, e3, e4, e5⟩ := okW1_parts (h1 x hx)
  simp only [Function.comp, e1, id]
  rw [ha _ (by omega), hg _ (ord_lt3 e5 e4), Int.toNat_of_nonneg e2]
/-- the reference's reading -/
def digC (c : UInt8) : Option Int := if 48 ≤ c.toNat ∧ c.toNat ≤ 57 then some ((c.toNat : Int) - 48) else none
def digR (b : List UInt8) : Option (List Int) := if b = [45] then some [] else b.mapM digC
def refWW (w : List UInt8) : Option (Int × List Int) :=
  match wordsB 58 w with
  | [a, b] => if 1 ≤ b.length ∧ b.length ≤ 3 then (numR a).bind (fun n => (digR b).map (fun l => (n, l))) else none
  | _ => none
def refPW (text : List UInt8) : Option Ways := (wordsB 32 text).mapM refWW
theorem digR_arg {l : List Int} (h : ∀ v ∈ l, 0 ≤ v ∧ v < 3) : digR (argB l) = some l := by
  unfold digR
  by_cases hl : l = []
  · subst hl; rfl
  · rw [if_neg (fun e => hl ((argB_dash h).1 e))]
    unfold argB
    rw [if_neg hl, decs_map h]
    clear hl
    induction l with
    | nil => rfl
    | cons v l ih =>
      have hv := h v (by simp)
      obtain ⟨e1, -⟩ := digit_facts v.toNat (by omega)
      rw [List.map_cons, List.mapM_cons, ih (fun u hu => h u (by simp [hu]))]
      unfold digC
      rw [if_pos (by rw [e1]; omega), e1]
      simp
      omega
theorem refPW_fmt {d : Ways} (h : okWs d = true) : refPW (fmtW d) = some d := by
  obtain ⟨-, -, h1⟩ := okWs_parts h
  unfold refPW
  rw [words_fmtW h]
  clear h
  induction d with
  | nil => rfl
  | cons x d ih =>
    have hx := h1 x (by simp)
    obtain ⟨e2, e3, e4, e5⟩ := okW1_parts hx
    have : refWW (wayB x) = some x := by
      unfold refWW
      rw [way_words hx]
      simp only
      rw [if_pos (argB_len (ord_lt3 e5 e4) e4), dec_dgv (by omega), numR_dgv12 _ (by omega), digR_arg (ord_lt3 e5 e4)]
      simp only [Option.bind_some, Option.map_some]
      rw [Int.toNat_of_nonneg e2]
    rw [List.map_cons, List.mapM_cons, this, ih (fun y hy => h1 y (by simp [hy]))]
    rfl
theorem fmtW_ok {d : Ways} (h : fmtW d ≠ []) : okWs d = true := by
  cases hx : okWs d with
  | true => rfl
  | false => exact (h (by unfold fmtW; rw [if_neg (by simp [hx])])).elim
/-- both parses, in one word -/
def parseW (av : List UInt8 → Int) (ag : List UInt8 → List Int) (text : List UInt8) : Ways × Int :=
  if text.length ≤ 65536 then (if text ≠ [] ∧ fmtW (parW av ag text) = text then (parW av ag text, 0) else ([], 2)) else ([], 3)
section
variable {av : List UInt8 → Int} {ag : List UInt8 → List Int}
theorem parseW_ref (ha : ∀ v, v < 12 → av (Lib.decDigits v) = (v : Int)) (hg : ∀ l : List Int, (∀ v ∈ l, 0 ≤ v ∧ v < 3) → ag (argB l) = l) {text : List UInt8} (hl : text.length ≤ 65536) :
    (∀ d, refPW text = some d → fmtW d ≠ [] → fmtW d = text → parseW av ag text = (d, 0)) ∧ (refPW text = none → parseW av ag text = ([], 2)) ∧ (∀ d, refPW text = some d → ¬ (fmtW d ≠ [] ∧ fmtW d = text) → parseW av ag text = ([], 2)) := by
  have key : ∀ d, text ≠ [] → fmtW d = text → parW av ag text = d ∧ refPW text = some d := fun d hne e => by
    have hok := fmtW_ok (d := d) (by rw [e]; exact hne)
    rw [← e]
    exact ⟨parW_fmt ha hg hok, refPW_fmt hok⟩
  unfold parseW
  rw [if_pos hl]
  refine ⟨fun d hd hne e => ?_, fun hd => ?_, fun d hd hno => ?_⟩
  · have hk := key d (by rw [← e]; exact hne) e
    rw [hk.1, if_pos ⟨by rw [← e]; exact hne, e⟩]
  · rw [if_neg]
    rintro ⟨h1, h2⟩
    have := (key _ h1 h2).2
    rw [hd] at this; cases this
  · rw [if_neg]
    rintro ⟨h1, h2⟩
    have hk := (key _ h1 h2).2
    rw [hd] at hk
    cases hk
    exact hno ⟨by rw [h2]; exact h1, h2⟩
theorem parseW_fmt (ha : ∀ v, v < 12 → av (Lib.decDigits v) = (v : Int)) (hg : ∀ l : List Int, (∀ v ∈ l, 0 ≤ v ∧ v < 3) → ag (argB l) = l) {d : Ways} (hl : (fmtW d).length ≤ 65536) (h : fmtW d ≠ []) : parseW av ag (fmtW d) = (d, 0) := by
  unfold parseW
  have hp := parW_fmt ha hg (fmtW_ok h)
  rw [if_pos hl, hp, if_pos ⟨h, rfl⟩]
theorem parseW_zero {l : List UInt8} (h : (parseW av ag l).2 = 0) : fmtW (parseW av ag l).1 = l := by
  unfold parseW at h ⊢
  split at h
  · split at h
    · rename_i h1 h2
      rw [if_pos h1, if_pos h2]; exact h2.2
    · simp at h
  · simp at h
end
/-- the text of the first ways -/
def preW (d : Ways) (j : Nat) : List UInt8 := joinM 32 ((d.take j).map wayB)
theorem joinM_snocW {m : UInt8} (w : List UInt8) : ∀ ws : List (List UInt8), joinM m (ws ++ [w]) = if ws = [] then w else joinM m ws ++ m :: w
  | [] => rfl
  | [v] => rfl
  | v :: u :: ws => by
    have ih := joinM_snocW (m := m) w (u :: ws)
    rw [if_neg (by simp)] at ih ⊢
    rw [show joinM m (v :: u :: ws ++ [w]) = v ++ m :: joinM m (u :: ws ++ [w]) from rfl, ih, show joinM m (v :: u :: ws) = v ++ m :: joinM m (u :: ws) from rfl, List.append_assoc, List.cons_append]
theorem preW_succ {d : Ways} {j : Nat} (hj : j < d.length) : preW d (j + 1) = if j = 0 then wayB d[j] else preW d j ++ 32 :: wayB d[j] := by
  unfold preW
  rw [List.take_succ_eq_append_getElem hj, List.map_append, List.map_cons, List.map_nil, joinM_snocW]
  by_cases h : j = 0
  · subst h; simp
  · rw [if_neg h, if_neg]
    intro e
    have := congrArg List.length e
    rw [List.length_map, List.length_take, List.length_nil] at this
    omega
theorem preW_len {d : Ways} (h : ∀ x ∈ d, okW1 x = true) : ∀ j, j ≤ d.length → (preW d j).length ≤ 7 * j
  | 0, _ => by simp [preW, joinM]
  | j + 1, hj => by
    have ih := preW_len h j (by omega)
    have he := way_len (h d[j] (List.getElem_mem (by omega)))
    rw [preW_succ (by omega)]
    split
    · omega
    · rw [List.length_append, List.length_cons]; omega
theorem preW_end {d : Ways} (h : okWs d = true) : preW d d.length = fmtW d := by
  unfold preW fmtW
  rw [if_pos h, List.take_length]
theorem fmtW_len {d : Ways} : (fmtW d).length ≤ 100 := by
  cases h : okWs d with
  | false => unfold fmtW; rw [if_neg (by simp [h])]; simp
  | true =>
    obtain ⟨-, h2, h3⟩ := okWs_parts h
    have := preW_len h3 d.length (Nat.le_refl _)
    rw [preW_end h] at this
    omega
end Go.Proofs.YtljkojpooajlhaaGreatDoor

/- Lists of strings of a call's own, and the texts of trees in them. -/
namespace Go.Proofs.YtljkojpooajlhaaGreatDoor
open Go Go.RowKit

abbrev OwnS (w : World) (base : Nat) (v : Value) (l : List ByteArray) : Prop := OwnL strE (fun _ => False) w base 9 v l
theorem infoStr : (Tryz.prog.info? 9).map (fun i => (i.zero, i.size, i.bytes)) = some (some (.string ByteArray.empty), 1, 16) := by kernel_rfl
theorem OwnS.strs {w : World} {base : Nat} {v : Value} {l : List ByteArray} (h : OwnS w base v l) : ∃ a c, v = .slice a l.length c ∧ Sl strE (fun b => base ≤ b) w a c l := by
  obtain ⟨a, c, rfl, hI⟩ := OwnL.sl h
  exact ⟨a, c, rfl, hI.weak (fun b hb => hb.elim id False.elim)⟩
theorem Sl.str {S : Nat → Prop} {w : World} {a : Option Addr} {c : Nat} {l : List ByteArray} (h : Sl strE S w a c l) (i : Nat) (hi : i < l.length) :
    ∃ b off, a = some ⟨b, off, none⟩ ∧ S b ∧ w.cell? ⟨b, off + i, none⟩ = some (.string l[i]) ∧ l[i].size ≤ big := by
  obtain ⟨b, off, ha, hb, _, vs, _, hv, hr⟩ := h.at1 i hi
  obtain ⟨rfl, hx⟩ := hr
  have := hv 0 (by simp)
  simp [strE] at this
  exact ⟨b, off, ha, hb, this, hx⟩
/-- a tree's text, or nothing where it is too long -/
def outB (t : Tr) : ByteArray := if t.text.length ≤ 65536 then ⟨t.text.toArray⟩ else ByteArray.empty
def outsT (ts : List Tr) : List ByteArray := ts.map outB
theorem outB_le (t : Tr) : (outB t).size ≤ 65536 := by
  unfold outB
  split
  · exact ‹_›
  · exact Nat.zero_le _
theorem outB_big {t : Tr} (h : 65536 < minT t) : outB t = ByteArray.empty := by
  unfold outB
  have : 65536 < t.text.length := by unfold minT at h; omega
  rw [if_neg (by omega)]
theorem outB_bytes {t : Tr} (h : minT t ≤ 65536) : (outB t).data.toList = t.text := by
  unfold outB
  have : t.text.length ≤ 65536 := by unfold minT at h; omega
  rw [if_pos this]
theorem outB_eq {t : Tr} {b : ByteArray} (h : minT t ≤ 65536) (hb : b.data.toList = t.text) : b = outB t := by
  rw [← outB_bytes h] at hb
  exact ByteArray.ext (Array.toList_inj.1 hb)
theorem outB_g {n : Nat} (hn : n < 100) : (⟨#[103]⟩ : ByteArray) ++ (tens.extract (n / 10) (n / 10 + 1) ++ tens.extract (n % 10) (n % 10 + 1)) = outB (.g n) := by
  refine outB_eq (by rw [minT_g]; omega) ?_
  rw [ByteArray.data_append, Array.toList_append, two_bytes n hn]
  rfl
theorem outB_d {a b : Tr} (h : minT (.d a b) ≤ 65536) : (⟨#[68]⟩ : ByteArray) ++ outB a ++ outB b = outB (.d a b) := by
  have h2 := minT_d a b
  refine outB_eq h ?_
  rw [ByteArray.data_append, ByteArray.data_append, Array.toList_append, Array.toList_append, outB_bytes (by omega), outB_bytes (by omega)]
  simp [Tr.text]
theorem outsT_len (ts : List Tr) (i : Nat) (h : i ≤ ts.length) : (outsT (ts.take i)).length = i := by unfold outsT; rw [List.length_map, List.length_take]; omega
theorem outsT_succ {ts : List Tr} {i : Nat} (h : i < ts.length) : outsT (ts.take (i + 1)) = outsT (ts.take i) ++ [outB (ts.getD i (.g 0))] := by
  unfold outsT
  rw [List.take_succ_eq_append_getElem h, List.map_append, List.getD_eq_getElem?_getD, List.getElem?_eq_getElem h]
  rfl
theorem outsT_get {ts : List Tr} {i m : Nat} (h : i ≤ ts.length) (hm : m < i) (hl : m < (outsT (ts.take i)).length) : (outsT (ts.take i))[m] = outB (ts.getD m (.g 0)) := by
  have e : (outsT (ts.take i))[m]? = some (outB (ts.getD m (.g 0))) := by
    unfold outsT
    rw [List.getElem?_map, List.getElem?_take_of_lt hm, List.getD_eq_getElem?_getD, List.getElem?_eq_getElem (by omega)]
    rfl
  rw [List.getElem?_eq_getElem hl] at e
  exact Option.some.inj e
theorem lensT_last {ts : List Tr} {i : Nat} (hi : i < ts.length) (hl : i < (lensT ts).length) : (lensT ts)[i] = (minT (ts.getD i (.g 0)) : Int) := by
  have e : (lensT ts)[i]? = some (minT (ts.getD i (.g 0)) : Int) := by
    unfold lensT
    rw [List.getElem?_map, List.getD_eq_getElem?_getD, List.getElem?_eq_getElem hi]
    rfl
  rw [List.getElem?_eq_getElem hl] at e
  exact Option.some.inj e
end Go.Proofs.YtljkojpooajlhaaGreatDoor

/- Walks: lemmaryref01.Number. -/
namespace Go.Proofs.YtljkojpooajlhaaGreatDoor
open Go Go.RowKit

theorem numR_parts (l : List UInt8) : (((bodyL l).length < 1 ∨ 18 < (bodyL l).length) → numR l = none) ∧
    (¬ ((bodyL l).length < 1 ∨ 18 < (bodyL l).length) → (∀ m, Lib.decFrom 0 (bodyL l) = some m → numR l = if Lib.itoa (sgnL l m) = l then some (sgnL l m) else none) ∧ (Lib.decFrom 0 (bodyL l) = none → numR l = none)) := by
  refine ⟨fun h => by unfold numR; rw [if_pos h], fun h => ⟨fun m hm => ?_, fun hm => ?_⟩⟩
  · unfold numR; rw [if_neg h, hm]
  · unfold numR; rw [if_neg h, hm]
set_option maxRecDepth 100000 in
set_option maxHeartbeats 4000000 in
theorem Number_any (s : ByteArray) (hs : s.size ≤ 65536) (w : World) : Calls Tryz.prog 17 #[.string s] w (retN s.data.toList w) := by
  obtain ⟨np1, np2⟩ := numR_parts s.data.toList
  by_cases hs0 : s.size = 0
  · have hse : s = ByteArray.empty := by
      refine ByteArray.ext (Array.eq_empty_of_size_eq_zero ?_)
      exact hs0
    subst hse
    have hnoneH := Lib.hid (show numR (ByteArray.empty).data.toList = none from rfl)
    clear np1 np2
    go_enter Tryz.func17, Tryz.ntmps17
    go_wp2_with fail
    all_goals go_ret2
    all_goals exact ⟨0, by rw [hnoneH.out]; rfl, fun m hm => by (rw [hnoneH.out] at hm; cases hm), by unfold inRange; omega, rfl⟩
  have h0 : 0 < s.size := by omega
  have gs : ((0 : Int) < (s.size : Int)) = True := eq_true (by omega)
  have hh : s.data.toList.head? = some (s[0]'h0) := by
    have := data_get h0
    rw [List.head?_eq_getElem?]; exact this
  by_cases h45 : s[0]'h0 = 45
  · have hq45 : (((s[0]'h0).toNat : Int) == 45) = true := by rw [h45]; rfl
    rw [h45] at hh
    have hbo0 : bodyL s.data.toList = (s.extract 1 s.size).data.toList := by
      unfold bodyL; rw [if_pos hh]
      rw [ByteArray.data_extract, Array.toList_extract]
      rw [show (s.data.toList.extract 1 s.size) = s.data.toList.tail from ?_]
      rw [List.extract_eq_take_drop, List.drop_one, List.take_of_length_le]
      rw [List.length_tail, Array.length_toList]; exact Nat.le_refl _
    have hsg : ∀ m, sgnL s.data.toList m = -(m : Int) := fun m => by unfold sgnL; rw [if_pos hh]
    obtain ⟨b, hbe⟩ : ∃ b, s.extract 1 s.size = b := ⟨_, rfl⟩
    have hbs : b.size = s.size - 1 := by rw [← hbe, ByteArray.size_extract]; omega
    rw [hbe] at hbo0
    have hnone : ((bodyL s.data.toList).length < 1 ∨ 18 < (bodyL s.data.toList).length) → numR s.data.toList = none := np1
    have hbo := hbo0
    have hval : ¬ ((bodyL s.data.toList).length < 1 ∨ 18 < (bodyL s.data.toList).length) → (∀ m : Nat, Lib.decFrom 0 b.data.toList = some m → numR s.data.toList = if Lib.itoa (-(m : Int)) = s.data.toList then some (-(m : Int)) else none) ∧ (Lib.decFrom 0 b.data.toList = none → numR s.data.toList = none) := fun h => by
      have := np2 h
      rw [hbo] at this
      exact ⟨fun m hm => by have := this.1 m hm; rwa [hsg] at this, this.2⟩
    have glt : ((b.size : Int) < (s.size : Int)) = True := eq_true (by omega)
    clear np1 np2 hsg hh hbo0 h45
    go_enter Tryz.func17, Tryz.ntmps17
    go_upto_region 4 with fail
    try rw [hbe]
    clear hbe hbs
    have hbl : b.data.toList.length = b.size := by have : b.size = b.data.size := rfl; rw [Array.length_toList, this]
    by_cases hb1 : b.size < 1
    · have g1 : ((b.size : Int) < 1) = True := eq_true (by omega)
      have hnoneH := Lib.hid (hnone (by rw [hbo, hbl]; exact .inl hb1))
      clear hnone hval
      go_wp2_with fail
      all_goals go_ret2
      all_goals exact ⟨0, by rw [hnoneH.out]; rfl, fun m hm => by (rw [hnoneH.out] at hm; cases hm), by unfold inRange; omega, rfl⟩
    have g1 : ((b.size : Int) < 1) = False := eq_false (by omega)
    by_cases hb2 : 18 < b.size
    · have g2 : (18 < (b.size : Int)) = True := eq_true (by omega)
      have hnoneH := Lib.hid (hnone (by rw [hbo, hbl]; exact .inr hb2))
      clear hnone hval
      go_wp2_with fail
      all_goals go_ret2
      all_goals exact ⟨0, by rw [hnoneH.out]; rfl, fun m hm => by (rw [hnoneH.out] at hm; cases hm), by unfold inRange; omega, rfl⟩
    have g2 : (18 < (b.size : Int)) = False := eq_false (by omega)
    have hvalH := Lib.hid (hval (by rw [hbo, hbl]; omega))
    clear hnone hval
    go_wp2_with fail
    go_loopw [5, 6] (fun nV iV wr => nbR b w nV iV wr) (fun _ iV _ => b.size - (intOf iV).toNat)
    case atStart => exact ⟨0, 0, rfl, rfl, Nat.zero_le _, rfl, by decide, rfl⟩
    case round =>
      obtain ⟨k, m, rfl, rfl, hk, hdf, hmk, hww⟩ := hrel
      subst hww
      by_cases hlt : k < b.size
      · have hget := data_get hlt
        have hcn := (b[k]'hlt).toNat_lt
        have hm18 : m < 1000000000000000000 := Nat.lt_of_lt_of_le hmk (Nat.le_trans (Nat.pow_le_pow_right (n := 10) (by decide) (show _ ≤ 18 by omega)) (by decide))
        have hkl : ((k : Int) < (b.size : Int)) = True := eq_true (by omega)
        by_cases hc1 : (b[k]'hlt).toNat < 48
        · have hnoneH := Lib.hid ((hvalH.out).2 (decFrom_bad _ 0 k _ hget (digitVal_no (.inl hc1))))
          have c1 : (((b[k]'hlt).toNat : Int) < 48) = True := eq_true (by omega)
          clear hdf hget
          go_wp2_with fail
          all_goals go_ret2
          all_goals exact ⟨0, by rw [hnoneH.out]; rfl, fun m hm => by (rw [hnoneH.out] at hm; cases hm), by unfold inRange; omega, rfl⟩
        have c1 : (((b[k]'hlt).toNat : Int) < 48) = False := eq_false (by omega)
        by_cases hc2 : 57 < (b[k]'hlt).toNat
        · have hnoneH := Lib.hid ((hvalH.out).2 (decFrom_bad _ 0 k _ hget (digitVal_no (.inr hc2))))
          have c2 : (57 < ((b[k]'hlt).toNat : Int)) = True := eq_true (by omega)
          clear hdf hget
          go_wp2_with fail
          all_goals go_ret2
          all_goals exact ⟨0, by rw [hnoneH.out]; rfl, fun m hm => by (rw [hnoneH.out] at hm; cases hm), by unfold inRange; omega, rfl⟩
        have c2 : (57 < ((b[k]'hlt).toNat : Int)) = False := eq_false (by omega)
        have hnx := Lib.decFrom_take _ k 0 m _ _ hdf hget (digitVal_yes (by omega) (by omega))
        have hm17 : m < 100000000000000000 := Nat.lt_of_lt_of_le hmk (Nat.le_trans (Nat.pow_le_pow_right (n := 10) (by decide) (show k ≤ 17 by omega)) (by decide))
        have hw8 : ∀ z : Int, 0 ≤ z → z < 256 → IntKind.u8.wrap z = z := fun z h0 h1 => by
          unfold IntKind.wrap
          simp [IntKind.signed, IntKind.bits]
          omega
        have hu : IntKind.u8.wrap (((b[k]'hlt).toNat : Int) - 48) = (((b[k]'hlt).toNat - 48 : Nat) : Int) := by rw [hw8 _ (by omega) (by omega)]; omega
        obtain ⟨d, hd⟩ : ∃ d, (b[k]'hlt).toNat - 48 = d := ⟨_, rfl⟩
        have hd9 : d ≤ 9 := by omega
        rw [hd] at hu hnx
        have hw2 : IntKind.i64.wrap (10 * (m : Int)) = 10 * (m : Int) := IntWalk.i64_in _ (by omega)
        have hw3 : IntKind.i64.wrap (d : Int) = (d : Int) := IntWalk.i64_in _ (by omega)
        have hw4 : IntKind.i64.wrap (10 * (m : Int) + (d : Int)) = 10 * (m : Int) + (d : Int) := IntWalk.i64_in _ (by omega)
        have hrel : nbR b wr (.int .i64 (10 * (m : Int) + (d : Int))) (.int .i64 ((k : Int) + 1)) wr := ⟨k + 1, m * 10 + d, by go_num, by congr 1; omega, by omega, hnx, by rw [Nat.pow_succ]; omega, rfl⟩
        have hrelH := Lib.hid hrel
        clear hrel hdf hget hnx hd
        go_wp2_with fail
        all_goals go_roundw
        all_goals first | exact hrelH.out | (simp [intOf]; done) | (simp [intOf]; omega)
      · obtain rfl : k = b.size := by omega
        rw [List.take_of_length_le (by rw [hbl]; exact Nat.le_refl _)] at hdf
        have hm18 : m < 1000000000000000000 := Nat.lt_of_lt_of_le hmk (Nat.le_trans (Nat.pow_le_pow_right (n := 10) (by decide) (show _ ≤ 18 by omega)) (by decide))
        have hv := (hvalH.out).1 m hdf
        have ct := fun W => Digits_any (-(m : Int)) (by omega) (by omega) W
        obtain ⟨ds, hds⟩ : ∃ ds : ByteArray, (⟨(Lib.itoa (-(m : Int))).toArray⟩ : ByteArray) = ds := ⟨_, rfl⟩
        simp only [hds] at ct
        have hdb : ds.data.toList = Lib.itoa (-(m : Int)) := by rw [← hds]
        have ctH := Lib.hid ct
        have hw1 : IntKind.i64.wrap (-(m : Int)) = -(m : Int) := IntWalk.i64_in _ (by omega)
        clear ct hds hdf
        by_cases hes : ds = s
        · have hv2 : numR s.data.toList = some (-(m : Int)) := by rw [hv, if_pos (by rw [← hes, hdb])]
          have hq := str_eq hes
          have hv2H := Lib.hid hv2
          clear hv hv2 hdb hes
          go_wp2_with fail
          refine (ctH.out _).mono ?_
          rintro e w2 ⟨rfl, rfl⟩
          go_wp2_with fail
          all_goals go_ret2
          all_goals exact ⟨(-(m : Int)), by (simp only [hv2H.out]; rfl), fun m' hm => by (rw [hv2H.out] at hm; exact Option.some.inj hm), by unfold inRange; omega, rfl⟩
        · have hv2 : numR s.data.toList = none := by rw [hv, if_neg (fun e => hes (ByteArray.ext (Array.toList_inj.1 (by rw [hdb, e]))))]
          have hq := str_neq hes
          have hv2H := Lib.hid hv2
          clear hv hv2 hdb
          go_wp2_with fail
          refine (ctH.out _).mono ?_
          rintro e w2 ⟨rfl, rfl⟩
          go_wp2_with fail
          all_goals go_ret2
          all_goals exact ⟨(-(m : Int)), by (simp only [hv2H.out]; rfl), fun m' hm => by (rw [hv2H.out] at hm; cases hm), by unfold inRange; omega, rfl⟩
  · have hq45 : (((s[0]'h0).toNat : Int) == 45) = false := by
      rw [beq_eq_false_iff_ne]; intro e; exact h45 (UInt8.toNat_inj.1 (by show (s[0]'h0).toNat = 45; omega))
    have hn45 : ¬ s.data.toList.head? = some 45 := fun e => by rw [hh] at e; exact h45 (Option.some.inj e)
    have hbo0 : bodyL s.data.toList = s.data.toList := by unfold bodyL; rw [if_neg hn45]
    have hsg : ∀ m, sgnL s.data.toList m = (m : Int) := fun m => by unfold sgnL; rw [if_neg hn45]
    obtain ⟨b, hbe⟩ : ∃ b, b = s := ⟨s, rfl⟩
    have hnone : ((bodyL s.data.toList).length < 1 ∨ 18 < (bodyL s.data.toList).length) → numR s.data.toList = none := np1
    have hbo : bodyL s.data.toList = b.data.toList := by rw [hbe]; exact hbo0
    have hval : ¬ ((bodyL s.data.toList).length < 1 ∨ 18 < (bodyL s.data.toList).length) → (∀ m : Nat, Lib.decFrom 0 b.data.toList = some m → numR s.data.toList = if Lib.itoa (m : Int) = s.data.toList then some (m : Int) else none) ∧ (Lib.decFrom 0 b.data.toList = none → numR s.data.toList = none) := fun h => by
      have := np2 h
      rw [hbo] at this
      exact ⟨fun m hm => by have := this.1 m hm; rwa [hsg] at this, this.2⟩
    have glt : ((b.size : Int) < (b.size : Int)) = False := eq_false (by omega)
    clear np1 np2 hsg hh hbo0 h45 hn45
    go_enter Tryz.func17, Tryz.ntmps17
    go_upto_region 4 with fail
    subst hbe
    have hbl : b.data.toList.length = b.size := by have : b.size = b.data.size := rfl; rw [Array.length_toList, this]
    by_cases hb1 : b.size < 1
    · have g1 : ((b.size : Int) < 1) = True := eq_true (by omega)
      have hnoneH := Lib.hid (hnone (by rw [hbo, hbl]; exact .inl hb1))
      clear hnone hval
      go_wp2_with fail
      all_goals go_ret2
      all_goals exact ⟨0, by rw [hnoneH.out]; rfl, fun m hm => by (rw [hnoneH.out] at hm; cases hm), by unfold inRange; omega, rfl⟩
    have g1 : ((b.size : Int) < 1) = False := eq_false (by omega)
    by_cases hb2 : 18 < b.size
    · have g2 : (18 < (b.size : Int)) = True := eq_true (by omega)
      have hnoneH := Lib.hid (hnone (by rw [hbo, hbl]; exact .inr hb2))
      clear hnone hval
      go_wp2_with fail
      all_goals go_ret2
      all_goals exact ⟨0, by rw [hnoneH.out]; rfl, fun m hm => by (rw [hnoneH.out] at hm; cases hm), by unfold inRange; omega, rfl⟩
    have g2 : (18 < (b.size : Int)) = False := eq_false (by omega)
    have hvalH := Lib.hid (hval (by rw [hbo, hbl]; omega))
    clear hnone hval
    go_wp2_with fail
    go_loopw [5, 6] (fun nV iV wr => nbR b w nV iV wr) (fun _ iV _ => b.size - (intOf iV).toNat)
    case atStart => exact ⟨0, 0, rfl, rfl, Nat.zero_le _, rfl, by decide, rfl⟩
    case round =>
      obtain ⟨k, m, rfl, rfl, hk, hdf, hmk, hww⟩ := hrel
      subst hww
      by_cases hlt : k < b.size
      · have hget := data_get hlt
        have hcn := (b[k]'hlt).toNat_lt
        have hm18 : m < 1000000000000000000 := Nat.lt_of_lt_of_le hmk (Nat.le_trans (Nat.pow_le_pow_right (n := 10) (by decide) (show _ ≤ 18 by omega)) (by decide))
        have hkl : ((k : Int) < (b.size : Int)) = True := eq_true (by omega)
        by_cases hc1 : (b[k]'hlt).toNat < 48
        · have hnoneH := Lib.hid ((hvalH.out).2 (decFrom_bad _ 0 k _ hget (digitVal_no (.inl hc1))))
          have c1 : (((b[k]'hlt).toNat : Int) < 48) = True := eq_true (by omega)
          clear hdf hget
          go_wp2_with fail
          all_goals go_ret2
          all_goals exact ⟨0, by rw [hnoneH.out]; rfl, fun m hm => by (rw [hnoneH.out] at hm; cases hm), by unfold inRange; omega, rfl⟩
        have c1 : (((b[k]'hlt).toNat : Int) < 48) = False := eq_false (by omega)
        by_cases hc2 : 57 < (b[k]'hlt).toNat
        · have hnoneH := Lib.hid ((hvalH.out).2 (decFrom_bad _ 0 k _ hget (digitVal_no (.inr hc2))))
          have c2 : (57 < ((b[k]'hlt).toNat : Int)) = True := eq_true (by omega)
          clear hdf hget
          go_wp2_with fail
          all_goals go_ret2
          all_goals exact ⟨0, by rw [hnoneH.out]; rfl, fun m hm => by (rw [hnoneH.out] at hm; cases hm), by unfold inRange; omega, rfl⟩
        have c2 : (57 < ((b[k]'hlt).toNat : Int)) = False := eq_false (by omega)
        have hnx := Lib.decFrom_take _ k 0 m _ _ hdf hget (digitVal_yes (by omega) (by omega))
        have hm17 : m < 100000000000000000 := Nat.lt_of_lt_of_le hmk (Nat.le_trans (Nat.pow_le_pow_right (n := 10) (by decide) (show k ≤ 17 by omega)) (by decide))
        have hw8 : ∀ z : Int, 0 ≤ z → z < 256 → IntKind.u8.wrap z = z := fun z h0 h1 => by
          unfold IntKind.wrap
          simp [IntKind.signed, IntKind.bits]
          omega
        have hu : IntKind.u8.wrap (((b[k]'hlt).toNat : Int) - 48) = (((b[k]'hlt).toNat - 48 : Nat) : Int) := by rw [hw8 _ (by omega) (by omega)]; omega
        obtain ⟨d, hd⟩ : ∃ d, (b[k]'hlt).toNat - 48 = d := ⟨_, rfl⟩
        have hd9 : d ≤ 9 := by omega
        rw [hd] at hu hnx
        have hw2 : IntKind.i64.wrap (10 * (m : Int)) = 10 * (m : Int) := IntWalk.i64_in _ (by omega)
        have hw3 : IntKind.i64.wrap (d : Int) = (d : Int) := IntWalk.i64_in _ (by omega)
        have hw4 : IntKind.i64.wrap (10 * (m : Int) + (d : Int)) = 10 * (m : Int) + (d : Int) := IntWalk.i64_in _ (by omega)
        have hrel : nbR b wr (.int .i64 (10 * (m : Int) + (d : Int))) (.int .i64 ((k : Int) + 1)) wr := ⟨k + 1, m * 10 + d, by go_num, by congr 1; omega, by omega, hnx, by rw [Nat.pow_succ]; omega, rfl⟩
        have hrelH := Lib.hid hrel
        clear hrel hdf hget hnx hd
        go_wp2_with fail
        all_goals go_roundw
        all_goals first | exact hrelH.out | (simp [intOf]; done) | (simp [intOf]; omega)
      · obtain rfl : k = b.size := by omega
        rw [List.take_of_length_le (by rw [hbl]; exact Nat.le_refl _)] at hdf
        have hm18 : m < 1000000000000000000 := Nat.lt_of_lt_of_le hmk (Nat.le_trans (Nat.pow_le_pow_right (n := 10) (by decide) (show _ ≤ 18 by omega)) (by decide))
        have hv := (hvalH.out).1 m hdf
        have ct := fun W => Digits_any (m : Int) (by omega) (by omega) W
        obtain ⟨ds, hds⟩ : ∃ ds : ByteArray, (⟨(Lib.itoa (m : Int)).toArray⟩ : ByteArray) = ds := ⟨_, rfl⟩
        simp only [hds] at ct
        have hdb : ds.data.toList = Lib.itoa (m : Int) := by rw [← hds]
        have ctH := Lib.hid ct
        have hw1 : IntKind.i64.wrap (-(m : Int)) = -(m : Int) := IntWalk.i64_in _ (by omega)
        clear ct hds hdf
        by_cases hes : ds = b
        · have hv2 : numR b.data.toList = some (m : Int) := by rw [hv, if_pos (by rw [← hes, hdb])]
          have hq := str_eq hes
          have hv2H := Lib.hid hv2
          clear hv hv2 hdb hes
          go_wp2_with fail
          refine (ctH.out _).mono ?_
          rintro e w2 ⟨rfl, rfl⟩
          go_wp2_with fail
          all_goals go_ret2
          all_goals exact ⟨(m : Int), by (simp only [hv2H.out]; rfl), fun m' hm => by (rw [hv2H.out] at hm; exact Option.some.inj hm), by unfold inRange; omega, rfl⟩
        · have hv2 : numR b.data.toList = none := by rw [hv, if_neg (fun e => hes (ByteArray.ext (Array.toList_inj.1 (by rw [hdb, e]))))]
          have hq := str_neq hes
          have hv2H := Lib.hid hv2
          clear hv hv2 hdb
          go_wp2_with fail
          refine (ctH.out _).mono ?_
          rintro e w2 ⟨rfl, rfl⟩
          go_wp2_with fail
          all_goals go_ret2
          all_goals exact ⟨(m : Int), by (simp only [hv2H.out]; rfl), fun m' hm => by (rw [hv2H.out] at hm; cases hm), by unfold inRange; omega, rfl⟩
end Go.Proofs.YtljkojpooajlhaaGreatDoor

/- Walks: lemmaryref01.Words, Numbers. -/
namespace Go.Proofs.YtljkojpooajlhaaGreatDoor
open Go Go.RowKit

theorem wordsB_len (m : UInt8) : ∀ l, (wordsB m l).length ≤ l.length + 1
  | [] => Nat.le_refl _
  | c :: r => by
    have ih := wordsB_len m r
    rw [wordsB]
    split
    · simp; omega
    · split
      · simp
      · rename_i w ws h; rw [h] at ih; simp at ih ⊢; omega
def bts (l : List ByteArray) : List (List UInt8) := l.map fun b => b.data.toList
def wdR (t : ByteArray) (m : UInt8) (w : World) (vO fV iV : Value) (wr : World) : Prop :=
  ∃ (f i : Nat) (out : List ByteArray), fV = .int .i64 f ∧ iV = .int .i64 i ∧ f ≤ i ∧ i ≤ t.size ∧ OwnS wr w.heap.size vO out ∧ bts out ++ wordsB m (t.data.toList.drop f) = wordsB m t.data.toList ∧ m ∉ (t.data.toList.drop f).take (i - f) ∧ Below w.heap.size w wr
def retW (l : List (List UInt8)) (w : World) (e : Ending) (w' : World) : Prop := ∃ v out, e = .returned v ∧ OwnS w' w.heap.size v out ∧ bts out = l ∧ Below w.heap.size w w'
theorem extract_bytes (t : ByteArray) (a b : Nat) : (t.extract a b).data.toList = (t.data.toList.drop a).take (b - a) := by
  rw [ByteArray.data_extract, Array.toList_extract, List.extract_eq_take_drop]
set_option maxRecDepth 100000 in
set_option maxHeartbeats 4000000 in
theorem Words_any (t : ByteArray) (m : UInt8) (hs : t.size ≤ 65536) (w : World) :
    Calls Tryz.prog 16 #[.string t, .int .u8 (m.toNat : Int)] w (retW (wordsB m t.data.toList) w) := by
  have htl : t.data.toList.length = t.size := by have : t.size = t.data.size := rfl; rw [Array.length_toList, this]
  have hwl := wordsB_len m t.data.toList
  have hlH := Lib.hid hwl
  clear hwl
  go_enter Tryz.func16, Tryz.ntmps16
  go_wp2_with fail
  go_loopw [5, 6, 7] (fun vO fV iV wr => wdR t m w vO fV iV wr) (fun _ _ iV _ => t.size - (intOf iV).toNat)
  case atStart => exact ⟨0, 0, [], rfl, rfl, Nat.le_refl _, Nat.zero_le _, .nil _ _ _ _ _, by simp [bts], by simp, Below.refl _ _⟩
  case round =>
    obtain ⟨f, i, out, rfl, rfl, hfi, hi, hO, hw, hno, hB⟩ := hrel
    have hol : out.length ≤ 65537 := by
      have h1 := congrArg List.length hw
      have h2 := hlH.out
      rw [List.length_append] at h1
      unfold bts at h1
      rw [List.length_map] at h1
      omega
    have hsz : (t.extract f i).size ≤ 65536 := by rw [ByteArray.size_extract]; omega
    by_cases hlt : i < t.size
    · have hil : ((i : Int) < (t.size : Int)) = True := eq_true (by omega)
      have hsp : (t.data.toList.drop f).drop (i - f) = (t[i]'hlt) :: t.data.toList.drop (i + 1) := by
        rw [List.drop_drop, show f + (i - f) = i by omega]
        exact drop_cons hlt
      by_cases hm : t[i]'hlt = m
      · have hq : (((t[i]'hlt).toNat : Int) == (m.toNat : Int)) = true := by rw [hm]; simp
        obtain ⟨v', W', hrun, ho, hg, -⟩ := OwnL.push (P := Tryz.prog) (t := 50) (ty := 50) hO Tryz.underlying50 infoStr rfl (vs := [.string (t.extract f i)]) (x := t.extract f i) ⟨rfl, by unfold big; omega⟩ (by omega) (by unfold big; omega) hB.size
        have hrel : wdR t m w v' (.int .i64 ((i : Int) + 1)) (.int .i64 ((i : Int) + 1)) W' := by
          refine ⟨i + 1, i + 1, out ++ [t.extract f i], by go_num, by go_num, Nat.le_refl _, by omega, ho, ?_, by simp, hB.grown hg hB.size (fun k e => (OwnL.lt hO k e).1)⟩
          rw [← hw]
          have h2 : t.data.toList.drop f = (t.data.toList.drop f).take (i - f) ++ m :: t.data.toList.drop (i + 1) := by
            rw [← hm, ← hsp, List.take_append_drop]
          rw [h2, wordsB_at hno]
          unfold bts
          rw [List.map_append, List.append_assoc, List.map_singleton, extract_bytes]
          have h3 : ((List.take (i - f) (List.drop f t.data.toList) ++ m :: List.drop (i + 1) t.data.toList)) = List.drop f t.data.toList := h2.symm
          rfl
        have hrelH := Lib.hid hrel
        clear hrel hO hB hw hno hsp ho hg hol hsz hm
        go_wp2_with (at_builtin; refine wpList_append_run rfl _ _ _ rfl rfl rfl hrun ?_)
        all_goals go_roundw
        all_goals first | exact hrelH.out | (simp [intOf]; done) | (simp [intOf]; omega)
      · have hq : (((t[i]'hlt).toNat : Int) == (m.toNat : Int)) = false := by
          rw [beq_eq_false_iff_ne]; intro e; exact hm (UInt8.toNat_inj.1 (by show (t[i]'hlt).toNat = m.toNat; omega))
        have hrel : wdR t m w u5 (.int .i64 (f : Int)) (.int .i64 ((i : Int) + 1)) wr := by
          refine ⟨f, i + 1, out, rfl, by go_num, by omega, by omega, hO, hw, ?_, hB⟩
          have hl2 : i - f < (t.data.toList.drop f).length := by rw [List.length_drop, htl]; omega
          rw [show i + 1 - f = i - f + 1 by omega, List.take_succ_eq_append_getElem hl2, List.mem_append, List.mem_singleton, not_or]
          refine ⟨hno, fun e => hm ?_⟩
          rw [List.drop_eq_getElem_cons hl2] at hsp
          rw [e]
          exact (List.cons.inj hsp).1.symm
        have hrelH := Lib.hid hrel
        clear hrel hO hB hw hno hsp hol hsz hm
        go_wp2_with fail
        all_goals go_roundw
        all_goals first | exact hrelH.out | (simp [intOf]; done) | (simp [intOf]; omega)
    · obtain rfl : i = t.size := by omega
      rw [List.take_of_length_le (by rw [List.length_drop, htl]; exact Nat.le_refl _)] at hno
      rw [wordsB_no hno] at hw
      obtain ⟨v', W', hrun, ho, hg, -⟩ := OwnL.push (P := Tryz.prog) (t := 50) (ty := 50) hO Tryz.underlying50 infoStr rfl (vs := [.string (t.extract f t.size)]) (x := t.extract f t.size) ⟨rfl, by unfold big; omega⟩ (by omega) (by unfold big; omega) hB.size
      have hfin : retW (wordsB m t.data.toList) w (.returned v') W' := by
        refine ⟨v', _, rfl, ho, ?_, hB.grown hg hB.size (fun k e => (OwnL.lt hO k e).1)⟩
        rw [← hw]
        unfold bts
        rw [List.map_append, List.map_singleton, extract_bytes, List.take_of_length_le (by rw [List.length_drop, htl]; exact Nat.le_refl _)]
      have hfinH := Lib.hid hfin
      clear hfin hO hB hw hno ho hg hol hsz
      go_wp2_with (at_builtin; refine wpList_append_run rfl _ _ _ rfl rfl rfl hrun ?_)
      all_goals go_ret
      all_goals exact hfinH.out
/-! ### Numbers -/
def retNs (l : List (List UInt8)) (w : World) (e : Ending) (w' : World) : Prop :=
  ∃ v ns, e = .returned (.tuple #[v, .bool (l.mapM numR).isSome]) ∧ OwnI w' w.heap.size v ns ∧ (∀ ms, l.mapM numR = some ms → ns = ms) ∧ Below w.heap.size w w'
def nsR (l : List (List UInt8)) (w : World) (vO iV : Value) (wr : World) : Prop :=
  ∃ (k : Nat) (ns : List Int), iV = .int .i64 k ∧ k ≤ l.length ∧ OwnI wr w.heap.size vO ns ∧ ns.length = k ∧ (l.take k).mapM numR = some ns ∧ Below w.heap.size w wr
theorem mapM_snoc {l : List (List UInt8)} {x : List UInt8} : (l ++ [x]).mapM numR = (l.mapM numR).bind fun ns => (numR x).bind fun n => some (ns ++ [n]) := by
  induction l with
  | nil => simp [List.mapM_cons]
  | cons a l ih =>
    rw [List.cons_append, List.mapM_cons, List.mapM_cons, ih]
    cases numR a with
    | none => rfl
    | some v =>
      cases l.mapM numR with
      | none => rfl
      | some vs =>
        cases numR x with
        | none => rfl
        | some u => rfl
theorem mapM_none : ∀ {l : List (List UInt8)} {k : Nat}, (l.take k).mapM numR = none → l.mapM numR = none
  | [], k, h => by simp at h
  | a :: l, 0, h => by simp at h
  | a :: l, k + 1, h => by
    rw [List.take_succ_cons, List.mapM_cons] at h
    rw [List.mapM_cons]
    cases ha : numR a with
    | none => rfl
    | some v =>
      rw [ha] at h
      cases hl : (l.take k).mapM numR with
      | none => rw [mapM_none hl]; rfl
      | some vs => rw [hl] at h; simp at h
end Go.Proofs.YtljkojpooajlhaaGreatDoor

/- Walks: tongue.Format. -/
namespace Go.Proofs.YtljkojpooajlhaaGreatDoor
open Go Go.RowKit Go.Maps

def wayS (d : Ways) : List ByteArray := d.map fun x => toB (wayB x)
theorem wayS_len (d : Ways) : (wayS d).length = d.length := by unfold wayS; rw [List.length_map]
theorem wayS_take {d : Ways} {j : Nat} (hj : j < d.length) : wayS (d.take (j + 1)) = wayS (d.take j) ++ [toB (wayB d[j])] := by
  unfold wayS
  rw [List.take_succ_eq_append_getElem hj, List.map_append]; rfl
theorem wayS_join {d : Ways} (h : okWs d = true) : Lib.join ((wayS d).map (·.data.toList)) [32] = fmtW d := by
  rw [join_joinM]
  unfold fmtW wayS
  rw [if_pos h, List.map_map]
  rfl
theorem fmtW_bad {d : Ways} {x : Int × List Int} (hx : x ∈ d) (h : okW1 x = false) : fmtW d = [] := by
  unfold fmtW
  rw [if_neg]
  intro hc
  have := (okWs_parts hc).2.2 x hx
  rw [h] at this; cases this
theorem okWs_mk {d : Ways} (h1 : 1 ≤ d.length) (h2 : d.length ≤ 12) (h3 : ∀ x ∈ d, okW1 x = true) : okWs d = true := by
  unfold okWs
  rw [decide_eq_true h1, decide_eq_true h2, List.all_eq_true.2 h3]; rfl
theorem fmtW_size {d : Ways} (h : ¬ (1 ≤ d.length ∧ d.length ≤ 12)) : fmtW d = [] := by
  unfold fmtW
  rw [if_neg]
  intro hc
  exact h ⟨(okWs_parts hc).1, (okWs_parts hc).2.1⟩
theorem ba_tlW (b : ByteArray) : b.toList = b.data.toList := by rw [ByteArray.toList_eq]
theorem toB_nil : toB [] = ⟨#[]⟩ := rfl
theorem decsB_succ {l : List Int} {k : Nat} (hk : k < l.length) : decsB (l.take (k + 1)) = decsB (l.take k) ++ Lib.decDigits l[k].toNat := by
  unfold decsB
  rw [List.take_succ_eq_append_getElem hk, List.map_append, List.flatten_append, List.map_cons, List.map_nil, List.flatten_cons, List.flatten_nil, List.append_nil]
def wfRel (d : Ways) (w : World) (o i : Value) (wr : World) : Prop :=
  ∃ j : Nat, i = .int .i64 j ∧ j ≤ d.length ∧ OwnS wr w.heap.size o (wayS (d.take j)) ∧ (∀ x ∈ d.take j, okW1 x = true) ∧ Below w.heap.size w wr
set_option maxRecDepth 100000 in
set_option maxHeartbeats 4000000 in
theorem wFormat_any {S : Nat → Prop} (a : Option Addr) (c : Nat) (d : Ways) (w : World) (h : WaysL S w a c d) :
    Calls Tryz.prog 9 #[.slice a d.length c] w fun e w' => e = .returned (.string (toB (fmtW d))) ∧ Below w.heap.size w w' := by
  have m1 := h.le
  have cw := Lib.hid (fun n lo hi W => twithin_any n lo hi W)
  have hH := Lib.hid h
  clear h
  by_cases hn : 1 ≤ d.length ∧ d.length ≤ 12
  case neg =>
    have hR := Lib.hid (fmtW_size hn)
    have c0 := fun W => cw.out d.length 1 12 W
    rw [show (decide ((1 : Int) ≤ (d.length : Int)) && decide ((d.length : Int) ≤ 12)) = false by simp; omega] at c0
    have c0H := Lib.hid c0
    clear c0 hn
    go_enter Tryz.func9, Tryz.ntmps9
    go_wp2_with fail
    refine (c0H.out _).mono ?_
    rintro e w1 ⟨rfl, rfl⟩
    go_wp2_with fail
    go_ret
    rw [hR.out]
    exact ⟨rfl, .refl _ _⟩
  case pos =>
  have c0 := fun W => cw.out d.length 1 12 W
  rw [show (decide ((1 : Int) ≤ (d.length : Int)) && decide ((d.length : Int) ≤ 12)) = true by simp; omega] at c0
  have c0H := Lib.hid c0
  have hnH := Lib.hid hn
  clear c0 hn
  go_enter Tryz.func9, Tryz.ntmps9
  go_wp2_with fail
  refine (c0H.out _).mono ?_
  rintro e w1 ⟨rfl, rfl⟩
  go_wp2_with fail
  go_loopw [3, 15] (fun o i wr => wfRel d w o i wr) (fun _ i _ => d.length - (intOf i).toNat)
  case atStart => exact ⟨0, rfl, Nat.zero_le _, .nil _ _ _ _ _, (fun x h => by simp at h), .refl _ _⟩
  case round =>
    obtain ⟨j, rfl, hj, hO, hall, hB⟩ := hrel
    by_cases hlt : j < d.length
    · obtain ⟨b, o2, aI, cI, rfl, -, q0, q1, hr, hI⟩ := (hH.out.below hB).way j hlt
      have hmI := hI.le
      have htk := wayS_take hlt
      have hbad := fun (h : okW1 d[j] = false) => fmtW_bad (List.getElem_mem hlt) h
      have hall' : okW1 d[j] = true → ∀ x ∈ d.take (j + 1), okW1 x = true := fun h x hx => by
        rw [List.take_succ_eq_append_getElem hlt, List.mem_append, List.mem_singleton] at hx
        rcases hx with hx | hx
        · exact hall x hx
        · rw [hx]; exact h
      obtain ⟨y, hy⟩ : ∃ y, d[j] = y := ⟨_, rfl⟩
      rw [hy] at q0 q1 hr hI htk hbad hall' hmI
      obtain ⟨T, L⟩ := y
      simp only at q0 q1 hr hI hmI
      obtain ⟨W1, hW1⟩ : ∃ W1, wr.alloc (.cells #[.int .i64 T, .slice aI L.length cI] 33) = W1 := ⟨_, rfl⟩
      have hb1 : Below wr.heap.size wr W1 := by rw [← hW1]; exact below1 _ _
      have hx0 : W1.cell? ⟨wr.heap.size, 0, none⟩ = some (.int .i64 T) := by rw [← hW1]; clear hW1; go_simp
      have hx1 : W1.cell? ⟨wr.heap.size, 1, none⟩ = some (.slice aI L.length cI) := by rw [← hW1]; clear hW1; go_simp
      have hI1 := hI.below hb1
      have hB1 := bcall hB hb1
      have hO1 := OwnL.call hO hb1
      have hWz : wr.heap.size < W1.heap.size := by rw [← hW1]; simp
      have cT := fun W => cw.out T 0 11 W
      have co : L.length ≤ 3 → ∀ W, Below W1.heap.size W1 W → Calls Tryz.prog 21 #[.slice aI L.length cI] W fun e w' => e = .returned (.bool (ordB L)) ∧ Below W.heap.size W w' := fun h3 W hb => order_any aI cI L W (hI1.below hb) (by omega)
      have hallH := Lib.hid hall'
      have hbadH := Lib.hid hbad
      have htkH := Lib.hid htk
      have hB1H := Lib.hid hB1
      have hO1H := Lib.hid hO1
      have hI1H := Lib.hid hI1
      have hWH := Lib.hid hW1
      have hBH := Lib.hid hB
      clear hall hall' hbad htk hB1 hO1 hI1 hI hO hb1 hy hW1 hB
      by_cases hT : 0 ≤ T ∧ T ≤ 11
      case neg =>
        rw [show (decide ((0 : Int) ≤ T) && decide (T ≤ 11)) = false by simp; omega] at cT
        have cTH := Lib.hid cT
        have hR := Lib.hid (hbadH.out (by unfold okW1; rw [show (decide ((0 : Int) ≤ T) && decide (T ≤ 11)) = false by simp; omega]; rfl))
        clear cT hT co
        go_wp2_with fail
        try rw [hWH.out]
        refine (cTH.out _).mono ?_
        rintro e w3 ⟨rfl, rfl⟩
        go_wp2_with fail
        go_ret
        rw [hR.out]
        exact ⟨rfl, hB1H.out⟩
      case pos =>
      rw [show (decide ((0 : Int) ≤ T) && decide (T ≤ 11)) = true by simp; omega] at cT
      have cTH := Lib.hid cT
      clear cT
      by_cases h3 : L.length ≤ 3
      case neg =>
        have hR := Lib.hid (hbadH.out (by unfold okW1; rw [decide_eq_false h3]; simp))
        have h3i : ((3 : Int) < (L.length : Int)) = True := eq_true (by omega)
        clear hT co h3
        go_wp2_with fail
        try rw [hWH.out]
        refine (cTH.out _).mono ?_
        rintro e w3 ⟨rfl, rfl⟩
        go_wp2_with fail
        go_ret
        rw [hR.out]
        exact ⟨rfl, hB1H.out⟩
      case pos =>
      have h3i : ((3 : Int) < (L.length : Int)) = False := eq_false (by omega)
      have co := co h3
      cases ho : ordB L with
      | false =>
        simp only [ho] at co
        have coH := Lib.hid co
        have hR := Lib.hid (hbadH.out (by unfold okW1; rw [show ordB (T, L).2 = false from ho]; simp))
        clear co ho hT h3
        go_wp2_with fail
        try rw [hWH.out]
        refine (cTH.out _).mono ?_
        rintro e w3 ⟨rfl, rfl⟩
        go_wp2_with fail
        refine (coH.out _ (.refl _ _)).mono ?_
        rintro e w4 ⟨rfl, hb4⟩
        go_wp2_with fail
        go_ret
        rw [hR.out]
        exact ⟨rfl, bcall hB1H.out hb4⟩
      | true =>
        simp only [ho] at co
        have coH := Lib.hid co
        have hokx : okW1 (T, L) = true := by unfold okW1; rw [decide_eq_true hT.1, decide_eq_true hT.2, decide_eq_true h3, show ordB (T, L).2 = true from ho]; rfl
        have hlt3 := ord_lt3 ho h3
        have hokH := Lib.hid hokx
        have hlt3H := Lib.hid hlt3
        obtain ⟨v, hv⟩ : ∃ v : Nat, T = (v : Int) := ⟨T.toNat, by omega⟩
        subst hv
        have hv12 : v < 12 := by omega
        clear co ho hT hokx hlt3
        go_wp2_with fail
        try rw [hWH.out]
        refine (cTH.out _).mono ?_
        rintro e w3 ⟨rfl, rfl⟩
        go_wp2_with fail
        refine (coH.out _ (.refl _ _)).mono ?_
        rintro e w4 ⟨rfl, hb4⟩
        have hx04 := cell_later hb4 hx0
        have hx14 := cell_later hb4 hx1
        have hI4 := Lib.hid (hI1H.out.below hb4)
        have hB4 := Lib.hid (bcall hB1H.out hb4)
        have hO4 := Lib.hid (OwnL.call hO1H.out hb4)
        have hWz4 : wr.heap.size < w4.heap.size := by have := hb4.size; omega
        clear hb4 hx0 hx1 hI1H hB1H hO1H hWz
        go_wp2_with fail
        --inner
        go_loopw [6, 38] (fun s i wr2 => ∃ k : Nat, i = .int .i64 k ∧ k ≤ L.length ∧ s = .string (toB (decsB (L.take k))) ∧ w4 = wr2) (fun _ i _ => L.length - (intOf i).toNat)
        case atStart => exact ⟨0, rfl, Nat.zero_le _, rfl, rfl⟩
        case round =>
          obtain ⟨k, rfl, hk, rfl, rfl⟩ := hrel
          by_cases hk2 : k < L.length
          · obtain ⟨b5, o5, rfl, -, p5, -⟩ := hI4.out.int k hk2
            have h33 := hlt3H.out L[k] (List.getElem_mem hk2)
            have hsn := decsB_succ hk2
            have hPl : (decsB (L.take k)).length ≤ 3 := by
              rw [decs_len (fun x hx => hlt3H.out x (List.mem_of_mem_take hx)), List.length_take]; omega
            obtain ⟨u, hu⟩ : ∃ u : Nat, L[k] = (u : Int) := ⟨L[k].toNat, by omega⟩
            rw [hu] at p5 hsn h33
            have ci := Lib.hid (fun W => Itoa_small u (by omega) W)
            have hDl := dec_len (v := u) (by omega)
            obtain ⟨D, hD⟩ : ∃ D : ByteArray, (⟨(Lib.decDigits u).toArray⟩ : ByteArray) = D := ⟨_, rfl⟩
            have hDs : D.size ≤ 2 := by rw [← hD]; exact hDl
            have hPs : (toB (decsB (L.take k))).size ≤ 3 := by rw [toB_size]; exact hPl
            obtain ⟨P, hP⟩ : ∃ P, toB (decsB (L.take k)) = P := ⟨_, rfl⟩
            rw [hP] at hPs
            have hcat : P ++ D = toB (decsB (L.take (k + 1))) := by
              rw [hsn, ← hP, ← hD, show ((u : Int).toNat) = u from by simp, ← toB_append]; rfl
            have hcatH := Lib.hid hcat
            have hDH := Lib.hid hD
            have s1 : (9223372036854775807 < P.size + D.size) = False := eq_false (by omega)
            rw [hP]
            clear hcat hD hP hsn hPl hDl hu
            go_wp2_with fail
            (with_reducible refine (ci.out _).mono ?_)
            rintro e w6 ⟨rfl, rfl⟩
            rw [hDH.out]
            go_wp2_with fail
            go_roundw
            case rel => exact ⟨k + 1, by go_num, hk2, by rw [hcatH.out], by first | rfl | trivial⟩
            case measure => simp [intOf]; omega
          · have hkk : k = L.length := by omega
            have hAll : L.take k = L := by rw [hkk, List.take_length]
            rw [hAll]
            have hDl := dec_len (v := v) (by omega)
            obtain ⟨D, hD⟩ : ∃ D : ByteArray, (⟨(Lib.decDigits v).toArray⟩ : ByteArray) = D := ⟨_, rfl⟩
            have hDs : D.size ≤ 2 := by rw [← hD]; exact hDl
            have hAl := (argB_len hlt3H.out h3).2
            obtain ⟨A, hA⟩ : ∃ A, toB (argB L) = A := ⟨_, rfl⟩
            have hAs : A.size ≤ 3 := by rw [← hA, toB_size]; exact hAl
            have hkn : ((k : Int) < (L.length : Int)) = False := eq_false (by omega)
            clear hDl hAl hAll
            have hcat : (D ++ (⟨#[58]⟩ : ByteArray)) ++ A = toB (wayB ((v : Int), L)) := by
              rw [← hD, ← hA]
              show toB (Lib.decDigits v) ++ toB [58] ++ toB (argB L) = _
              rw [toB_append, toB_append]
              unfold wayB
              simp
            have h12 := hnH.out.2
            obtain ⟨v', W', hrun, ho', hg, -⟩ := OwnL.push (P := Tryz.prog) (t := 50) (ty := 50) hO4.out Tryz.underlying50 infoStr rfl (vs := [.string ((D ++ (⟨#[58]⟩ : ByteArray)) ++ A)]) (x := (D ++ (⟨#[58]⟩ : ByteArray)) ++ A) ⟨rfl, by rw [ByteArray.size_append, ByteArray.size_append]; unfold big; show D.size + 1 + A.size ≤ _; omega⟩ (by rw [wayS_len, List.length_take]; omega) (by rw [wayS_len, List.length_take]; unfold big; omega) hB4.out.size
            rw [hcat, ← htkH.out] at ho'
            have hrel : wfRel d w v' (.int .i64 ((j : Int) + 1)) W' := ⟨j + 1, by go_num, hlt, ho', hallH.out hokH.out, hB4.out.grown hg hB4.out.size (fun k e => (OwnL.lt hO4.out k e).1)⟩
            have hrelH := Lib.hid hrel
            have hrunH := Lib.hid hrun
            have cv := Lib.hid (fun W => Itoa_small v (by omega) W)
            have s1 : (9223372036854775807 < D.size + 1) = False := eq_false (by omega)
            have s2 : (9223372036854775807 < D.size + 1 + A.size) = False := eq_false (by omega)
            have hDH := Lib.hid hD
            have hAH := Lib.hid hA
            clear hrel ho' hg hcat hrun hD hA
            by_cases hL : L = []
            · have hz : toB (decsB L) = ⟨#[]⟩ := by rw [hL]; rfl
              have hA2 : A = ⟨#[45]⟩ := by rw [← hAH.out, hL]; rfl
              rw [hz]
              have hkkH := Lib.hid hkk
              have hk2H := Lib.hid hk2
              subst hA2
              clear hz hL hkk hk2 hk hAs
              go_wp2_with fail
              (with_reducible refine (cv.out _).mono ?_)
              rintro e w6 ⟨rfl, rfl⟩
              rw [hDH.out]
              go_wp2_with (at_builtin; refine wpList_append_run rfl _ _ _ rfl rfl rfl hrunH.out ?_)
              go_roundw
              case rel => exact hrelH.out
              case measure => simp [intOf]; omega
            · have hz : toB (decsB L) = A := by rw [← hAH.out]; unfold argB; rw [if_neg hL]
              have hne : (A.toList == ([] : List UInt8)) = false := by
                rw [ba_tlW, beq_eq_false_iff_ne, ← hz, toB_list]
                intro e
                have := congrArg List.length e
                rw [decs_len hlt3H.out] at this
                exact hL (List.length_eq_zero_iff.1 (by simpa using this))
              rw [hz]
              have hkkH := Lib.hid hkk
              have hk2H := Lib.hid hk2
              clear hz hL hkk hk2 hk
              go_wp2_with fail
              (with_reducible refine (cv.out _).mono ?_)
              rintro e w6 ⟨rfl, rfl⟩
              rw [hDH.out]
              go_wp2_with (at_builtin; refine wpList_append_run rfl _ _ _ rfl rfl rfl hrunH.out ?_)
              go_roundw
              case rel => exact hrelH.out
              case measure => simp [intOf]; omega
    · have hjj : j = d.length := by omega
      rw [hjj, List.take_length] at hO
      rw [hjj, List.take_length] at hall
      have hok := okWs_mk hnH.out.1 hnH.out.2 hall
      obtain ⟨aO, cO, rfl, hS⟩ := OwnS.strs hO
      have cj := SJoin_any aO cO (wayS d) ⟨#[32]⟩ wr hS (by rw [wayS_len]; have := hnH.out.2; omega) (by rw [show (⟨#[32]⟩ : ByteArray).data.toList = [32] from rfl, wayS_join hok]; have := fmtW_len (d := d); omega)
      rw [show (⟨#[32]⟩ : ByteArray).data.toList = [32] from rfl, wayS_join hok] at cj
      have cjH := Lib.hid cj
      have hBH := Lib.hid hB
      have hjl : ((j : Int) < (d.length : Int)) = False := eq_false (by omega)
      have hjjH := Lib.hid hjj
      have hltH := Lib.hid hlt
      clear cj hS hO hB hall hok hjj hlt hj
      go_wp2_with fail
      (with_reducible refine cjH.out.mono ?_)
      rintro e w2 ⟨rfl, hb2⟩
      go_wp2_with fail
      go_ret
      exact ⟨rfl, bcall hBH.out hb2⟩
end Go.Proofs.YtljkojpooajlhaaGreatDoor

/- Walks: lemmaryref03.Format. -/
namespace Go.Proofs.YtljkojpooajlhaaGreatDoor
open Go Go.RowKit Go.Maps

def rwfRel (d : Ways) (w : World) (s i : Value) (wr : World) : Prop :=
  ∃ j : Nat, i = .int .i64 j ∧ j ≤ d.length ∧ s = .string (toB (preW d j)) ∧ (∀ x ∈ d.take j, okW1 x = true) ∧ Below w.heap.size w wr
set_option maxRecDepth 100000 in
set_option maxHeartbeats 8000000 in
theorem rwFormat_any {S : Nat → Prop} (a : Option Addr) (c : Nat) (d : Ways) (w : World) (h : WaysL S w a c d) :
    Calls Tryz.prog 11 #[.slice a d.length c] w fun e w' => e = .returned (.string (toB (fmtW d))) ∧ Below w.heap.size w w' := by
  have m1 := h.le
  have cw := Lib.hid (fun n lo hi W => r3within_any n lo hi W)
  have hH := Lib.hid h
  clear h
  by_cases hn : 1 ≤ d.length ∧ d.length ≤ 12
  case neg =>
    have hR := Lib.hid (fmtW_size hn)
    have c0 := fun W => cw.out d.length 1 12 W
    rw [show (decide ((1 : Int) ≤ (d.length : Int)) && decide ((d.length : Int) ≤ 12)) = false by simp; omega] at c0
    have c0H := Lib.hid c0
    clear c0 hn
    go_enter Tryz.func11, Tryz.ntmps11
    go_wp2_with fail
    refine (c0H.out _).mono ?_
    rintro e w1 ⟨rfl, rfl⟩
    go_wp2_with fail
    go_ret
    rw [hR.out]
    exact ⟨rfl, .refl _ _⟩
  case pos =>
  have c0 := fun W => cw.out d.length 1 12 W
  rw [show (decide ((1 : Int) ≤ (d.length : Int)) && decide ((d.length : Int) ≤ 12)) = true by simp; omega] at c0
  have c0H := Lib.hid c0
  have hnH := Lib.hid hn
  clear c0 hn
  go_enter Tryz.func11, Tryz.ntmps11
  go_wp2_with fail
  refine (c0H.out _).mono ?_
  rintro e w1 ⟨rfl, rfl⟩
  go_wp2_with fail
  go_loopw [3, 4] (fun s i wr => rwfRel d w s i wr) (fun _ i _ => d.length - (intOf i).toNat)
  case atStart => exact ⟨0, rfl, Nat.zero_le _, rfl, (fun x h => by simp at h), .refl _ _⟩
  case round =>
    obtain ⟨j, rfl, hj, rfl, hall, hB⟩ := hrel
    have h12 := hnH.out.2
    by_cases hlt : j < d.length
    · obtain ⟨b, o2, aI, cI, rfl, -, q0, q1, hr, hI⟩ := (hH.out.below hB).way j hlt
      have hmI := hI.le
      have hbad := fun (h : okW1 d[j] = false) => fmtW_bad (List.getElem_mem hlt) h
      have hall' : okW1 d[j] = true → ∀ x ∈ d.take (j + 1), okW1 x = true := fun h x hx => by
        rw [List.take_succ_eq_append_getElem hlt, List.mem_append, List.mem_singleton] at hx
        rcases hx with hx | hx
        · exact hall x hx
        · rw [hx]; exact h
      have hpre := preW_succ hlt
      have hPl : (preW d j).length ≤ 84 := by
        have e : preW d j = preW (d.take j) j := by unfold preW; rw [List.take_take, Nat.min_self]
        have := preW_len hall j (by rw [List.length_take]; omega)
        rw [e]; omega
      obtain ⟨y, hy⟩ : ∃ y, d[j] = y := ⟨_, rfl⟩
      rw [hy] at q0 q1 hr hI hbad hall' hmI hpre
      obtain ⟨T, L⟩ := y
      simp only at q0 q1 hr hI hmI
      have cT := fun W => cw.out T 0 11 W
      have co : ∀ W, Below wr.heap.size wr W → Calls Tryz.prog 27 #[.slice aI L.length cI] W fun e w' => e = .returned (.bool (ordB L)) ∧ W = w' := fun W hb => rorder_any aI cI L W (hI.below hb)
      have hallH := Lib.hid hall'
      have hbadH := Lib.hid hbad
      have hBH := Lib.hid hB
      have hIH := Lib.hid hI
      clear hall hall' hbad hI hy hB
      by_cases hT : 0 ≤ T ∧ T ≤ 11
      case neg =>
        rw [show (decide ((0 : Int) ≤ T) && decide (T ≤ 11)) = false by simp; omega] at cT
        have cTH := Lib.hid cT
        have hR := Lib.hid (hbadH.out (by unfold okW1; rw [show (decide ((0 : Int) ≤ T) && decide (T ≤ 11)) = false by simp; omega]; rfl))
        clear cT hT co hpre hPl
        go_wp2_with fail
        refine (cTH.out _).mono ?_
        rintro e w3 ⟨rfl, rfl⟩
        go_wp2_with fail
        go_ret
        rw [hR.out]
        exact ⟨rfl, hBH.out⟩
      case pos =>
      rw [show (decide ((0 : Int) ≤ T) && decide (T ≤ 11)) = true by simp; omega] at cT
      have cTH := Lib.hid cT
      clear cT
      by_cases h3 : L.length ≤ 3
      case neg =>
        have hR := Lib.hid (hbadH.out (by unfold okW1; rw [decide_eq_false h3]; simp))
        have h3i : ((3 : Int) < (L.length : Int)) = True := eq_true (by omega)
        clear hT co h3 hpre hPl
        go_wp2_with fail
        refine (cTH.out _).mono ?_
        rintro e w3 ⟨rfl, rfl⟩
        go_wp2_with fail
        go_ret
        rw [hR.out]
        exact ⟨rfl, hBH.out⟩
      case pos =>
      have h3i : ((3 : Int) < (L.length : Int)) = False := eq_false (by omega)
      cases ho : ordB L with
      | false =>
        simp only [ho] at co
        have coH := Lib.hid co
        have hR := Lib.hid (hbadH.out (by unfold okW1; rw [show ordB (T, L).2 = false from ho]; simp))
        clear co ho hT h3 hpre hPl
        go_wp2_with fail
        refine (cTH.out _).mono ?_
        rintro e w3 ⟨rfl, rfl⟩
        go_wp2_with fail
        refine (coH.out _ (.refl _ _)).mono ?_
        rintro e w4 ⟨rfl, rfl⟩
        go_wp2_with fail
        go_ret
        rw [hR.out]
        exact ⟨rfl, hBH.out⟩
      | true =>
        simp only [ho] at co
        have coH := Lib.hid co
        have hokx : okW1 (T, L) = true := by unfold okW1; rw [decide_eq_true hT.1, decide_eq_true hT.2, decide_eq_true h3, show ordB (T, L).2 = true from ho]; rfl
        have hlt3 := ord_lt3 ho h3
        have hokH := Lib.hid hokx
        have hlt3H := Lib.hid hlt3
        obtain ⟨v, hv⟩ : ∃ v : Nat, T = (v : Int) := ⟨T.toNat, by omega⟩
        subst hv
        have hv12 : v < 12 := by omega
        have cd := Lib.hid (fun W => digN_any v (by omega) W)
        have hDl := dec_len (v := v) (by omega)
        obtain ⟨D, hD⟩ : ∃ D : ByteArray, (⟨(Lib.decDigits v).toArray⟩ : ByteArray) = D := ⟨_, rfl⟩
        have hDs : D.size ≤ 2 := by rw [← hD]; exact hDl
        clear co ho hT hokx hlt3 hDl
        by_cases hj0 : j = 0
        · have hj0i : ((0 : Int) < (j : Int)) = False := eq_false (by omega)
          have hj0n : (0 < j) = False := eq_false (by omega)
          have hP0 : toB (preW d j) = ⟨#[]⟩ := by rw [hj0]; rfl
          rw [hP0]
          obtain ⟨bl, hbl⟩ : ∃ bl, Lib.decDigits v ++ [58] = bl := ⟨_, rfl⟩
          have hbls := Lib.hid (show bl.length ≤ 100 by
            rw [← hbl, List.length_append, List.length_singleton]
            have : (Lib.decDigits v).length ≤ 2 := dec_len (by omega)
            omega)
          have hst := Lib.hid (show ((⟨#[]⟩ : ByteArray) ++ D) ++ (⟨#[58]⟩ : ByteArray) = toB bl by rw [← hD, ← hbl, ← toB_append]; show ((toB [] ++ toB (Lib.decDigits v)) ++ _ : ByteArray) = _; rw [toB_append, List.nil_append]; rfl)
          have hpreH := Lib.hid (show preW d (j + 1) = bl ++ argB L by rw [hpre, if_pos hj0, ← hbl]; unfold wayB; simp)
          have hDH := Lib.hid hD
          have s1 : (9223372036854775807 < D.size) = False := eq_false (by omega)
          have s2 : (9223372036854775807 < D.size + 1) = False := eq_false (by omega)
          have s3 : (9223372036854775807 < 0 + D.size) = False := eq_false (by omega)
          clear hP0 hbl hpre hPl hD hj0
          go_wp2_with fail
          refine (cTH.out _).mono ?_
          rintro e w3 ⟨rfl, rfl⟩
          go_wp2_with fail
          refine (coH.out _ (.refl _ _)).mono ?_
          rintro e w4 ⟨rfl, rfl⟩
          go_wp2_with fail
          (with_reducible refine (cd.out _).mono ?_)
          rintro e w5 ⟨rfl, rfl⟩
          rw [hDH.out]
          go_wp2_with fail
          try rw [hst.out]
          go_loopw [3, 5] (fun s i wr2 => ∃ k : Nat, i = .int .i64 k ∧ k ≤ L.length ∧ s = .string (toB (bl ++ decsB (L.take k))) ∧ wr = wr2) (fun _ i _ => L.length - (intOf i).toNat)
          case atStart => exact ⟨0, rfl, Nat.zero_le _, by rw [List.take_zero]; show _ = Value.string (toB (bl ++ [])); rw [List.append_nil], rfl⟩
          case round =>
            obtain ⟨k, rfl, hk, rfl, rfl⟩ := hrel
            by_cases hk2 : k < L.length
            · obtain ⟨b5, o5, rfl, -, p5, -⟩ := hIH.out.int k hk2
              have h33 := hlt3H.out L[k] (List.getElem_mem hk2)
              have hsn := decsB_succ hk2
              have hPl2 : (decsB (L.take k)).length ≤ 3 := by
                rw [decs_len (fun x hx => hlt3H.out x (List.mem_of_mem_take hx)), List.length_take]; omega
              obtain ⟨u, hu⟩ : ∃ u : Nat, L[k] = (u : Int) := ⟨L[k].toNat, by omega⟩
              rw [hu] at p5 hsn h33
              have ci := Lib.hid (fun W => digN_any u (by omega) W)
              have hDl := dec_len (v := u) (by omega)
              obtain ⟨E, hE⟩ : ∃ E : ByteArray, (⟨(Lib.decDigits u).toArray⟩ : ByteArray) = E := ⟨_, rfl⟩
              have hEs : E.size ≤ 2 := by rw [← hE]; exact hDl
              have hPs : (toB (bl ++ decsB (L.take k))).size ≤ 103 := by rw [toB_size, List.length_append]; have := hbls.out; omega
              obtain ⟨P, hP⟩ : ∃ P, toB (bl ++ decsB (L.take k)) = P := ⟨_, rfl⟩
              rw [hP] at hPs
              have hcat : P ++ E = toB (bl ++ decsB (L.take (k + 1))) := by
                rw [hsn, ← hP, ← hE, show ((u : Int).toNat) = u from by simp, ← List.append_assoc, ← toB_append]; rfl
              have hcatH := Lib.hid hcat
              have hEH := Lib.hid hE
              have s1 : (9223372036854775807 < P.size + E.size) = False := eq_false (by omega)
              rw [hP]
              clear hcat hE hP hsn hPl2 hDl hu
              go_wp2_with fail
              (with_reducible refine (ci.out _).mono ?_)
              rintro e w6 ⟨rfl, rfl⟩
              rw [hEH.out]
              go_wp2_with fail
              go_roundw
              case rel => exact ⟨k + 1, by go_num, hk2, by rw [hcatH.out], by first | rfl | trivial⟩
              case measure => simp [intOf]; omega
            · have hkk : k = L.length := by omega
              have hAll : L.take k = L := by rw [hkk, List.take_length]
              rw [hAll]
              have hkn : ((k : Int) < (L.length : Int)) = False := eq_false (by omega)
              by_cases hL : L = []
              · have hz : toB (bl ++ decsB L) = toB bl := by rw [hL]; show toB (bl ++ []) = _; rw [List.append_nil]
                have hl0 : ((L.length : Int) == 0) = true := by rw [hL]; rfl
                obtain ⟨P, hP⟩ : ∃ P, toB bl = P := ⟨_, rfl⟩
                have hPs : P.size ≤ 100 := by rw [← hP, toB_size]; exact hbls.out
                have s1 : (9223372036854775807 < P.size + 1) = False := eq_false (by omega)
                have hfin : P ++ (⟨#[45]⟩ : ByteArray) = toB (preW d (j + 1)) := by
                  rw [hpreH.out]
                  have : argB L = [45] := by unfold argB; rw [if_pos hL]
                  rw [this, ← toB_append, hP]; rfl
                have hfinH := Lib.hid hfin
                rw [hz, hP]
                have hkkH := Lib.hid hkk
                have hk2H := Lib.hid hk2
                clear hz hL hkk hk2 hk hAll hP hfin
                go_wp2_with fail
                go_roundw
                all_goals first | exact ⟨j + 1, by go_num, hlt, by rw [hfinH.out], hallH.out hokH.out, hBH.out⟩ | (simp [intOf]; omega) | (simp [intOf]; done)
              · have hl0 : ((L.length : Int) == 0) = false := by
                  rw [beq_eq_false_iff_ne]; intro e; exact hL (List.length_eq_zero_iff.1 (by omega))
                have hfin : toB (bl ++ decsB L) = toB (preW d (j + 1)) := by
                  rw [hpreH.out]
                  have : argB L = decsB L := by unfold argB; rw [if_neg hL]
                  rw [this]
                rw [hfin]
                have hkkH := Lib.hid hkk
                have hk2H := Lib.hid hk2
                clear hL hkk hk2 hk hAll hfin
                go_wp2_with fail
                go_roundw
                all_goals first | exact ⟨j + 1, by go_num, hlt, rfl, hallH.out hokH.out, hBH.out⟩ | (simp [intOf]; omega) | (simp [intOf]; done)
        · have hj0i : ((0 : Int) < (j : Int)) = True := eq_true (by omega)
          have hj0n : 0 < j := by omega
          obtain ⟨P, hP⟩ : ∃ P, toB (preW d j) = P := ⟨_, rfl⟩
          have hPs : P.size ≤ 84 := by rw [← hP, toB_size]; exact hPl
          obtain ⟨bl, hbl⟩ : ∃ bl, ((preW d j ++ [32]) ++ Lib.decDigits v) ++ [58] = bl := ⟨_, rfl⟩
          have hbls := Lib.hid (show bl.length ≤ 100 by
            rw [← hbl, List.length_append, List.length_append, List.length_append, List.length_singleton, List.length_singleton]
            have : (Lib.decDigits v).length ≤ 2 := dec_len (by omega)
            omega)
          have hst := Lib.hid (show ((P ++ (⟨#[32]⟩ : ByteArray)) ++ D) ++ (⟨#[58]⟩ : ByteArray) = toB bl by rw [← hD, ← hbl, ← hP, ← toB_append, ← toB_append, ← toB_append]; rfl)
          have hpreH := Lib.hid (show preW d (j + 1) = bl ++ argB L by rw [hpre, if_neg hj0, ← hbl]; unfold wayB; simp)
          have hDH := Lib.hid hD
          have s1 : (9223372036854775807 < P.size + 1) = False := eq_false (by omega)
          have s2 : (9223372036854775807 < P.size + 1 + D.size) = False := eq_false (by omega)
          have s3 : (9223372036854775807 < P.size + 1 + D.size + 1) = False := eq_false (by omega)
          rw [hP]
          clear hP hbl hpre hPl hD hj0
          go_wp2_with fail
          refine (cTH.out _).mono ?_
          rintro e w3 ⟨rfl, rfl⟩
          go_wp2_with fail
          refine (coH.out _ (.refl _ _)).mono ?_
          rintro e w4 ⟨rfl, rfl⟩
          go_wp2_with fail
          (with_reducible refine (cd.out _).mono ?_)
          rintro e w5 ⟨rfl, rfl⟩
          rw [hDH.out]
          go_wp2_with fail
          try rw [hst.out]
          go_loopw [3, 5] (fun s i wr2 => ∃ k : Nat, i = .int .i64 k ∧ k ≤ L.length ∧ s = .string (toB (bl ++ decsB (L.take k))) ∧ wr = wr2) (fun _ i _ => L.length - (intOf i).toNat)
          case atStart => exact ⟨0, rfl, Nat.zero_le _, by rw [List.take_zero]; show _ = Value.string (toB (bl ++ [])); rw [List.append_nil], rfl⟩
          case round =>
            obtain ⟨k, rfl, hk, rfl, rfl⟩ := hrel
            by_cases hk2 : k < L.length
            · obtain ⟨b5, o5, rfl, -, p5, -⟩ := hIH.out.int k hk2
              have h33 := hlt3H.out L[k] (List.getElem_mem hk2)
              have hsn := decsB_succ hk2
              have hPl2 : (decsB (L.take k)).length ≤ 3 := by
                rw [decs_len (fun x hx => hlt3H.out x (List.mem_of_mem_take hx)), List.length_take]; omega
              obtain ⟨u, hu⟩ : ∃ u : Nat, L[k] = (u : Int) := ⟨L[k].toNat, by omega⟩
              rw [hu] at p5 hsn h33
              have ci := Lib.hid (fun W => digN_any u (by omega) W)
              have hDl := dec_len (v := u) (by omega)
              obtain ⟨E, hE⟩ : ∃ E : ByteArray, (⟨(Lib.decDigits u).toArray⟩ : ByteArray) = E := ⟨_, rfl⟩
              have hEs : E.size ≤ 2 := by rw [← hE]; exact hDl
              have hPs : (toB (bl ++ decsB (L.take k))).size ≤ 103 := by rw [toB_size, List.length_append]; have := hbls.out; omega
              obtain ⟨P, hP⟩ : ∃ P, toB (bl ++ decsB (L.take k)) = P := ⟨_, rfl⟩
              rw [hP] at hPs
              have hcat : P ++ E = toB (bl ++ decsB (L.take (k + 1))) := by
                rw [hsn, ← hP, ← hE, show ((u : Int).toNat) = u from by simp, ← List.append_assoc, ← toB_append]; rfl
              have hcatH := Lib.hid hcat
              have hEH := Lib.hid hE
              have s1 : (9223372036854775807 < P.size + E.size) = False := eq_false (by omega)
              rw [hP]
              clear hcat hE hP hsn hPl2 hDl hu
              go_wp2_with fail
              (with_reducible refine (ci.out _).mono ?_)
              rintro e w6 ⟨rfl, rfl⟩
              rw [hEH.out]
              go_wp2_with fail
              go_roundw
              case rel => exact ⟨k + 1, by go_num, hk2, by rw [hcatH.out], by first | rfl | trivial⟩
              case measure => simp [intOf]; omega
            · have hkk : k = L.length := by omega
              have hAll : L.take k = L := by rw [hkk, List.take_length]
              rw [hAll]
              have hkn : ((k : Int) < (L.length : Int)) = False := eq_false (by omega)
              by_cases hL : L = []
              · have hz : toB (bl ++ decsB L) = toB bl := by rw [hL]; show toB (bl ++ []) = _; rw [List.append_nil]
                have hl0 : ((L.length : Int) == 0) = true := by rw [hL]; rfl
                obtain ⟨P, hP⟩ : ∃ P, toB bl = P := ⟨_, rfl⟩
                have hPs : P.size ≤ 100 := by rw [← hP, toB_size]; exact hbls.out
                have s1 : (9223372036854775807 < P.size + 1) = False := eq_false (by omega)
                have hfin : P ++ (⟨#[45]⟩ : ByteArray) = toB (preW d (j + 1)) := by
                  rw [hpreH.out]
                  have : argB L = [45] := by unfold argB; rw [if_pos hL]
                  rw [this, ← toB_append, hP]; rfl
                have hfinH := Lib.hid hfin
                rw [hz, hP]
                have hkkH := Lib.hid hkk
                have hk2H := Lib.hid hk2
                clear hz hL hkk hk2 hk hAll hP hfin
                go_wp2_with fail
                go_roundw
                all_goals first | exact ⟨j + 1, by go_num, hlt, by rw [hfinH.out], hallH.out hokH.out, hBH.out⟩ | (simp [intOf]; omega) | (simp [intOf]; done)
              · have hl0 : ((L.length : Int) == 0) = false := by
                  rw [beq_eq_false_iff_ne]; intro e; exact hL (List.length_eq_zero_iff.1 (by omega))
                have hfin : toB (bl ++ decsB L) = toB (preW d (j + 1)) := by
                  rw [hpreH.out]
                  have : argB L = decsB L := by unfold argB; rw [if_neg hL]
                  rw [this]
                rw [hfin]
                have hkkH := Lib.hid hkk
                have hk2H := Lib.hid hk2
                clear hL hkk hk2 hk hAll hfin
                go_wp2_with fail
                go_roundw
                all_goals first | exact ⟨j + 1, by go_num, hlt, rfl, hallH.out hokH.out, hBH.out⟩ | (simp [intOf]; omega) | (simp [intOf]; done)
    · have hjj : j = d.length := by omega
      rw [hjj, List.take_length] at hall
      have hok := okWs_mk hnH.out.1 hnH.out.2 hall
      have hR := Lib.hid (show toB (preW d j) = toB (fmtW d) by rw [hjj, preW_end hok])
      have hBH := Lib.hid hB
      have hjl : ((j : Int) < (d.length : Int)) = False := eq_false (by omega)
      have hjjH := Lib.hid hjj
      have hltH := Lib.hid hlt
      clear hB hall hok hjj hlt hj
      go_wp2_with fail
      go_ret
      exact ⟨congrArg (fun b => Ending.returned (.string b)) hR.out, hBH.out⟩
end Go.Proofs.YtljkojpooajlhaaGreatDoor

/- Walks: lemmaryref03.Parse. -/
namespace Go.Proofs.YtljkojpooajlhaaGreatDoor
open Go Go.RowKit Go.Maps

theorem wordsW_size {m : UInt8} : ∀ {l w : List UInt8}, w ∈ wordsB m l → w.length ≤ l.length
  | [], w, h => by simp [wordsB] at h; subst h; simp
  | c :: r, w, h => by
    rw [wordsB] at h
    split at h
    · rcases List.mem_cons.1 h with h | h
      · subst h; simp
      · have := wordsW_size h; rw [List.length_cons]; omega
    · split at h
      · simp at h; subst h; simp
      · rename_i w1 ws hw
        have ih : ∀ u ∈ wordsB m r, u.length ≤ r.length := fun u hu => wordsW_size hu
        rw [hw] at ih
        rcases List.mem_cons.1 h with h | h
        · subst h; have := ih w1 (by simp); simp; omega
        · have := ih w (by simp [h]); rw [List.length_cons]; omega
theorem mapMw_snoc {α β : Type} {f : α → Option β} {l : List α} {x : α} : (l ++ [x]).mapM f = (l.mapM f).bind fun ns => (f x).bind fun n => some (ns ++ [n]) := by
  induction l with
  | nil => simp [List.mapM_cons]
  | cons a l ih =>
    rw [List.cons_append, List.mapM_cons, List.mapM_cons, ih]
    cases f a with
    | none => rfl
    | some v =>
      cases l.mapM f with
      | none => rfl
      | some vs =>
        cases f x with
        | none => rfl
        | some u => rfl
theorem mapMw_none {α β : Type} {f : α → Option β} : ∀ {l : List α} {k : Nat} (h : k < l.length), f l[k] = none → l.mapM f = none
  | a :: l, 0, _, h => by
    rw [List.mapM_cons, show f a = none from h]; rfl
  | a :: l, k + 1, hk, h => by
    rw [List.mapM_cons, mapMw_none (l := l) (k := k) (by simpa using hk) (by simpa using h)]
    cases f a <;> rfl
theorem ba_lenW (b : ByteArray) : b.data.toList.length = b.size := Array.length_toList
theorem btsW_len (l : List ByteArray) : (bts l).length = l.length := by unfold bts; rw [List.length_map]
theorem btsW_get {l : List ByteArray} {k : Nat} (h : k < l.length) : (bts l)[k]'(by rw [btsW_len]; exact h) = l[k].data.toList := by simp [bts]
theorem refWW_len {w : List UInt8} (h : (wordsB 58 w).length ≠ 2) : refWW w = none := by
  unfold refWW
  split
  · rename_i a b hw; rw [hw] at h; exact (h rfl).elim
  · rfl
theorem refWW_two {w a b : List UInt8} (h : wordsB 58 w = [a, b]) : refWW w = if 1 ≤ b.length ∧ b.length ≤ 3 then (numR a).bind (fun n => (digR b).map (fun l => (n, l))) else none := by
  unfold refWW; rw [h]
theorem waysNil (S : Nat → Prop) (w : World) : WaysL S w none 0 [] := ⟨Nat.le_refl _, by unfold big; omega, fun _ => ⟨rfl, rfl⟩, fun h => (h rfl).elim⟩
theorem dataW_get {b : ByteArray} {k : Nat} (h : k < b.size) : b.data.toList[k]'(by rw [ba_lenW]; exact h) = b[k]'h := by
  rw [Array.getElem_toList]; rfl
/-- the loop over the words; the loop over the digits -/
def rwpR (L : List ByteArray) (w : World) (vO iV : Value) (wr : World) : Prop :=
  ∃ (k : Nat) (dd : Ways), iV = .int .i64 k ∧ k ≤ L.length ∧ OwnW wr w.heap.size vO dd ∧ dd.length = k ∧ ((bts L).take k).mapM refWW = some dd ∧ Below w.heap.size w wr
def rwiR (n : Int) (B : ByteArray) (W1 : World) (iV : Value) (wr : World) : Prop :=
  ∃ (q : Nat) (a : Option Addr) (c : Nat) (l : List Int), iV = .int .i64 q ∧ q ≤ B.size ∧ l.length = q ∧ (B.data.toList.take q).mapM digC = some l ∧ WyBox wr W1.heap.size n (.slice a q c) ∧ OwnI wr (W1.heap.size + 1) (.slice a q c) l ∧ Below W1.heap.size W1 wr
set_option maxRecDepth 100000 in
set_option maxHeartbeats 8000000 in
theorem rwParse_any {av : List UInt8 → Int} {ag : List UInt8 → List Int} (ha : ∀ v, v < 12 → av (Lib.decDigits v) = (v : Int)) (hg : ∀ l : List Int, (∀ v ∈ l, 0 ≤ v ∧ v < 3) → ag (argB l) = l) (t : ByteArray) (w : World) :
    Calls Tryz.prog 7 #[.string t] w (retWE (parseW av ag t.data.toList) w) := by
  by_cases hz : t.size ≤ 65536
  · have hl : t.data.toList.length ≤ 65536 := by rw [ba_lenW]; exact hz
    obtain ⟨hy, hn, hn2⟩ := parseW_ref ha hg hl
    obtain ⟨R, hRR⟩ : ∃ R, parseW av ag t.data.toList = R := ⟨_, rfl⟩
    rw [hRR] at hy hn hn2 ⊢
    have hyH := Lib.hid hy
    have hnH := Lib.hid hn
    have hn2H := Lib.hid hn2
    have cw := Lib.hid (Words_any t 32 hz w)
    have hng : ((65536 : Int) < (t.size : Int)) = False := eq_false (by omega)
    clear hy hn hn2 hRR
    go_enter Tryz.func7, Tryz.ntmps7
    go_wp2_with fail
    refine cw.out.mono ?_
    rintro e w1 ⟨v, L, rfl, hO, hL, hb1⟩
    obtain ⟨aL, cL, rfl, hS⟩ := OwnS.strs hO
    have hwl := wordsB_len 32 t.data.toList
    have hll : L.length ≤ 65537 := by rw [← btsW_len, hL]; omega
    have hws : ∀ b ∈ L, b.size ≤ 65536 := fun b hb => by
      have : b.data.toList ∈ wordsB 32 t.data.toList := by rw [← hL]; exact List.mem_map_of_mem hb
      have := wordsW_size this
      rw [ba_lenW] at this; omega
    have hSH := Lib.hid hS
    have hLH := Lib.hid hL
    have hb1H := Lib.hid hb1
    have hwsH := Lib.hid hws
    clear cw hO hL hS hb1 hwl hws
    go_wp2_with fail
    go_loopw [5, 6] (fun vO iV wr => rwpR L w1 vO iV wr) (fun _ iV _ => L.length - (intOf iV).toNat)
    case atStart => exact ⟨0, [], rfl, Nat.zero_le _, .nil _ _ _ _ _, rfl, rfl, .refl _ _⟩
    case round =>
      obtain ⟨k, dd, rfl, hk, hO, hsl, hmp, hB⟩ := hrel
      have hslH := Lib.hid hsl
      clear hsl
      by_cases hlt : k < L.length
      · obtain ⟨bL, oL, rfl, -, q0, -⟩ := (hSH.out.below hB).str k hlt
        have hsz := hwsH.out _ (List.getElem_mem hlt)
        have hgk := btsW_get hlt
        have hno := fun (h : refWW L[k].data.toList = none) => hnH.out (by
          unfold refPW
          rw [← hLH.out]
          exact mapMw_none (k := k) (by rw [btsW_len]; exact hlt) (by rw [hgk]; exact h))
        have hsn : ∀ y, refWW L[k].data.toList = some y → ((bts L).take (k + 1)).mapM refWW = some (dd ++ [y]) := fun y hy => by
          rw [List.take_succ_eq_append_getElem (by rw [btsW_len]; exact hlt), mapMw_snoc, hmp, hgk, hy]; rfl
        obtain ⟨X, hX⟩ : ∃ X, L[k] = X := ⟨_, rfl⟩
        rw [hX] at q0 hsz hno hsn
        have cw2 := Lib.hid (fun W => Words_any X 58 hsz W)
        have hnoH := Lib.hid hno
        have hsnH := Lib.hid hsn
        have hOH := Lib.hid hO
        have hBH := Lib.hid hB
        clear hno hsn hX hgk hmp hO hB
        go_wp2_with fail
        refine (cw2.out _).mono ?_
        rintro e w2 ⟨v2, P, rfl, hO2, hP, hb2⟩
        obtain ⟨aP, cP, rfl, hS2⟩ := OwnS.strs hO2
        have hwl2 := wordsB_len 58 X.data.toList
        rw [← hP, btsW_len, ba_lenW] at hwl2
        have hb2H := Lib.hid hb2
        have hB2 := Lib.hid (bcall hBH.out hb2)
        by_cases h2 : P.length = 2
        · obtain ⟨A, B, rfl⟩ : ∃ A B, P = [A, B] := by
            match P, h2 with
            | [A, B], _ => exact ⟨A, B, rfl⟩
          have hP2 : wordsB 58 X.data.toList = [A.data.toList, B.data.toList] := hP.symm
          obtain ⟨bP, oP, rfl, -, p0, -⟩ := hS2.str 0 (by simp)
          have p1 : w2.cell? ⟨bP, oP + 1, none⟩ = some (.string B) := by
            obtain ⟨b', o', he, -, p1, -⟩ := hS2.str 1 (by simp)
            cases he; exact p1
          simp only [Nat.add_zero, List.getElem_cons_zero] at p0
          have hAs : A.size ≤ 65536 := by
            have : A.data.toList ∈ wordsB 58 X.data.toList := by rw [hP2]; simp
            have := wordsW_size this
            rw [ba_lenW, ba_lenW] at this; omega
          have hrf := refWW_two hP2
          rw [ba_lenW] at hrf
          by_cases hB1 : B.size < 1
          · have g1 : ((B.size : Int) < 1) = True := eq_true (by omega)
            have hR := Lib.hid (hnoH.out (by rw [hrf, if_neg (by omega)]))
            clear hrf hP2 hP hS2 hO2 hb2 hwl2 h2
            go_wp2_with fail
            go_ret2
            rw [hR.out]
            exact ⟨none, 0, rfl, waysNil _ _, bcall hb1H.out hB2.out⟩
          have g1 : ((B.size : Int) < 1) = False := eq_false (by omega)
          by_cases hB3 : 3 < B.size
          · have g2 : ((3 : Int) < (B.size : Int)) = True := eq_true (by omega)
            have hR := Lib.hid (hnoH.out (by rw [hrf, if_neg (by omega)]))
            clear hrf hP2 hP hS2 hO2 hb2 hwl2 h2
            go_wp2_with fail
            go_ret2
            rw [hR.out]
            exact ⟨none, 0, rfl, waysNil _ _, bcall hb1H.out hB2.out⟩
          have g2 : ((3 : Int) < (B.size : Int)) = False := eq_false (by omega)
          rw [if_pos (by omega)] at hrf
          have cn := fun W => Number_any A hAs W
          cases hnx : numR A.data.toList with
          | none =>
            rw [hnx] at hrf
            have hR := Lib.hid (hnoH.out hrf)
            have cnH := Lib.hid cn
            have hnxH := Lib.hid hnx
            clear cn hrf hP2 hP hS2 hO2 hb2 hwl2 hnx h2
            go_wp2_with fail
            refine (cnH.out _).mono ?_
            rintro e w3 ⟨n, rfl, -, -, rfl⟩
            rw [hnxH.out]
            go_wp2_with fail
            go_ret2
            rw [hR.out]
            exact ⟨none, 0, rfl, waysNil _ _, bcall hb1H.out hB2.out⟩
          | some n =>
            rw [hnx] at hrf
            have hcn : ∀ W, Calls Tryz.prog 17 #[.string A] W fun e w' => e = .returned (.tuple #[.int .i64 n, .bool true]) ∧ inRange n ∧ W = w' := fun W => (cn W).mono fun e w' hh => by
              obtain ⟨n', h1, h2, h3, h4⟩ := hh
              have := h2 n hnx
              subst this
              rw [hnx] at h1
              exact ⟨h1, h3, h4⟩
            have hrf : refWW X.data.toList = (digR B.data.toList).map (fun l => (n, l)) := hrf
            have hcnH := Lib.hid hcn
            have hrfH := Lib.hid hrf
            obtain ⟨W2, hW2⟩ : ∃ W2, w2.alloc (.cells #[.int .i64 n, .slice none 0 0] 33) = W2 := ⟨_, rfl⟩
            have hbx : Below w2.heap.size w2 W2 := by rw [← hW2]; exact below1 _ _
            have hx2 : WyBox W2 w2.heap.size n (.slice none 0 0) := by rw [← hW2]; exact .new _ _ _
            have fz := hx2.f1
            have cz := hx2.c1
            have sz : W2.setCell ⟨w2.heap.size, 1, none⟩ (.slice none 0 0) = W2 := by rw [← hW2]; clear hW2 fz cz hx2 hbx; go_simp
            have hWH := Lib.hid hW2
            have hx2H := Lib.hid hx2
            have hbxH := Lib.hid hbx
            clear cn hcn hrf hP2 hP hS2 hO2 hb2 hwl2 hnx h2 hx2 hbx
            go_wp2_with fail
            refine (hcnH.out _).mono ?_
            rintro e w3 ⟨rfl, hnr, rfl⟩
            go_wp2_with fail
            try rw [hWH.out]
            have p1W := cell_later hbxH.out p1
            have p1H := Lib.hid (fun W (hb : Below w2.heap.size w2 W) => cell_later hb p1)
            clear p0 p1 fz cz sz
            by_cases hds : B.data.toList = [45]
            · have hte : (B.toList == ([45] : List UInt8)) = true := by rw [ba_tlW, hds]; rfl
              have hB0 : ((0 : Int) < (B.size : Int)) = True := eq_true (by omega)
              have hr2 := hrfH.out
              rw [show digR B.data.toList = some [] by unfold digR; rw [if_pos hds]] at hr2
              have hst := Lib.hid (hsnH.out (n, []) hr2)
              obtain ⟨v', w', hrun', ho', hB'⟩ := OwnW.pushU (l' := dd ++ [(n, [])]) hOH.out hBH.out (bcall hb2H.out hbxH.out) (x := (n, [])) (S1 := fun _ => False) (a := none) (c := 0) hnr ⟨Nat.le_refl _, by unfold big; omega, fun _ => ⟨rfl, rfl⟩, fun h => (h rfl).elim⟩ (fun b hb => hb.elim) rfl (by rw [hslH.out]; omega)
              have cz := hx2H.out.c1
              have c0 := hx2H.out.c0
              have hrel : rwpR L w1 v' (.int .i64 ((k : Int) + 1)) w' := ⟨k + 1, _, by go_num, hlt, ho'.out, by rw [List.length_append, hslH.out]; rfl, hst.out, hB'.out⟩
              have hrelH := Lib.hid hrel
              have rrun := hrun'.out
              clear hds hr2 hst hrun' ho' hB' hrel
              go_loopw [11] (fun i wr3 => i = .int .i64 0 ∧ W2 = wr3) (fun _ _ => 0)
              case atStart => exact ⟨rfl, rfl⟩
              case round =>
                obtain ⟨rfl, rfl⟩ := hrel
                go_wp2_with (at_builtin; refine wpList_append_run rfl _ _ _ rfl rfl rfl rrun ?_)
                go_roundw
                all_goals first | exact hrelH.out | (simp [intOf]; omega) | (simp [intOf]; done)
            · have hte : (B.toList == ([45] : List UInt8)) = false := by rw [ba_tlW, beq_eq_false_iff_ne]; exact hds
              have hdg : digR B.data.toList = B.data.toList.mapM digC := by unfold digR; rw [if_neg hds]
              have hdgH := Lib.hid hdg
              clear hds hdg
              go_loopw [11] (fun i wr3 => rwiR n B w2 i wr3) (fun i _ => B.size - (intOf i).toNat)
              case atStart => exact ⟨0, none, 0, [], rfl, Nat.zero_le _, rfl, rfl, hx2H.out, .nil _ _ _ _ _, hbxH.out⟩
              case round =>
                obtain ⟨q, av1, cv1, l, rfl, hq, hll2, hmq, hbx, hoq, hBq⟩ := hrel
                have hllH := Lib.hid hll2
                clear hll2
                obtain ⟨W3, hW3⟩ : ∃ W3, W3 = wr := ⟨_, rfl⟩
                subst hW3
                have p1q := p1H.out W3 hBq
                by_cases hq2 : q < B.size
                · have hqi : ((q : Int) < (B.size : Int)) = True := eq_true (by omega)
                  have hgt := dataW_get hq2
                  have hcn := (B[q]'hq2).toNat_lt
                  have cin := fun W => r3within_any ((B[q]'hq2).toNat : Int) 48 57 W
                  have hw3 : IntKind.i64.wrap ((B[q]'hq2).toNat : Int) = ((B[q]'hq2).toNat : Int) := IntWalk.i64_in _ (by omega)
                  by_cases hd : 48 ≤ (B[q]'hq2).toNat ∧ (B[q]'hq2).toNat ≤ 57
                  case neg =>
                    rw [show (decide ((48 : Int) ≤ ((B[q]'hq2).toNat : Int)) && decide (((B[q]'hq2).toNat : Int) ≤ 57)) = false by simp; omega] at cin
                    have hR := Lib.hid (hnoH.out (by
                      rw [hrfH.out, hdgH.out, mapMw_none (k := q) (by rw [ba_lenW]; exact hq2) (by rw [hgt]; unfold digC; rw [if_neg hd])]; rfl))
                    have cinH := Lib.hid cin
                    have hBq2 := Lib.hid (bcall hB2.out hBq)
                    clear cin hgt hd hmq hbx hoq hBq
                    go_wp2_with fail
                    refine (cinH.out _).mono ?_
                    rintro e w4 ⟨rfl, rfl⟩
                    go_wp2_with fail
                    go_ret2
                    rw [hR.out]
                    exact ⟨none, 0, rfl, waysNil _ _, bcall hb1H.out hBq2.out⟩
                  case pos =>
                    rw [show (decide ((48 : Int) ≤ ((B[q]'hq2).toNat : Int)) && decide (((B[q]'hq2).toNat : Int) ≤ 57)) = true by simp; omega] at cin
                    have hu : IntKind.u8.wrap (((B[q]'hq2).toNat : Int) - 48) = (((B[q]'hq2).toNat - 48 : Nat) : Int) := by
                      unfold IntKind.wrap
                      simp [IntKind.signed, IntKind.bits]
                      omega
                    obtain ⟨z, hzz⟩ : ∃ z, (B[q]'hq2).toNat - 48 = z := ⟨_, rfl⟩
                    have hz9 : z ≤ 9 := by omega
                    rw [hzz] at hu
                    have hw4 : IntKind.i64.wrap (z : Int) = (z : Int) := IntWalk.i64_in _ (by omega)
                    have hmq2 : (B.data.toList.take (q + 1)).mapM digC = some (l ++ [(z : Int)]) := by
                      rw [List.take_succ_eq_append_getElem (by rw [ba_lenW]; exact hq2), mapMw_snoc, hmq, hgt]
                      unfold digC
                      rw [if_pos hd, show ((B[q]'hq2).toNat : Int) - 48 = (z : Int) by omega]; rfl
                    obtain ⟨v', w', hrun, hc, hfz, hnx⟩ := hbx.push rfl hoq hBq (x := (z : Int)) (by unfold inRange; omega) rfl (by rw [hllH.out]; omega)
                    have c1 := hbx.c1
                    have c1d : (W3.alloc (.cells #[.int .i64 (z : Int)] 3)).cell? ⟨w2.heap.size, 1, none⟩ = some (.slice av1 q cv1) := cell_later (below1 W3 (.cells #[.int .i64 (z : Int)] 3)) c1
                    have rrun := hrun.out
                    have rc := hc.out
                    have rf := hfz.out
                    have hlen : (l ++ [(z : Int)]).length = q + 1 := by rw [List.length_append, hllH.out]; rfl
                    obtain ⟨av', cv', hv', -⟩ := OwnI.ints hnx.out.2.1
                    rw [hlen] at hv'
                    subst hv'
                    have hbH := Lib.hid hbx.lt
                    have hmqH := Lib.hid hmq2
                    have hlenH := Lib.hid hlen
                    have cinH := Lib.hid cin
                    clear cin hgt hd hmq hbx hoq hBq hzz hmq2 hlen hrun hc hfz
                    go_wp2_with fail
                    refine (cinH.out _).mono ?_
                    rintro e w4 ⟨rfl, rfl⟩
                    go_wp2_with fail
                    go_region_law (rw [if_pos (by kernel_rfl)]; refine oper_append_run (.tmp 80) (.tmp 88) _ rfl rfl rfl rrun ?_)
                    all_goals go_wp2_with fail
                    all_goals go_roundw
                    all_goals first | exact ⟨q + 1, _, _, _, by go_num, hq2, hlenH.out, hmqH.out, hnx.out.1, hnx.out.2.1, hnx.out.2.2⟩ | (simp [intOf]; omega)
                · have hqq : q = B.size := by omega
                  have hqi : ((q : Int) < (B.size : Int)) = False := eq_false (by omega)
                  rw [List.take_of_length_le (by rw [ba_lenW]; omega)] at hmq
                  have hr2 := hrfH.out
                  rw [hdgH.out, hmq] at hr2
                  have hst := Lib.hid (hsnH.out (n, l) hr2)
                  have c0 := hbx.c0
                  have c1 := hbx.c1
                  have hbb := bcall hb2H.out hBq
                  obtain ⟨av', cv', hv', hIv⟩ := OwnI.ints hoq
                  rw [hllH.out] at hv'
                  simp only [Value.slice.injEq] at hv'
                  obtain ⟨rfl, -, rfl⟩ := hv'
                  obtain ⟨v', w', hrun', ho', hB'⟩ := OwnW.pushU (l' := dd ++ [(n, l)]) hOH.out hBH.out hbb (x := (n, l)) hnr hIv (fun b hb => by have := hb2H.out.size; omega) rfl (by rw [hslH.out]; omega)
                  rw [show ((n, l) : Int × List Int).2.length = q from hllH.out] at hrun'
                  have rrun := hrun'.out
                  have hrel : rwpR L w1 v' (.int .i64 ((k : Int) + 1)) w' := ⟨k + 1, _, by go_num, hlt, ho'.out, by rw [List.length_append, hslH.out]; rfl, hst.out, hB'.out⟩
                  have hrelH := Lib.hid hrel
                  have hqqH := Lib.hid hqq
                  clear hmq hr2 hst hbx hoq hBq hbb hIv hrun' ho' hB' hrel hqq hq2 hq
                  go_wp2_with (at_builtin; refine wpList_append_run rfl _ _ _ rfl rfl rfl rrun ?_)
                  go_roundw
                  all_goals first | exact hrelH.out | (simp [intOf]; omega) | (simp [intOf]; done)
        · have hR := Lib.hid (hnoH.out (refWW_len (by rw [← hP, btsW_len]; exact h2)))
          have hne : ((P.length : Int) != 2) = true := by rw [bne_iff_ne]; omega
          clear hP hS2 hO2 hb2 hwl2 h2
          go_wp2_with fail
          go_ret2
          rw [hR.out]
          exact ⟨none, 0, rfl, waysNil _ _, bcall hb1H.out hB2.out⟩
      · have hkL := Lib.hid (show k = L.length by omega)
        rw [List.take_of_length_le (by rw [btsW_len, hkL.out]; exact Nat.le_refl _), hLH.out] at hmp
        have hnl : ((k : Int) < (L.length : Int)) = False := eq_false (by omega)
        obtain ⟨aO, cO, rfl, hSg⟩ := hO.sl
        have cf := rwFormat_any aO cO dd wr hSg
        have hSgH := Lib.hid (fun w2 (hb : Below wr.heap.size wr w2) => (hSg.below hb).any)
        have hBH := Lib.hid hB
        obtain ⟨F, hF⟩ : ∃ F, toB (fmtW dd) = F := ⟨_, rfl⟩
        have hFl : fmtW dd = F.data.toList := by rw [← hF]; rfl
        rw [hF] at cf
        have cfH := Lib.hid cf
        have hmpH := Lib.hid (show refPW t.data.toList = some dd from hmp)
        clear hO hB hSg cf hF hmp
        by_cases hF0 : F.data.toList = []
        · have hte : (F.toList == ([] : List UInt8)) = true := by rw [ba_tlW, hF0]; rfl
          have hR := Lib.hid (hn2H.out dd hmpH.out (fun h => h.1 (by rw [hFl]; exact hF0)))
          clear hF0 hFl
          go_wp2_with fail
          refine cfH.out.mono ?_
          rintro e w3 ⟨rfl, hb3⟩
          go_wp2_with fail
          go_ret2
          rw [hR.out]
          exact ⟨none, 0, rfl, waysNil _ _, bcall hb1H.out (bcall hBH.out hb3)⟩
        · have hte : (F.toList == ([] : List UInt8)) = false := by rw [ba_tlW, beq_eq_false_iff_ne]; exact hF0
          by_cases hq : F = t
          · have hqe := str_eq hq
            have hR := Lib.hid (hyH.out dd hmpH.out (by rw [hFl]; exact hF0) (by rw [hFl, hq]))
            clear hF0 hFl hq
            go_wp2_with fail
            refine cfH.out.mono ?_
            rintro e w3 ⟨rfl, hb3⟩
            have hS3 := Lib.hid (hSgH.out _ hb3)
            have hb3H := Lib.hid hb3
            clear hb3
            go_wp2_with fail
            go_ret2
            rw [hR.out]
            exact ⟨_, _, rfl, hS3.out, bcall hb1H.out (bcall hBH.out hb3H.out)⟩
          · have hqe := str_neq hq
            have hR := Lib.hid (hn2H.out dd hmpH.out (fun h => hq (by
              have : F.data.toList = t.data.toList := by rw [← hFl]; exact h.2
              rw [← toB_data F, ← toB_data t, this])))
            clear hF0 hFl hq
            go_wp2_with fail
            refine cfH.out.mono ?_
            rintro e w3 ⟨rfl, hb3⟩
            have hb3H := Lib.hid hb3
            clear hb3
            go_wp2_with fail
            go_ret2
            rw [hR.out]
            exact ⟨none, 0, rfl, waysNil _ _, bcall hb1H.out (bcall hBH.out hb3H.out)⟩
  · have e : parseW av ag t.data.toList = ([], 3) := by unfold parseW; rw [if_neg (by rw [ba_lenW]; exact hz)]
    rw [e]
    have hgt : (65536 : Int) < t.size := by omega
    clear e
    go_enter Tryz.func7, Tryz.ntmps7
    go_wp2_with fail
    go_ret2
    exact ⟨none, 0, rfl, waysNil _ _, .refl _ _⟩
end Go.Proofs.YtljkojpooajlhaaGreatDoor
