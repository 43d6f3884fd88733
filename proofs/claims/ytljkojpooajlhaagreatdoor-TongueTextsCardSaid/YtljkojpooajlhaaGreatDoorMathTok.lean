/- How the program reads a term out of tokens. No program is named. -/
import Derived.Test.YtljkojpooajlhaaGreatDoorMathRead
import Derived.Lib.AtoiAll
namespace Go.Proofs.YtljkojpooajlhaaGreatDoor

abbrev Toks := List (List UInt8)
def skipB : Toks → Toks
  | [] => []
  | w :: r => if w = [32] then skipB r else w :: r
def nextW : Toks → List UInt8 × Toks
  | [] => ([], [])
  | w :: r => (w, r)
def trimX (w : List UInt8) : List UInt8 := if w.head? = some 120 then w.tail else w
def atoiO (l : List UInt8) : Option Int := match Lib.atoiAll l with | .ok v => some v | _ => none
def nameI (s : Sg) (w : List UInt8) : Option Nat := (List.range s.length).find? (fun i : Nat => decide (nmL s (i : Int) = w))
def varV (w : List UInt8) : Option Int := (atoiO (trimX w)).bind (fun v => if 0 ≤ v ∧ v ≤ 11 then some (-v - 1) else none)
def atomV (s : Sg) (w : List UInt8) : Option Int :=
  match nameI s w with
  | some i => some (i : Int)
  | none => varV w
/-- an atom read: how many arguments it has, and the term -/
def atomM (s : Sg) (w : List UInt8) (T : List Int) : Option (Nat × List Int) := if 60 < T.length then none else (atomV s w).map (fun n => (ar s n, T ++ [n]))
abbrev RdX := Toks × List Int
def loopM (g : Nat → RdX → Option RdX) : Nat → RdX → Option RdX
  | 0, x => some x
  | k + 1, x => (loopM g k x).bind (g k)
def polM (s : Sg) : Nat → RdX → Option RdX
  | 0, _ => none
  | f + 1, x => (atomM s (nextW (skipB x.1)).1 x.2).bind (fun a => loopM (fun _ => polM s f) a.1 ((nextW (skipB x.1)).2, a.2))
def closeM (c : UInt8) (x : RdX) : Option RdX := if (nextW (skipB x.1)).1 = [c] then some ((nextW (skipB x.1)).2, x.2) else none
def brkM (s : Sg) : Nat → RdX → Option RdX
  | 0, _ => none
  | f + 1, x =>
    if (nextW (skipB x.1)).1 = [91] then (atomM s (nextW (nextW (skipB x.1)).2).1 x.2).bind (fun a => (loopM (fun _ => brkM s f) a.1 ((nextW (nextW (skipB x.1)).2).2, a.2)).bind (closeM 93))
    else (atomM s (nextW (skipB x.1)).1 x.2).bind (fun a => loopM (fun _ => brkM s f) a.1 ((nextW (skipB x.1)).2, a.2))
def signA (k : Nat) : UInt8 := if k = 0 then 40 else 44
def arrStep (g : RdX → Option RdX) (k : Nat) (x : RdX) : Option RdX := if (nextW (skipB x.1)).1 = [signA k] then g ((nextW (skipB x.1)).2, x.2) else none
def arrowM (g : RdX → Option RdX) (x : RdX) : Option RdX :=
  if (nextW (skipB x.1)).1 = [45] then (if (nextW (nextW (skipB x.1)).2).1 = [62] then g ((nextW (nextW (skipB x.1)).2).2, x.2) else none) else none
def arrM (s : Sg) : Nat → RdX → Option RdX
  | 0, _ => none
  | f + 1, x =>
    if (nextW (skipB x.1)).1 = [40] then
      (if 60 < x.2.length + 1 then none else (arrM s f ((nextW (skipB x.1)).2, x.2 ++ [0])).bind (fun y => (arrowM (arrM s f) y).bind (closeM 41)))
    else (atomM s (nextW (skipB x.1)).1 x.2).bind (fun a => (loopM (arrStep (arrM s f)) a.1 ((nextW (skipB x.1)).2, a.2)).bind (fun y => if 0 < a.1 then closeM 41 y else some y))
def rdM (k : Nat) (s : Sg) : Nat → RdX → Option RdX := if k = 1 then polM s else if k = 2 then arrM s else brkM s
/-- a text cut into tokens -/
def wTok (w : List UInt8) : Toks := if w = [] then [] else [w]
def tokM : List UInt8 → List UInt8 → Toks
  | [], w => wTok w
  | c :: r, w => if isW c = true then tokM r (w ++ [c]) else wTok w ++ [c] :: tokM r []
/-- the tokens of a term -/
def tkTail (sep : Toks) : List Toks → Toks
  | [] => []
  | x :: r => sep ++ (x ++ tkTail sep r)
def tkC (k : Nat) (s : Sg) (n : Int) (L : List Toks) : Toks :=
  if k = 1 then nmL s n :: tkTail [[32]] L
  else if k = 2 then
    if n = 0 then [40] :: (L.getD 0 [] ++ ([32] :: [45] :: [62] :: [32] :: (L.getD 1 [] ++ [[41]])))
    else match L with
      | [] => [nmL s n]
      | x :: r => nmL s n :: [40] :: (x ++ (tkTail [[44], [32]] r ++ [[41]]))
  else match L with
    | [] => [nmL s n]
    | _ => [91] :: nmL s n :: (tkTail [[32]] L ++ [[93]])
def tkF (k : Nat) (s : Sg) : Nat → List Int → Toks
  | 0, _ => []
  | _ + 1, [] => []
  | f + 1, n :: r => if n < 0 then [120 :: Lib.decDigits (-n - 1).toNat] else tkC k s n ((splitK s (ar s n) r).map (tkF k s f))
theorem tkF_fuel {k : Nat} {s : Sg} : ∀ (f f' : Nat) (u : List Int), skip s 1 u = some [] → u.length ≤ f → u.length ≤ f' → tkF k s f u = tkF k s f' u
  | 0, _, u, h, h1, _ => by have := skip_len s 1 u [] h; simp at this; omega
  | _, 0, u, h, _, h2 => by have := skip_len s 1 u [] h; simp at this; omega
  | f + 1, f' + 1, [], h, _, _ => by simp [skip_nil] at h
  | f + 1, f' + 1, n :: r, h, h1, h2 => by
    rw [tkF, tkF]
    split
    · rfl
    · rw [skip_cons] at h
      split at h
      · rw [Nat.zero_add] at h
        obtain ⟨a1, a2, a3⟩ := splitK_spec s (ar s n) r [] h
        rw [List.append_nil] at a2
        congr 1
        apply List.map_congr_left
        intro u hu
        have hl := len_flatten hu
        rw [a2] at hl
        simp only [List.length_cons] at h1 h2
        exact tkF_fuel f f' u (a3 u hu).1 (by omega) (by omega)
      · cases h
def tk (k : Nat) (s : Sg) (t : List Int) : Toks := tkF k s t.length t
theorem tk_neg {k : Nat} {s : Sg} {n : Int} (h : n < 0) : tk k s [n] = [120 :: Lib.decDigits (-n - 1).toNat] := by unfold tk; rw [List.length_singleton, tkF, if_pos h]
theorem tk_node {k : Nat} {s : Sg} {t : List Int} (h : okT s t = true) (hn : 0 ≤ t.headD 0) : tk k s t = tkC k s (t.headD 0) ((argsT s t).map (tk k s)) := by
  obtain ⟨n, r, rfl, hc, hs⟩ := okT_head h
  simp only [List.headD_cons] at hn ⊢
  unfold tk
  rw [List.length_cons, tkF, if_neg (by omega)]
  congr 1
  obtain ⟨a1, a2, a3⟩ := splitK_spec s (ar s n) r [] hs
  rw [List.append_nil] at a2
  apply List.map_congr_left
  intro u hu
  have hl := len_flatten hu
  rw [a2] at hl
  exact tkF_fuel _ _ u (a3 u hu).1 hl (Nat.le_refl _)
/-- what follows does not begin with a letter or a digit -/
def sepB (r : List UInt8) : Prop := ∀ c x, r = c :: x → isW c = false
theorem sep_nil : sepB [] := fun _ _ h => by cases h
theorem sep_cons {c : UInt8} {r : List UInt8} (h : isW c = false) : sepB (c :: r) := fun c' x e => by injection e with e1 e2; rw [← e1]; exact h
theorem tok_word : ∀ (x w r : List UInt8), x.all isW = true → tokM (x ++ r) w = tokM r (w ++ x)
  | [], w, r, _ => by rw [List.append_nil]; rfl
  | c :: x, w, r, h => by
    rw [List.all_cons, Bool.and_eq_true] at h
    rw [List.cons_append, tokM, if_pos h.1, tok_word x (w ++ [c]) r h.2, List.append_assoc]
    rfl
theorem tok_end {w r : List UInt8} (hw : w ≠ []) (hr : sepB r) : tokM r w = w :: tokM r [] := by
  cases r with
  | nil => rw [tokM, tokM]; unfold wTok; rw [if_neg hw, if_pos rfl]
  | cons c x =>
    have hc := hr c x rfl
    rw [tokM, tokM, if_neg (by rw [hc]; decide), if_neg (by rw [hc]; decide)]
    unfold wTok
    rw [if_neg hw, if_pos rfl]
    rfl
theorem tok_all {x r : List UInt8} (hx : x.all isW = true) (hne : x ≠ []) (hr : sepB r) : tokM (x ++ r) [] = x :: tokM r [] := by
  rw [tok_word x [] r hx, List.nil_append, tok_end hne hr]
theorem tok_sign {c : UInt8} {r : List UInt8} (hc : isW c = false) : tokM (c :: r) [] = [c] :: tokM r [] := by
  rw [tokM, if_neg (by rw [hc]; decide)]
  unfold wTok
  rw [if_pos rfl]
  rfl
theorem okT_varT {s : Sg} {t : List Int} (h : okT s t = true) (hn : t.headD 0 < 0) : t = [t.headD 0] := by
  obtain ⟨g1, g2, g3⟩ := argsT_spec h
  have h0 : ar s (t.headD 0) = 0 := ar_neg hn
  rw [h0] at g1
  rw [List.length_eq_zero_iff.1 g1] at g2
  simpa using g2
def TokAt (s : Sg) (k : Nat) (t : List Int) : Prop := ∀ r, sepB r → tokM (txt k s t ++ r) [] = tk k s t ++ tokM r []
theorem tok_tail {s : Sg} {k : Nat} {sep : List UInt8} {sp : Toks} (h1 : ∀ r, tokM (sep ++ r) [] = sp ++ tokM r []) (h2 : ∀ r, sepB (sep ++ r)) : ∀ (A : List (List Int)), (∀ a ∈ A, TokAt s k a) → ∀ r, sepB r → tokM (Lib.joinTail sep (A.map (txt k s)) ++ r) [] = tkTail sp (A.map (tk k s)) ++ tokM r [] ∧ sepB (Lib.joinTail sep (A.map (txt k s)) ++ r)
  | [], _, r, hr => by
    have e : Lib.joinTail sep (([] : List (List Int)).map (txt k s)) = [] := rfl
    rw [e]; exact ⟨rfl, hr⟩
  | a :: A, h, r, hr => by
    obtain ⟨i1, i2⟩ := tok_tail h1 h2 A (fun b hb => h b (by simp [hb])) r hr
    have e : Lib.joinTail sep ((a :: A).map (txt k s)) ++ r = sep ++ (txt k s a ++ (Lib.joinTail sep (A.map (txt k s)) ++ r)) := by
      unfold Lib.joinTail
      simp [List.append_assoc]
    rw [e]
    refine ⟨?_, h2 _⟩
    rw [h1, h a (by simp) _ i2, i1]
    simp only [List.map_cons, tkTail, List.append_assoc]
theorem tok_txt {s : Sg} {k : Nat} : ∀ (f : Nat) {t : List Int}, okT s t = true → t.length ≤ f → TokAt s k t
  | 0, t, h, hf => by have := (okT_parts h).2.1; omega
  | f + 1, t, h, hf => by
    intro r hr
    have hok := (okT_parts h).1
    obtain ⟨n, x, ht, hc, hs⟩ := okT_head h
    obtain ⟨g1, g2, g3⟩ := argsT_spec h
    have hh : t.headD 0 = n := by rw [ht]; rfl
    by_cases hn : n < 0
    · have e := okT_varT h (by rw [hh]; exact hn)
      rw [hh] at e
      rw [e, txt_neg hn, tk_neg hn]
      have hv : (-n - 1).toNat < 12 := by simp [codeOk] at hc; omega
      rw [tok_all (by rw [dec_dgv hv]; exact dgv_word _ hv) (by simp) hr]
      rfl
    · have hnl : n < s.length := by simp [codeOk] at hc; omega
      obtain ⟨n1, n2, -⟩ := nm_all hok (n := n) (by omega) hnl
      have hne : nmL s n ≠ [] := fun e => by rw [e] at n2; simp at n2
      have nW := isLet_isW n1
      have hA : ∀ a ∈ argsT s t, TokAt s k a := fun a ha => by
        have hl2 := len_flatten ha
        have : 1 + (argsT s t).flatten.length = t.length := by
          have := congrArg List.length g2
          rw [List.length_cons] at this; omega
        exact tok_txt f (g3 _ ha) (by omega)
      rw [txt_node h (by rw [hh]; omega), tk_node h (by rw [hh]; omega), hh]
      rw [hh] at g1
      obtain ⟨A, hAe⟩ : ∃ A, argsT s t = A := ⟨_, rfl⟩
      rw [hAe] at hA g1 ⊢
      have s32 : ∀ r, tokM ([32] ++ r) [] = [[32]] ++ tokM r [] := fun r => tok_sign (by decide)
      have z32 : ∀ r, sepB (([32] : List UInt8) ++ r) := fun r => sep_cons (by decide)
      have s44 : ∀ r, tokM ([44, 32] ++ r) [] = [[44], [32]] ++ tokM r [] := fun r => by
        rw [show ([44, 32] : List UInt8) ++ r = 44 :: (32 :: r) from rfl, tok_sign (by decide), tok_sign (by decide)]; rfl
      have z44 : ∀ r, sepB (([44, 32] : List UInt8) ++ r) := fun r => sep_cons (by decide)
      unfold comb tkC
      by_cases hk1 : k = 1
      · rw [if_pos hk1, if_pos hk1, List.append_assoc]
        obtain ⟨i1, i2⟩ := tok_tail s32 z32 A hA r hr
        rw [tok_all nW hne i2, i1]
        rfl
      · rw [if_neg hk1, if_neg hk1]
        by_cases hk2 : k = 2
        · rw [if_pos hk2, if_pos hk2]
          by_cases hn0 : n = 0
          · rw [if_pos hn0, if_pos hn0]
            have h2 : A.length = 2 := by rw [g1, hn0, ar0_two hok]
            match A, h2 with
            | [a, b], _ =>
              have ha := hA a (by simp)
              have hb := hA b (by simp)
              have e : (40 :: (Lib.join ([a, b].map (txt k s)) [32, 45, 62, 32] ++ [41])) ++ r = 40 :: (txt k s a ++ (32 :: 45 :: 62 :: 32 :: (txt k s b ++ (41 :: r)))) := by
                simp [Lib.join, List.append_assoc]
              rw [e, tok_sign (by decide), ha _ (sep_cons (by decide)), tok_sign (by decide), tok_sign (by decide), tok_sign (by decide), tok_sign (by decide), hb _ (sep_cons (by decide)), tok_sign (by decide)]
              simp [List.append_assoc]
          · rw [if_neg hn0, if_neg hn0]
            cases A with
            | nil =>
              rw [if_pos (by rfl)]
              rw [tok_all nW hne hr]; rfl
            | cons a A =>
              rw [if_neg (by simp)]
              have hr' : sepB (41 :: r) := sep_cons (by decide)
              obtain ⟨i1, i2⟩ := tok_tail s44 z44 A (fun b hb => hA b (by simp [hb])) (41 :: r) hr'
              have e : nmL s n ++ (40 :: (Lib.join ((a :: A).map (txt k s)) [44, 32] ++ [41])) ++ r = nmL s n ++ (40 :: (txt k s a ++ (Lib.joinTail [44, 32] (A.map (txt k s)) ++ (41 :: r)))) := by
                rw [List.map_cons, Lib.join_cons]
                simp [List.append_assoc]
              rw [e, tok_all nW hne (sep_cons (by decide)), tok_sign (by decide), hA a (by simp) _ i2, i1, tok_sign (by decide)]
              simp [List.append_assoc]
        · rw [if_neg hk2, if_neg hk2]
          cases A with
          | nil =>
            rw [if_pos (by rfl)]
            rw [tok_all nW hne hr]; rfl
          | cons a A =>
            rw [if_neg (by simp)]
            have hr' : sepB (93 :: r) := sep_cons (by decide)
            obtain ⟨i1, i2⟩ := tok_tail s32 z32 (a :: A) hA (93 :: r) hr'
            have e : 91 :: (nmL s n ++ Lib.joinTail [32] ((a :: A).map (txt k s)) ++ [93]) ++ r = 91 :: (nmL s n ++ (Lib.joinTail [32] ((a :: A).map (txt k s)) ++ (93 :: r))) := by
              simp [List.append_assoc]
            rw [e, tok_sign (by decide), tok_all nW hne i2, i1, tok_sign (by decide)]
            simp [List.append_assoc]
end Go.Proofs.YtljkojpooajlhaaGreatDoor
