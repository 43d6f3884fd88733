/- What Read answers; the bytes of a written text. No program is named. -/
import Derived.Test.YtljkojpooajlhaaDoorMathTok2
namespace Go.Proofs.YtljkojpooajlhaaDoor

def Asc (l : List UInt8) : Prop := ∀ c ∈ l, c.toNat < 128
theorem Asc.append {a b : List UInt8} (ha : Asc a) (hb : Asc b) : Asc (a ++ b) := fun c hc => by
  rcases List.mem_append.1 hc with h | h
  · exact ha c h
  · exact hb c h
theorem Asc.cons {x : UInt8} {b : List UInt8} (ha : x.toNat < 128) (hb : Asc b) : Asc (x :: b) := fun c hc => by
  rcases List.mem_cons.1 hc with h | h
  · rw [h]; exact ha
  · exact hb c h
theorem Asc.nil : Asc [] := fun c hc => absurd hc (by simp)
theorem isLet_asc : ∀ c : UInt8, isLet c = true → c.toNat < 128 := fun c h => by
  unfold isLet at h
  simp only [Bool.or_eq_true, Bool.and_eq_true, decide_eq_true_eq] at h
  omega
theorem Asc.tail {sep : List UInt8} (hs : Asc sep) : ∀ (A : List (List UInt8)), (∀ a ∈ A, Asc a) → Asc (Lib.joinTail sep A)
  | [], _ => by unfold Lib.joinTail; exact .nil
  | x :: A, h => by
    unfold Lib.joinTail
    exact (hs.append (h x (by simp))).append (Asc.tail hs A (fun a ha => h a (by simp [ha])))
theorem Asc.join {sep : List UInt8} (hs : Asc sep) : ∀ (A : List (List UInt8)), (∀ a ∈ A, Asc a) → Asc (Lib.join A sep)
  | [], _ => by unfold Lib.join; exact .nil
  | x :: A, h => by
    rw [Lib.join_cons]
    exact (h x (by simp)).append (Asc.tail hs A (fun a ha => h a (by simp [ha])))
theorem dgv_asc : ∀ v, v < 12 → ∀ c ∈ dgv v, c.toNat < 128 := by decide
theorem txt_asc {s : Sg} {k : Nat} : ∀ (f : Nat) {t : List Int}, okT s t = true → t.length ≤ f → Asc (txt k s t)
  | 0, t, h, hf => by have := (okT_parts h).2.1; omega
  | f + 1, t, h, hf => by
    have hok := (okT_parts h).1
    obtain ⟨n, x, ht, hc, hs⟩ := okT_head h
    obtain ⟨g1, g2, g3⟩ := argsT_spec h
    have hh : t.headD 0 = n := by rw [ht]; rfl
    by_cases hn : n < 0
    · have e := okT_varT h (by rw [hh]; exact hn)
      rw [hh] at e
      rw [e, txt_neg hn]
      have hv : (-n - 1).toNat < 12 := by simp [codeOk] at hc; omega
      rw [dec_dgv hv]
      exact .cons (by decide) (dgv_asc _ hv)
    · have hnl : n < s.length := by simp [codeOk] at hc; omega
      obtain ⟨n1, n2, -⟩ := nm_all hok (n := n) (by omega) hnl
      have hN : Asc (nmL s n) := fun c hc => isLet_asc c (List.all_eq_true.1 n1 c hc)
      have hA : ∀ a ∈ (argsT s t).map (txt k s), Asc a := fun a ha => by
        obtain ⟨u, hu, rfl⟩ := List.mem_map.1 ha
        have hl2 := len_flatten hu
        have : 1 + (argsT s t).flatten.length = t.length := by
          have := congrArg List.length g2
          rw [List.length_cons] at this; omega
        exact txt_asc f (g3 _ hu) (by omega)
      rw [txt_node h (by rw [hh]; omega), hh]
      have h32 : Asc [32] := .cons (by decide) .nil
      have h44 : Asc [44, 32] := .cons (by decide) (.cons (by decide) .nil)
      have har : Asc [32, 45, 62, 32] := .cons (by decide) (.cons (by decide) (.cons (by decide) (.cons (by decide) .nil)))
      have h41 : Asc [41] := .cons (by decide) .nil
      have h93 : Asc [93] := .cons (by decide) .nil
      unfold comb
      split
      · exact hN.append (Asc.tail h32 _ hA)
      · split
        · split
          · exact .cons (by decide) ((Asc.join har _ hA).append h41)
          · split
            · exact hN
            · exact hN.append (.cons (by decide) ((Asc.join h44 _ hA).append h41))
        · split
          · exact hN
          · exact .cons (by decide) ((hN.append (Asc.tail h32 _ hA)).append h93)
def findR (s : Sg) (k : Nat) (b : List UInt8) : List Int × Int :=
  match hgo s k b [] [] with
  | some t => if okT s t = true ∧ txt k s t = b then (t, 0) else ([], 2)
  | none => ([], 2)
def readE (s : Sg) (k : Int) (b : List UInt8) : List Int × Int :=
  if okSign s = true then (if (decide (1 ≤ k) && decide (k ≤ 3)) = true then (if b.length ≤ 65536 then findR s k.toNat b else ([], 3)) else ([], 7)) else ([], 1)
theorem find_ok {s : Sg} {k : Nat} {b : List UInt8} {t : List Int} (h : okT s t = true) (hb : txt k s t = b) : findR s k b = (t, 0) := by
  subst hb
  unfold findR
  rw [hgo_back h]
  simp [h]
theorem find_no {s : Sg} {k : Nat} {b : List UInt8} (h : ∀ t, okT s t = true → txt k s t = b → False) : findR s k b = ([], 2) := by
  unfold findR
  split
  · rename_i t _
    rw [if_neg (fun e => h t e.1 e.2)]
  · rfl
theorem find_inv {s : Sg} {k : Nat} {b : List UInt8} : (∃ t, okT s t = true ∧ txt k s t = b ∧ findR s k b = (t, 0)) ∨ findR s k b = ([], 2) := by
  by_cases h : ∃ t, okT s t = true ∧ txt k s t = b
  · obtain ⟨t, h1, h2⟩ := h
    exact .inl ⟨t, h1, h2, find_ok h1 h2⟩
  · exact .inr (find_no fun t h1 h2 => h ⟨t, h1, h2⟩)
/-- the tokens read, as the program does it -/
theorem find_tok {s : Sg} {k : Nat} (hk : k = 1 ∨ k = 2 ∨ k = 3) {b : List UInt8} {L : Toks} (hL : (∀ c ∈ b, c.toNat < 128) → L = tokM b []) :
    (rdM k s 62 (L, []) = none → findR s k b = ([], 2)) ∧ (∀ L' T, rdM k s 62 (L, []) = some (L', T) → (okT s T = true → txt k s T ≠ b → findR s k b = ([], 2)) ∧ (okT s T = false → findR s k b = ([], 2))) := by
  have key : ∀ t, okT s t = true → txt k s t = b → rdM k s 62 (L, []) = some ([], t) := fun t h1 h2 => by
    rw [hL (by rw [← h2]; exact txt_asc t.length h1 (Nat.le_refl _)), ← h2]
    exact rd_back hk h1
  refine ⟨fun hn => find_no fun t h1 h2 => ?_, fun L' T hs => ⟨fun g1 g2 => find_no fun t h1 h2 => ?_, fun g1 => find_no fun t h1 h2 => ?_⟩⟩
  · rw [key t h1 h2] at hn; cases hn
  · have := key t h1 h2
    rw [hs] at this
    have e : T = t := congrArg Prod.snd (Option.some.inj this)
    subst e; exact g2 h2
  · have := key t h1 h2
    rw [hs] at this
    have e : T = t := congrArg Prod.snd (Option.some.inj this)
    subst e; rw [h1] at g1; cases g1
/-- the map of names, half made -/
def nameJ (s : Sg) (j : Nat) (w : List UInt8) : Option Nat := (List.range j).find? (fun i : Nat => decide (nmL s (i : Int) = w))
theorem nameJ_end (s : Sg) (w : List UInt8) : nameJ s s.length w = nameI s w := rfl
theorem nameJ_zero (s : Sg) (w : List UInt8) : nameJ s 0 w = none := rfl
theorem nameJ_new {s : Sg} (h : okSign s = true) {j : Nat} (hj : j < s.length) : nameJ s j (nmL s (j : Int)) = none := by
  unfold nameJ
  rw [List.find?_eq_none]
  intro i hi he
  rw [decide_eq_true_eq] at he
  have := List.mem_range.1 hi
  have := nm_inj h (by omega) hj he
  omega
theorem nameJ_succ {s : Sg} (h : okSign s = true) {j : Nat} (hj : j < s.length) (w : List UInt8) : nameJ s (j + 1) w = if w = nmL s (j : Int) then some j else nameJ s j w := by
  have e : nameJ s (j + 1) w = (nameJ s j w).or (if w = nmL s (j : Int) then some j else none) := by
    unfold nameJ
    rw [List.range_succ, List.find?_append]
    congr 1
    by_cases hw : w = nmL s (j : Int)
    · subst hw; simp
    · rw [if_neg hw, List.find?_cons_of_neg (by simpa using fun e => hw e.symm)]; rfl
  rw [e]
  by_cases hw : w = nmL s (j : Int)
  · rw [if_pos hw, if_pos hw, hw, nameJ_new h hj]; rfl
  · rw [if_neg hw, if_neg hw]; simp
end Go.Proofs.YtljkojpooajlhaaDoor
