/- The proof of a statement, some of its texts joined in build order: part D. -/
import Derived.Test.YtfjodhgbbefkjaaGreatDoorMathComp
import Derived.Test.YtfjodhgbbefkjaaGreatDoorMsB
import Derived.Test.YtfjodhgbbefkjaaGreatDoorMsC
import Derived.Test.YtfjodhgbbefkjaaGreatDoorMathCarry
import Derived.Test.YtfjodhgbbefkjaaGreatDoorWalkE
import Derived.BigRegion
/- Dictionaries undone. No program is named. -/
namespace Go.Proofs.YtfjodhgbbefkjaaGreatDoor

theorem getD_at {α : Type} {l : List α} {i : Nat} {x : α} (h : i < l.length) : l.getD i x = l[i] := by
  rw [List.getD_eq_getElem?_getD, List.getElem?_eq_getElem h]; rfl
theorem getD_set_eq {α : Type} {l : List α} {i : Nat} {x v : α} (h : i < l.length) : (l.set i v).getD i x = v := by
  rw [getD_at (by rw [List.length_set]; exact h), List.getElem_set_self]
theorem getD_set_ne {α : Type} {l : List α} {i j : Nat} {x v : α} (h : i ≠ j) : (l.set i v).getD j x = l.getD j x := by
  rw [List.getD_eq_getElem?_getD, List.getElem?_set_ne h, ← List.getD_eq_getElem?_getD]
theorem invA_at {l : List Int} {n : Nat} (hn : l.Nodup) (hr : ∀ x ∈ l, 0 ≤ x ∧ x < n) : ∀ {k : Nat}, k ≤ l.length → ∀ i, i < k → (invA l n k).getD (l.getD i 0).toNat 0 = (i : Int)
  | 0, _, i, hi => by omega
  | k + 1, hk, i, hi => by
    rw [invA]
    have hki : k < l.length := by omega
    have hii : i < l.length := by omega
    have rk := hr _ (List.getElem_mem hki)
    have ri := hr _ (List.getElem_mem hii)
    rw [getD_at hki, getD_at hii]
    by_cases e : i = k
    · subst e
      rw [getD_set_eq (by rw [invA_len]; omega)]
    · have hne : l[k] ≠ l[i] := fun h => e ((List.getElem_inj hn).1 h.symm)
      rw [getD_set_ne (by omega)]
      have := invA_at hn hr (k := k) (by omega) i (by omega)
      rwa [getD_at hii] at this
theorem invD_at {d : Ways} {n : Nat} (hn : (tosD d).Nodup) (hr : ∀ x ∈ tosD d, 0 ≤ x ∧ x < n) : ∀ {k : Nat}, k ≤ d.length → ∀ i, i < k → (invD d n k).getD (d.getD i (0, [])).1.toNat (0, []) = ((i : Int), invA (d.getD i (0, [])).2 (d.getD i (0, [])).2.length (d.getD i (0, [])).2.length)
  | 0, _, i, hi => by omega
  | k + 1, hk, i, hi => by
    rw [invD]
    have hki : k < d.length := by omega
    have hii : i < d.length := by omega
    have mk : d[k].1 ∈ tosD d := List.mem_map.2 ⟨_, List.getElem_mem hki, rfl⟩
    have mi : d[i].1 ∈ tosD d := List.mem_map.2 ⟨_, List.getElem_mem hii, rfl⟩
    have rk := hr _ mk
    have ri := hr _ mi
    by_cases e : i = k
    · subst e
      rw [getD_set_eq (by rw [invD_len, getD_at hii]; omega)]
    · have hne : d[k].1 ≠ d[i].1 := fun h => e (by
        have := (List.getElem_inj (i := i) (j := k) (h₀ := by unfold tosD; rw [List.length_map]; exact hii) (h₁ := by unfold tosD; rw [List.length_map]; exact hki) hn).1 (by unfold tosD; rw [List.getElem_map, List.getElem_map]; exact h.symm)
        exact this)
      rw [getD_set_ne (by rw [getD_at hki, getD_at hii]; omega)]
      exact invD_at hn hr (by omega) i (by omega)
/-- what an order's inverse is -/
theorem invA_perm {l : List Int} (h : l.Perm (ascL l.length)) : ∀ i, i < l.length → (invA l l.length l.length).getD (l.getD i 0).toNat 0 = (i : Int) :=
  invA_at (h.nodup_iff.2 (ascL_nodup _)) (fun _ hx => mem_ascL.1 (h.mem_iff.1 hx)) (Nat.le_refl _)
theorem ord_surj {l : List Int} (h : l.Perm (ascL l.length)) {p : Nat} (hp : p < l.length) : ∃ q, ∃ hq : q < l.length, l[q] = (p : Int) := by
  have : (p : Int) ∈ l := h.mem_iff.2 (mem_ascL.2 (by omega))
  obtain ⟨q, hq, e⟩ := List.getElem_of_mem this
  exact ⟨q, hq, e⟩
theorem invA_ord {l : List Int} (h : l.Perm (ascL l.length)) : ordB (invA l l.length l.length) = true := by
  rw [ordB_iff]
  intro i hi
  rw [invA_len] at hi
  have := invA_perm h i hi
  have hr := mem_ascL.1 (h.mem_iff.1 (List.getElem_mem hi))
  rw [getD_at hi, getD_at (by rw [invA_len]; omega)] at this
  exact this ▸ List.getElem_mem _
theorem invA_map {l : List Int} (h : l.Perm (ascL l.length)) : (invA l l.length l.length).map (fun j => l.getD j.toNat 0) = ascL l.length := by
  apply List.ext_getElem
  · rw [List.length_map, invA_len, ascL_len]
  · intro p h1 h2
    rw [List.length_map, invA_len] at h1
    obtain ⟨q, hq, e⟩ := ord_surj h h1
    have := invA_perm h q hq
    rw [getD_at hq, e, Int.toNat_natCast, getD_at (by rw [invA_len]; exact h1)] at this
    rw [List.getElem_map, ascL_get, this, Int.toNat_natCast, getD_at hq, e]
theorem invA_inv {l : List Int} (h : l.Perm (ascL l.length)) : invA (invA l l.length l.length) l.length l.length = l := by
  have h2 := ordB_perm (invA_ord h)
  have h3 := invA_perm h2
  rw [invA_len] at h3
  apply List.ext_getElem
  · rw [invA_len]
  · intro q hq1 hq
    have hr := mem_ascL.1 (h.mem_iff.1 (List.getElem_mem hq))
    have e1 := invA_perm h q hq
    rw [getD_at hq] at e1
    have e2 := h3 l[q].toNat (by omega)
    rw [e1, Int.toNat_natCast, getD_at hq1] at e2
    omega
theorem tosD_get {d : Ways} {i : Nat} (h : i < (tosD d).length) : (tosD d)[i] = (d[i]'(by simpa [tosD] using h)).1 := by simp [tosD]
section
variable {a b : Sg} {d : Ways}
theorem one_parts (hv : validD a b d = true) (ho : oneB a b d = true) : a.length = b.length ∧ (tosD d).Nodup ∧ ∀ x ∈ tosD d, 0 ≤ x ∧ x < b.length := by
  unfold oneB at ho
  rw [Bool.and_eq_true, decide_eq_true_eq, decide_eq_true_eq] at ho
  exact ⟨ho.1, ho.2, tos_range (validD_parts hv).2.2.2.1⟩
theorem inv_at (hv : validD a b d = true) (ho : oneB a b d = true) {i : Nat} (hi : i < d.length) : (invD d b.length d.length).getD (d.getD i (0, [])).1.toNat (0, []) = ((i : Int), invA (d.getD i (0, [])).2 (d.getD i (0, [])).2.length (d.getD i (0, [])).2.length) :=
  invD_at (one_parts hv ho).2.1 (one_parts hv ho).2.2 (Nat.le_refl _) i hi
theorem one_surj (hv : validD a b d = true) (ho : oneB a b d = true) {j : Nat} (hj : j < b.length) : ∃ i, i < d.length ∧ (d.getD i (0, [])).1 = (j : Int) := by
  obtain ⟨h1, h2, h3⟩ := one_parts hv ho
  have hl := (validD_parts hv).2.2.1
  have hp : (ascL b.length).Perm (tosD d) := perm_of_sub h2 (fun x hx => mem_ascL.2 (h3 x hx)) (by rw [ascL_len]; unfold tosD; rw [List.length_map]; omega)
  have : (j : Int) ∈ tosD d := hp.mem_iff.1 (mem_ascL.2 (by omega))
  obtain ⟨w, hw, e⟩ := List.mem_map.1 this
  obtain ⟨i, hi, rfl⟩ := List.getElem_of_mem hw
  exact ⟨i, hi, by rw [getD_at hi]; exact e⟩
theorem inv_valid (hv : validD a b d = true) (ho : oneB a b d = true) : validD b a (invD d b.length d.length) = true := by
  obtain ⟨p1, p2, p3, -, p5, p6⟩ := validD_parts hv
  obtain ⟨h1, h2, h3⟩ := one_parts hv ho
  have hl := okSign_len p1
  have h0 := inv_at hv ho (i := 0) (by omega)
  rw [p5, p6] at h0
  refine validD_of p2 p1 (invD_len _ _ _) (by rw [show (0 : Nat) = (0 : Int).toNat from rfl, h0]; rfl) (by rw [show (0 : Nat) = (0 : Int).toNat from rfl, h0]; rfl) (fun j hj => ?_)
  rw [invD_len] at hj
  obtain ⟨i, hi, e⟩ := one_surj hv ho hj
  have hg := inv_at hv ho hi
  obtain ⟨v1, v2, v3, v4, v5⟩ := validD_at hv (i := i) (by omega)
  rw [e, Int.toNat_natCast] at hg
  rw [e] at v3
  rw [hg]
  unfold wayOk
  rw [Bool.and_eq_true, Bool.and_eq_true, Bool.and_eq_true, Bool.and_eq_true, decide_eq_true_eq, decide_eq_true_eq, decide_eq_true_eq, decide_eq_true_eq]
  refine ⟨⟨by show (0 : Int) ≤ (i : Int); omega, by show (i : Int) ≤ (a.length : Int) - 1; omega⟩, v3.symm, ?_, invA_ord v5⟩
  rw [invA_len, v4, v3]
theorem inv_tos (hv : validD a b d = true) (ho : oneB a b d = true) : (tosD (invD d b.length d.length)).Nodup := by
  obtain ⟨h1, h2, h3⟩ := one_parts hv ho
  rw [List.Nodup, List.pairwise_iff_getElem]
  intro j1 j2 g1 g2 hlt he
  have g1' := g1
  have g2' := g2
  unfold tosD at g1' g2'
  rw [List.length_map, invD_len] at g1' g2'
  obtain ⟨i1, hi1, e1⟩ := one_surj hv ho g1'
  obtain ⟨i2, hi2, e2⟩ := one_surj hv ho g2'
  have k1 := inv_at hv ho hi1
  have k2 := inv_at hv ho hi2
  rw [e1, Int.toNat_natCast, getD_at (by rw [invD_len]; exact g1')] at k1
  rw [e2, Int.toNat_natCast, getD_at (by rw [invD_len]; exact g2')] at k2
  rw [tosD_get, tosD_get, k1, k2] at he
  have he2 : (i1 : Int) = (i2 : Int) := he
  have : i1 = i2 := by omega
  subst this
  rw [e1] at e2
  omega
theorem inv_one (hv : validD a b d = true) (ho : oneB a b d = true) : oneB b a (invD d b.length d.length) = true := by
  obtain ⟨h1, -, -⟩ := one_parts hv ho
  unfold oneB
  rw [decide_eq_true h1.symm, decide_eq_true (inv_tos hv ho)]; rfl
/-- undone twice -/
theorem inv_inv (hv : validD a b d = true) (ho : oneB a b d = true) : invD (invD d b.length d.length) a.length (invD d b.length d.length).length = d := by
  obtain ⟨h1, h2, h3⟩ := one_parts hv ho
  have hl := (validD_parts hv).2.2.1
  have hv2 := inv_valid hv ho
  have ho2 := inv_one hv ho
  apply List.ext_getElem
  · rw [invD_len]; exact hl.symm
  · intro i g1 hi
    have k1 := inv_at hv ho hi
    have r := h3 d[i].1 (List.mem_map.2 ⟨_, List.getElem_mem hi, rfl⟩)
    have k2 := inv_at hv2 ho2 (i := (d.getD i (0, [])).1.toNat) (by rw [invD_len, getD_at hi]; omega)
    rw [k1] at k2
    rw [Int.toNat_natCast, getD_at g1, invA_len, getD_at hi] at k2
    obtain ⟨v1, v2, v3, v4, v5⟩ := validD_at hv (i := i) (by omega)
    rw [getD_at hi] at v1 v5
    rw [k2, invA_inv v5, Int.toNat_of_nonneg v1]
theorem itsD_map (s : Sg) : ∀ k, itsD s k = (List.range k).map (fun i : Nat => ((i : Int), ascL (arAt s i).toNat))
  | 0 => rfl
  | k + 1 => by rw [itsD, itsD_map s k, List.range_succ, List.map_append]; rfl
theorem itsD_get {s : Sg} {k i : Nat} (h : i < k) : (itsD s k).getD i (0, []) = ((i : Int), ascL (arAt s i).toNat) := by
  rw [itsD_map, getD_at (by simpa using h), List.getElem_map, List.getElem_range]
/-- composed with the inverse: nothing changes -/
theorem inv_comp (hv : validD a b d = true) (ho : oneB a b d = true) : compD d (invD d b.length d.length) d.length = itsD a a.length := by
  have hl := (validD_parts hv).2.2.1
  rw [compD_map, itsD_map, ← hl]
  apply List.map_congr_left
  intro i hi
  have hi' := List.mem_range.1 hi
  have k1 := inv_at hv ho (i := i) (by omega)
  obtain ⟨v1, v2, v3, v4, v5⟩ := validD_at hv (i := i) (by omega)
  unfold compW
  rw [k1]
  simp only
  rw [invA_map v5, ← v4, Int.toNat_natCast]
theorem its_carry {s : Sg} (hs : okSign s = true) : ∀ (f : Nat) {t : List Int}, okT s t = true → t.length ≤ f → carT s (itsD s s.length) t = t
  | 0, t, h, hf => by have := (okT_parts h).2.1; omega
  | f + 1, t, h, hf => by
    obtain ⟨n, x, ht, hc, hsk⟩ := okT_head h
    obtain ⟨g1, g2, g3⟩ := argsT_spec h
    by_cases hn : n < 0
    · have har : ar s n = 0 := ar_neg hn
      rw [har, skip_zero] at hsk
      simp only [Option.some.injEq] at hsk
      subst hsk
      subst ht
      exact carT_neg hn
    · have hh : t.headD 0 = n := by rw [ht]; rfl
      have hnl : n < s.length := by simp [codeOk] at hc; omega
      have ha := (ar_at hs (n := n) (by omega) hnl).1
      have hfl : (argsT s t).flatten.length + 1 = t.length := by
        have := congrArg List.length g2
        rw [List.length_cons] at this; omega
      rw [carT_node h (by rw [hh]; omega), hh]
      have hmap : (argsT s t).map (carT s (itsD s s.length)) = argsT s t := by
        conv => rhs; rw [← List.map_id (argsT s t)]
        apply List.map_congr_left
        intro u hu
        have := len_flatten hu
        exact its_carry hs f (g3 u hu) (by omega)
      rw [hmap]
      unfold carA
      rw [itsD_get (by omega)]
      simp only
      rw [Int.toNat_of_nonneg (by omega), ← ha, Int.toNat_natCast]
      rw [hh] at g1 g2
      rw [← g1, ascL_map]
      exact g2.symm
/-- carried there and back -/
theorem back_carry (hv : validD a b d = true) (ho : oneB a b d = true) {t : List Int} (ht : okT a t = true) : carT b (invD d b.length d.length) (carT a d t) = t := by
  rw [comp_carry hv (inv_valid hv ho) t.length ht (Nat.le_refl _), inv_comp hv ho]
  exact its_carry (validD_parts hv).1 t.length ht (Nat.le_refl _)
end
end Go.Proofs.YtfjodhgbbefkjaaGreatDoor

/- Walks: the closure of tongue.carried. -/
namespace Go.Proofs.YtfjodhgbbefkjaaGreatDoor
open Go Go.RowKit Go.Maps

theorem OwnI.appU {T : Nat → Prop} {w wr W : World} {out : Value} {l l2 l' : List Int} (ho : OwnI wr w.heap.size out l) (hB : Below w.heap.size w wr) (hb : Below wr.heap.size wr W) {a : Option Addr} {c : Nat} (hx : Ints T W a c l2) (hl' : l' = l ++ l2) (hl : l.length ≤ 1000) (hl2 : l2.length ≤ 1000) :
    ∃ v' w', RowKit.Hid ((Builtin.append_ #[41, 41] 41 #[out, .slice a l2.length c]).run Tryz.prog W = .ok v' w') ∧ RowKit.Hid (OwnI w' w.heap.size v' l') ∧ RowKit.Hid (Below w.heap.size w w') := by
  have hB2 := bcall hB hb
  have ho1 := OwnL.call ho hb
  obtain ⟨v', w', hrun, ho', hg, -⟩ := ho1.append_run (P := Tryz.prog) (t := 41) (ty := 41) Tryz.underlying41 infoInt rfl hx (fun _ _ _ h => h) (by omega) (by unfold big; omega) hB2.size
  exact ⟨v', w', Lib.hid hrun, Lib.hid (by rw [hl']; exact ho'), Lib.hid (hB2.grown hg hB2.size (fun k e => (ho1.lt k e).1))⟩
theorem flat_le {A : List (List Int)} {n : Nat} (h : ∀ u ∈ A, u.length ≤ n) : A.flatten.length ≤ A.length * n := by
  induction A with
  | nil => simp
  | cons x A ih =>
    have h1 := h x (by simp)
    have h2 := ih (fun u hu => h u (by simp [hu]))
    rw [List.flatten_cons, List.length_append, List.length_cons, Nat.succ_mul]
    omega
abbrev caV (bt ba bs bw bd : Nat) : Value := .func (.func 112) #[] #[.pointer (some ⟨bt, 0, none⟩), .pointer (some ⟨ba, 0, none⟩), .pointer (some ⟨bs, 0, none⟩), .pointer (some ⟨bw, 0, none⟩), .pointer (some ⟨bd, 0, none⟩)]
/-- the boxes of a call of carried -/
structure CBox (wI : World) (bt ba bs bw bd : Nat) (a1 a2 a3 : Option Addr) (c1 c2 c3 : Nat) (s : Sg) (t : List Int) (d : Ways) : Prop where
  ct : wI.cell? ⟨bt, 0, none⟩ = some (.slice a2 t.length c2)
  cs : wI.cell? ⟨bs, 0, none⟩ = some (.slice a1 s.length c1)
  cw : wI.cell? ⟨bw, 0, none⟩ = some (caV bt ba bs bw bd)
  cd : wI.cell? ⟨bd, 0, none⟩ = some (.slice a3 d.length c3)
  nt : bt ≠ ba
  ns : bs ≠ ba
  nw : bw ≠ ba
  nd : bd ≠ ba
  sg : Sign (fun b => b ≠ ba) wI a1 c1 s
  tm : Ints (fun b => b ≠ ba) wI a2 c2 t
  wy : WaysL (fun b => b ≠ ba) wI a3 c3 d
def caRet (W : World) (ba p : Nat) (s : Sg) (d : Ways) (u : List Int) (e : Ending) (w' : World) : Prop := ∃ v, e = .returned v ∧ OwnI w' W.heap.size v (carT s d u) ∧ W.grownBy w' (some ba) ∧ AtBox w' ba (p + u.length)
def CaAt (wI : World) (bt ba bs bw bd : Nat) (s : Sg) (d : Ways) (p : Nat) (u : List Int) : Prop :=
  ∀ W, wI.grownBy W (some ba) → AtBox W ba p → Calls Tryz.prog 112 #[.pointer (some ⟨bt, 0, none⟩), .pointer (some ⟨ba, 0, none⟩), .pointer (some ⟨bs, 0, none⟩), .pointer (some ⟨bw, 0, none⟩), .pointer (some ⟨bd, 0, none⟩)] W (caRet W ba p s d u)
set_option maxRecDepth 20000 in
set_option maxHeartbeats 2000000 in
/-- a variable is carried -/
theorem ca_var {wI : World} {bt ba bs bw bd : Nat} {a1 a2 a3 : Option Addr} {c1 c2 c3 : Nat} {s : Sg} {t : List Int} {d : Ways} (hb : CBox wI bt ba bs bw bd a1 a2 a3 c1 c2 c3 s t d) (hl : t.length ≤ 60) {p : Nat} (hp : p < t.length) (hn : t[p] < 0) :
    CaAt wI bt ba bs bw bd s d p [t[p]] := by
  intro W hg hA
  have hAg : Agree (fun b => b ≠ ba) wI W := .of_grown hg (fun b hb e => hb (by cases e; rfl))
  obtain ⟨b2, o2, rfl, hb2, q2, r2⟩ := (hb.tm.same hAg).int p hp
  have qt := gby_cell hg hb.ct hb.nt
  have qa := hA.cell
  have fa := hA.frozen
  obtain ⟨x, hx⟩ : ∃ x, t[p] = x := ⟨_, rfl⟩
  rw [hx] at q2 hn r2 ⊢
  have hcar : carT s d [x] = [x] := carT_neg hn
  have hw0 : IntKind.i64.wrap ((p : Int) + 1) = (p : Int) + 1 := by rw [IntWalk.i64_in _ (by omega)]
  have e1 : ((p + 1 : Nat) : Int) = (p : Int) + 1 := by omega
  have hdv : decide (x < 0) = true := by simpa using hn
  have m2 := hb.tm.le
  obtain ⟨W2, hW2⟩ : ∃ W2, W.setCell ⟨ba, 0, none⟩ (.int .i64 ((p : Int) + 1)) = W2 := ⟨_, rfl⟩
  have hA2 : AtBox W2 ba (p + 1) := by rw [← hW2, ← e1]; exact hA.set (p + 1)
  have hg2 : W.grownBy W2 (some ba) := by rw [← hW2]; exact gby_setAt _ _ _
  have hlit : OwnI (W2.alloc (.cells #[.int .i64 x] 3)) W2.heap.size (.slice (some ⟨W2.heap.size, 0, none⟩) 1 1) [x] := OwnL.lit W2 [x] 3 (by intro y hy; rw [List.mem_singleton] at hy; rw [hy]; exact r2) (by show 1 ≤ maxLen; decide)
  have hA3 : AtBox (W2.alloc (.cells #[.int .i64 x] 3)) ba (p + 1) := hA2.below (below1 _ _)
  have hg3 : W.grownBy (W2.alloc (.cells #[.int .i64 x] 3)) (some ba) := gby_trans' hg2 (gby_below' (below1 _ _))
  have hA3H := Lib.hid hA3
  have hg3H := Lib.hid hg3
  have hW2H := Lib.hid hW2
  have hlH := Lib.hid (OwnL.baseMono hlit hg2.size)
  have hcH := Lib.hid hcar
  clear hb hg hA hAg hn hA2 hg2 hW2 hx e1 hA3 hg3 hlit hcar
  go_enter Tryz.func112, Tryz.ntmps112
  go_upto_region 3 with fail
  rw [hW2H.out]
  clear qt qa fa q2 hb2
  go_wp2_with fail
  go_ret
  exact ⟨_, rfl, by rw [hcH.out]; exact hlH.out, hg3H.out, hA3H.out⟩
def caRel1 (s : Sg) (d : Ways) (t : List Int) (p m ba : Nat) (W2 : World) (out i : Value) (wr : World) : Prop :=
  ∃ (j p' : Nat) (A : List (List Int)), i = .int .i64 j ∧ j ≤ m ∧ A = ((splitK s m (t.drop (p + 1))).take j).map (carT s d) ∧ skip s j (t.drop (p + 1)) = some (t.drop p') ∧ p + 1 ≤ p' ∧ p' ≤ t.length ∧ OwnL (slE intE) (fun b => b ≠ ba) wr W2.heap.size 41 out A ∧ W2.grownBy wr (some ba) ∧ AtBox wr ba p'
def caRel2 (A : List (List Int)) (T : Int) (L : List Int) (W5 : World) (out i : Value) (wr : World) : Prop :=
  ∃ q : Nat, i = .int .i64 q ∧ q ≤ L.length ∧ OwnI wr W5.heap.size out (T :: ((L.take q).map (fun k => A.getD k.toNat [])).flatten) ∧ Below W5.heap.size W5 wr
set_option maxRecDepth 20000 in
set_option maxHeartbeats 4000000 in
/-- a symbol is carried -/
theorem ca_node {wI : World} {bt ba bs bw bd : Nat} {a1 a2 a3 : Option Addr} {c1 c2 c3 : Nat} {s b : Sg} {t : List Int} {d : Ways} (hb : CBox wI bt ba bs bw bd a1 a2 a3 c1 c2 c3 s t d) (hv : validD s b d = true) (hl : t.length ≤ 60)
    {p : Nat} {r : List Int} (hsk : skip s 1 (t.drop p) = some r) (hp : p < t.length) (hn : ¬ t[p] < 0)
    (hrec : ∀ p' r', p < p' → skip s 1 (t.drop p') = some r' → CaAt wI bt ba bs bw bd s d p' (partAt s (t.drop p'))) : CaAt wI bt ba bs bw bd s d p (partAt s (t.drop p)) := by
  intro W hg hA
  obtain ⟨hok, -, hdl, -⟩ := validD_parts hv
  have hAg : Agree (fun b => b ≠ ba) wI W := .of_grown hg (fun b hb e => hb (by cases e; rfl))
  obtain ⟨b2, o2, rfl, hb2, q2, -⟩ := (hb.tm.same hAg).int p hp
  obtain ⟨hp', hc, hss⟩ := skip_drop (k := 0) hsk
  rw [Nat.zero_add] at hss
  obtain ⟨g1, -, -, -⟩ := part_args hsk
  rw [List.getD_eq_getElem?_getD, List.getElem?_eq_getElem hp, Option.getD_some] at g1
  obtain ⟨pr1, pr2, pr3⟩ := part_rest hsk (by omega)
  have hpe := partAt_eq hsk
  obtain ⟨u, hu⟩ : ∃ u, partAt s (t.drop p) = u := ⟨_, rfl⟩
  rw [hu] at g1 pr1 pr2 pr3 hpe ⊢
  have huok : okT s u = true := okT_of_skip hok hpe.2.1 (by omega)
  have hhead : u.headD 0 = t[p] := by
    have h1 := hpe.1
    rw [List.drop_eq_getElem_cons hp] at h1
    cases hu2 : u with
    | nil => rw [hu2] at pr3; simp at pr3
    | cons y z => rw [hu2, List.cons_append] at h1; rw [List.headD_cons]; exact (List.cons.inj h1).1.symm
  obtain ⟨x, hx⟩ : ∃ x, t[p] = x := ⟨_, rfl⟩
  rw [hx] at q2 hn hc hss g1 hhead
  obtain ⟨n, rfl⟩ : ∃ n : Nat, x = (n : Int) := ⟨x.toNat, by omega⟩
  have hns : n < s.length := by
    simp only [codeOk, Bool.or_eq_true, decide_eq_true_eq] at hc
    omega
  have har3 := (arC_ok hok hc).2
  have hari : s[n].2 = ((ar s (n : Int) : Nat) : Int) := by
    have harc := (arC_ok hok hc).1
    rw [← harc]
    unfold arC
    rw [if_neg (by omega), if_pos ⟨by omega, by omega⟩, Int.toNat_natCast, List.getD_eq_getElem?_getD, List.getElem?_eq_getElem hns]; rfl
  have harA : (ar s (n : Int) : Int) = arAt s (n : Int) := (ar_at hok (by omega) (by omega)).1
  obtain ⟨m, hm⟩ : ∃ m, ar s (n : Int) = m := ⟨_, rfl⟩
  rw [hm] at hss g1 har3 hari harA
  have hnd : n < d.length := by omega
  have hdn : d.getD n (0, []) = d[n] := by rw [List.getD_eq_getElem?_getD, List.getElem?_eq_getElem hnd]; rfl
  obtain ⟨w1, w2, w3, w4, w5⟩ := validD_way hv (n := (n : Int)) (by omega) (by omega)
  rw [Int.toNat_natCast, hdn] at w1 w2 w3 w4 w5
  have htx : carT s d u = d[n].1 :: (d[n].2.map (fun k => ((splitK s m (t.drop (p + 1))).map (carT s d)).getD k.toNat [])).flatten := by
    rw [carT_node huok (by rw [hhead]; omega), hhead, g1]
    unfold carA
    rw [Int.toNat_natCast, hdn]
  have hspl : (splitK s m (t.drop (p + 1))).length = m := by
    obtain ⟨f1, -, -⟩ := argsT_spec huok
    rw [g1] at f1; rw [f1, hhead, hm]
  have hlen60 : ∀ y ∈ (splitK s m (t.drop (p + 1))).map (carT s d), y.length ≤ 60 := fun y hy => by
    obtain ⟨f1, f2, f3⟩ := argsT_spec huok
    rw [g1] at f1 f2 f3
    obtain ⟨z, hz, rfl⟩ := List.mem_map.1 hy
    rw [(carT_ok hv z.length (f3 z hz) (Nat.le_refl _)).2]
    exact (okT_parts (f3 z hz)).2.2.1
  have hLr : ∀ k ∈ d[n].2, 0 ≤ k ∧ k < m := fun k hk => by
    have := mem_ascL.1 (w5.mem_iff.1 hk)
    omega
  have qt := gby_cell hg hb.ct hb.nt
  have qa := hA.cell
  have fa := hA.frozen
  have m2 := hb.tm.le
  have hw0 : IntKind.i64.wrap ((p : Int) + 1) = (p : Int) + 1 := by rw [IntWalk.i64_in _ (by omega)]
  have e1 : ((p + 1 : Nat) : Int) = (p : Int) + 1 := by omega
  have hdv : decide ((n : Int) < 0) = false := by simp
  obtain ⟨W2, hW2⟩ : ∃ W2, W.setCell ⟨ba, 0, none⟩ (.int .i64 ((p : Int) + 1)) = W2 := ⟨_, rfl⟩
  have hA2 : AtBox W2 ba (p + 1) := by rw [← hW2, ← e1]; exact hA.set (p + 1)
  have hg2 : W.grownBy W2 (some ba) := by rw [← hW2]; exact gby_setAt _ _ _
  have hI2 := gby_trans' hg hg2
  have hAg2 : Agree (fun b => b ≠ ba) wI W2 := .of_grown hI2 (fun b hb e => hb (by cases e; rfl))
  have qs2 := gby_cell hI2 hb.cs hb.ns
  obtain ⟨bS, oS, rfl, hbS, -, r1, -⟩ := (hb.sg.same hAg2).sym n hns
  rw [hari] at r1
  have hbaI : ba < W2.heap.size := hA2.lt
  obtain ⟨bD, oD, aL, cL, rfl, hbD, t0, t1, rT, hL⟩ := hb.wy.way n hnd
  obtain ⟨y, hy⟩ : ∃ y, d[n] = y := ⟨_, rfl⟩
  rw [hy] at t0 t1 rT hL htx hLr w4
  obtain ⟨T, L⟩ := y
  dsimp only at t0 t1 rT hL htx hLr w4
  have hLm : L.length = m := by omega
  have hcx : ∀ w', wI.grownBy w' (some ba) → w'.cell? ⟨bd, 0, none⟩ = some (.slice (some ⟨bD, oD, none⟩) d.length c3) ∧ w'.cell? ⟨bw, 0, none⟩ = some (caV bt ba bs bw bd) ∧ w'.cell? ⟨bD, oD + n * 2, none⟩ = some (.int .i64 T) ∧ w'.cell? ⟨bD, oD + n * 2 + 1, none⟩ = some (.slice aL L.length cL) ∧ Ints (fun b => b ≠ ba) w' aL cL L := fun w' h =>
    ⟨gby_cell h hb.cd hb.nd, gby_cell h hb.cw hb.nw, gby_cell h t0 hbD, gby_cell h t1 hbD, hL.same (.of_grown h (fun b hb e => hb (by cases e; rfl)))⟩
  have hcxH := Lib.hid hcx
  have hI2H := Lib.hid hI2
  have hg2H := Lib.hid hg2
  have hA2H := Lib.hid hA2
  have hW2H := Lib.hid hW2
  have hrecH := Lib.hid hrec
  have hssH := Lib.hid hss
  have h60H := Lib.hid hlen60
  have hsplH := Lib.hid hspl
  have htxH := Lib.hid htx
  have prH := Lib.hid pr1
  have hskH := Lib.hid hsk
  have hvH := Lib.hid hv
  have hLrH := Lib.hid hLr
  have hLmH := Lib.hid hLm
  have m3 := hb.sg.le
  have m4 := hL.le
  have m5 := hb.wy.le
  clear hb hg hA hAg hc hn hrec hss g1 hpe huok hhead hx hm htx hlen60 hspl hari harA hA2 hg2 hI2 hAg2 hcx hW2 hu pr1 hsk e1 hp' hv hLr hLm w1 w2 w3 w4 w5 hdn t0 t1 hL hy
  go_enter Tryz.func112, Tryz.ntmps112
  go_upto_region 3 with fail
  rw [hW2H.out]
  clear qt qa fa q2 hb2
  go_wp2_with fail
  go_loopw [7, 26] (fun out i wr => caRel1 s d t p m ba W2 out i wr) (fun _ i _ => m - (intOf i).toNat)
  case atStart => exact ⟨0, p + 1, [], rfl, Nat.zero_le _, rfl, skip_zero _ _, Nat.le_refl _, hp, .nil _ _ _ _ _, gby_refl' _ _, hA2H.out⟩
  case round =>
    obtain ⟨j, p', A, rfl, hj, hA, hs, hp1, hp2, ho, hg, hAt⟩ := hrel
    have hIr := gby_trans' hI2H.out hg
    have hAl : A.length = j := by rw [hA, List.length_map, List.length_take, hsplH.out]; omega
    have hol := OwnL.lt ho
    by_cases hjm : j < m
    · obtain ⟨l2, n1, n2⟩ := skip_stepK hs hssH.out hjm
      have hcall := hrecH.out p' l2 (by omega) n1
      obtain ⟨y1, y2, y3⟩ := part_rest n1 hp2
      rw [y1] at n2
      have hel := splitK_get hs hjm
      obtain ⟨v, hv⟩ : ∃ v, partAt s (t.drop p') = v := ⟨_, rfl⟩
      rw [hv] at hcall y2 y3 n2 hel
      have hA2 : A ++ [carT s d v] = ((splitK s m (t.drop (p + 1))).take (j + 1)).map (carT s d) := by
        rw [List.take_add_one, hel, List.map_append, ← hA]; rfl
      have qw := (hcxH.out wr hIr).2.1
      have hc0 : Calls _ _ _ _ (caRet wr ba p' s d v) := hcall wr hIr hAt
      obtain ⟨X, hX⟩ : ∃ X, carT s d v = X := ⟨_, rfl⟩
      have hpush : ∀ w1 aX cX, Ints (fun b => wr.heap.size ≤ b) w1 aX cX X → wr.grownBy w1 (some ba) → AtBox w1 ba (p' + v.length) → ∃ v' w', RowKit.Hid ((Builtin.append_ #[68, 68] 68 #[_, .slice (some ⟨w1.heap.size, 0, none⟩) 1 1]).run Tryz.prog (w1.alloc (.cells #[.slice aX X.length cX] 41)) = .ok v' w') ∧ RowKit.Hid (caRel1 s d t p m ba W2 v' (.int .i64 ((j + 1 : Nat) : Int)) w') := fun w1 aX cX hI h1 h2 => by
        have ho1 : OwnL (slE intE) (fun b => b ≠ ba) w1 W2.heap.size 41 _ A := OwnL.grown ho h1 (fun k hk e => by
          injection e with e
          have := (hol k hk).1
          omega) (fun b hb _ e => hb (by injection e with e; exact e.symm))
        have hW2 : W2.heap.size ≤ w1.heap.size := Nat.le_trans hg.size h1.size
        have hba' : ba < wr.heap.size := hAt.lt
        obtain ⟨v', w', f1, f2, f3, -⟩ := ho1.push (P := Tryz.prog) (t := 68) (ty := 68) Tryz.underlying68 infoTerm rfl (vs := [.slice aX X.length cX]) (x := X) ⟨aX, cX, rfl, hI.mono (fun b _ hb => ⟨fun e => by omega, fun e => by
          have := (hol b e.symm).2
          omega⟩) (.refl _ _)⟩ (by omega) (by unfold big; omega) hW2
        have hlt1 := OwnL.lt ho1
        refine ⟨v', w', Lib.hid f1, Lib.hid ⟨j + 1, p' + v.length, A ++ [X], rfl, hjm, by rw [← hX]; exact hA2, n2, by omega, y2, f2, gby_more (gby_trans' hg h1) f3 (fun i e => (hlt1 i e).1), h2.kept f3 (fun e => ?_)⟩⟩
        have := (hlt1 ba e).1
        omega
      unfold caRet at hc0
      rw [hX] at hc0
      have hc := Lib.hid hc0
      have hpushH := Lib.hid hpush
      clear hc0 hA hs ho hg hAt hIr hol n1 n2 hcall hel hA2 hpush hv hX
      go_wp2_with (first
        | (go_at_call 112; (with_reducible refine hc.out.mono ?_); rintro e w1 ⟨vX, rfl, hoX, hg1, hA1⟩; obtain ⟨aX, cX, rfl, hIX⟩ := OwnI.ints hoX; obtain ⟨v', w', hrun', hrel'⟩ := hpushH.out w1 aX cX hIX hg1 hA1)
        | (at_builtin; refine wpList_append_run rfl _ _ _ rfl rfl rfl hrun'.out ?_))
      go_roundw
      case rel => exact hrel'.out
      case measure => simp [intOf]; omega
    · have hjm' : j = m := by omega
      subst hjm'
      have hA' : A = (splitK s j (t.drop (p + 1))).map (carT s d) := by rw [hA, List.take_of_length_le (by rw [hsplH.out]; exact Nat.le_refl _)]
      have hpp : p' = p + u.length := by
        have h1 := Option.some.inj (hs.symm.trans hssH.out)
        rw [prH.out] at h1
        have h2 := congrArg List.length h1
        rw [List.length_drop, List.length_drop] at h2
        omega
      obtain ⟨aA, cA, hout, hsl⟩ := OwnL.sl ho
      subst hout
      obtain ⟨qd, -, qT, qL, hL⟩ := hcxH.out wr hIr
      have h60 := h60H.out
      have htx := htxH.out
      rw [← hA'] at h60 htx
      rw [hpp] at hAt
      obtain ⟨W5, hW5⟩ : ∃ W5, W5 = wr := ⟨_, rfl⟩
      subst hW5
      obtain ⟨W6, hW6⟩ : ∃ W6, W5.alloc (.cells #[.int .i64 T] 3) = W6 := ⟨_, rfl⟩
      have hb6 : Below W5.heap.size W5 W6 := by rw [← hW6]; exact below1 _ _
      have hlit : OwnI W6 W5.heap.size (.slice (some ⟨W5.heap.size, 0, none⟩) 1 1) [T] := by rw [← hW6]; exact OwnL.lit W5 [T] 3 (by intro y hy; rw [List.mem_singleton] at hy; rw [hy]; exact rT) (by show 1 ≤ maxLen; decide)
      have qd6 := cell_later hb6 qd
      have qT6 := cell_later hb6 qT
      have qL6 := cell_later hb6 qL
      have hmL := hLmH.out
      have hWW := Lib.hid (Nat.le_trans hg2H.out.size hg.size)
      have hgH := Lib.hid (gby_trans' hg2H.out hg)
      have hAtH := Lib.hid hAt
      have hslH := Lib.hid hsl
      have hLH := Lib.hid hL
      have hb6H := Lib.hid hb6
      have hlitH := Lib.hid hlit
      have h60K := Lib.hid h60
      have htxK := Lib.hid htx
      have hmLH := Lib.hid hmL
      have mA := hsl.le
      have mj : L.length ≤ 3 := by omega
      have hAlH := Lib.hid hAl
      clear hAl hA hA' hs ho hg hAt hIr hol hsl hpp hA2H hI2H hg2H hL hb6 hlit h60 htx hmL
      go_wp2_with fail
      clear qd qT qL qd6 qT6 qL6 hW6
      go_loopw [8, 46] (fun out i wr => caRel2 A T L W5 out i wr) (fun _ i _ => L.length - (intOf i).toNat)
      case atStart => exact ⟨0, rfl, Nat.zero_le _, hlitH.out, hb6H.out⟩
      case round =>
        obtain ⟨q, rfl, hq, hoq, hBq⟩ := hrel
        by_cases hlt : q < L.length
        · obtain ⟨w7, hw7⟩ : ∃ w7, w7 = wr := ⟨_, rfl⟩
          subst hw7
          obtain ⟨bL, oL, rfl, -, y1, -⟩ := (hLH.out.below hBq).int q hlt
          obtain ⟨g0, g1⟩ := hLrH.out _ (List.getElem_mem hlt)
          have htk : (L.take (q + 1)).map (fun k => A.getD k.toNat []) = (L.take q).map (fun k => A.getD k.toNat []) ++ [A.getD (L[q]).toNat []] := by
            rw [List.take_succ_eq_append_getElem hlt, List.map_append]; rfl
          obtain ⟨x, hx⟩ : ∃ x, L[q] = x := ⟨_, rfl⟩
          rw [hx] at y1 g0 g1 htk
          obtain ⟨i, rfl⟩ : ∃ i : Nat, x = (i : Int) := ⟨x.toNat, by omega⟩
          rw [Int.toNat_natCast] at htk
          have hiA : i < A.length := by
            have := hAlH.out
            omega
          obtain ⟨bA, oA, aX, cX, rfl, -, y2, hX⟩ := (hslH.out.below hBq).sub i hiA
          have hgd2 : A.getD i [] = A[i] := by rw [List.getD_eq_getElem?_getD, List.getElem?_eq_getElem hiA]; rfl
          rw [hgd2] at htk
          have hX60 := h60K.out _ (List.getElem_mem hiA)
          have hfl : ((L.take q).map (fun k => A.getD k.toNat [])).flatten.length ≤ 180 := by
            have := flat_le (A := (L.take q).map (fun k => A.getD k.toNat [])) (n := 60) (fun u hu => by
              obtain ⟨k, -, rfl⟩ := List.mem_map.1 hu
              by_cases hk : k.toNat < A.length
              · rw [List.getD_eq_getElem?_getD, List.getElem?_eq_getElem hk]; exact h60K.out _ (List.getElem_mem hk)
              · rw [List.getD_eq_getElem?_getD, List.getElem?_eq_none (by omega)]; simp)
            rw [List.length_map, List.length_take] at this
            omega
          obtain ⟨Y, hY⟩ : ∃ Y, A[i] = Y := ⟨_, rfl⟩
          rw [hY] at y2 hX htk hX60
          obtain ⟨v', w', hrun', ho', hB'⟩ := OwnI.appU (l' := T :: ((L.take (q + 1)).map (fun k => A.getD k.toNat [])).flatten) hoq hBq (.refl _ _) hX (by rw [htk, List.flatten_append, List.flatten_cons, List.flatten_nil, List.append_nil]; rfl) (by rw [List.length_cons]; omega) (by omega)
          have mX := hX.le
          clear hoq hBq htk hgd2 hX60 hfl hx hX hY
          go_wp2_with (at_builtin; refine wpList_append_run rfl _ _ _ rfl rfl rfl hrun'.out ?_)
          go_roundw
          case rel => exact ⟨q + 1, by go_num, hlt, ho'.out, hB'.out⟩
          case measure => simp [intOf]; omega
        · have hqq : q = L.length := by omega
          subst hqq
          rw [List.take_length] at hoq
          have hoH := Lib.hid hoq
          have hBH := Lib.hid hBq
          clear hoq hBq
          go_wp2_with fail
          go_ret
          exact ⟨_, rfl, by rw [htxK.out]; exact OwnL.baseMono hoH.out hWW.out, gby_trans' hgH.out (gby_below' hBH.out), hAtH.out.below hBH.out⟩
end Go.Proofs.YtfjodhgbbefkjaaGreatDoor

/- Walks: tongue.carried, Carried. -/
namespace Go.Proofs.YtfjodhgbbefkjaaGreatDoor
open Go Go.RowKit Go.Maps

theorem ca_any {wI : World} {bt ba bs bw bd : Nat} {a1 a2 a3 : Option Addr} {c1 c2 c3 : Nat} {s b : Sg} {t : List Int} {d : Ways} (hb : CBox wI bt ba bs bw bd a1 a2 a3 c1 c2 c3 s t d) (hv : validD s b d = true) (hl : t.length ≤ 60) :
    ∀ (N p : Nat) (r : List Int), t.length - p ≤ N → skip s 1 (t.drop p) = some r → CaAt wI bt ba bs bw bd s d p (partAt s (t.drop p)) := by
  intro N
  induction N with
  | zero =>
    intro p r hN h
    obtain ⟨hp, -, -⟩ := skip_drop (k := 0) h
    omega
  | succ N ih =>
    intro p r hN h
    obtain ⟨hp, hc, -⟩ := skip_drop (k := 0) h
    by_cases hn : t[p] < 0
    · rw [part_neg h hp hn]
      exact ca_var hb hl hp hn
    · exact ca_node hb hv hl h hp hn (fun p' r' h1 h2 => ih p' r' (by omega) h2)
set_option maxRecDepth 20000 in
set_option maxHeartbeats 1000000 in
theorem carried_any {S1 S2 S3 : Nat → Prop} (a1 a2 a3 : Option Addr) (c1 c2 c3 : Nat) (s b : Sg) (d : Ways) (t : List Int) (w : World) (h1 : Sign S1 w a1 c1 s) (h3 : WaysL S3 w a3 c3 d) (h2 : Ints S2 w a2 c2 t) (hv : validD s b d = true) (hok : okT s t = true) :
    Calls Tryz.prog 70 #[.slice a1 s.length c1, .slice a3 d.length c3, .slice a2 t.length c2] w (retOwn w (carT s d t)) := by
  have m1 := h1.le
  have m2 := h2.le
  have m3 := h3.le
  obtain ⟨w3, hw3⟩ : ∃ w3, ((w.alloc (.cells #[.slice a1 s.length c1] 23)).alloc (.cells #[.slice a3 d.length c3] 26)).alloc (.cells #[.slice a2 t.length c2] 41) = w3 := ⟨_, rfl⟩
  have hz3 : w3.heap.size = w.heap.size + 1 + 1 + 1 := by rw [← hw3]; simp
  obtain ⟨wI, hwI⟩ : ∃ wI, (w3.alloc (.cells #[.int .i64 0] 3)).alloc (.cells #[caV (w.heap.size + 1 + 1) (w.heap.size + 1 + 1 + 1) w.heap.size (w.heap.size + 1 + 1 + 1 + 1) (w.heap.size + 1)] 92) = wI := ⟨_, rfl⟩
  have hb3 : Below w.heap.size w w3 := by rw [← hw3]; exact below3 _ _ _ _
  have hbI : Below w.heap.size w wI := by rw [← hwI]; exact bcall hb3 (below2 _ _ _)
  have hzI : wI.heap.size = w.heap.size + 1 + 1 + 1 + 1 + 1 := by rw [← hwI]; simp [hz3]
  have hA0 : AtBox wI (w.heap.size + 1 + 1 + 1) 0 := by
    have h0 : AtBox (w3.alloc (.cells #[.int .i64 0] 3)) w3.heap.size 0 := heap_alloc_new w3 _
    rw [hz3] at h0
    rw [← hwI]
    exact h0.below (below1 _ _)
  have ct : wI.cell? ⟨w.heap.size + 1 + 1, 0, none⟩ = some (.slice a2 t.length c2) := by rw [← hwI, ← hw3]; clear hwI hw3; go_simp
  have cs : wI.cell? ⟨w.heap.size, 0, none⟩ = some (.slice a1 s.length c1) := by rw [← hwI, ← hw3]; clear hwI hw3; go_simp
  have cx : wI.cell? ⟨w.heap.size + 1, 0, none⟩ = some (.slice a3 d.length c3) := by rw [← hwI, ← hw3]; clear hwI hw3; go_simp
  have cw : wI.cell? ⟨w.heap.size + 1 + 1 + 1 + 1, 0, none⟩ = some (caV (w.heap.size + 1 + 1) (w.heap.size + 1 + 1 + 1) w.heap.size (w.heap.size + 1 + 1 + 1 + 1) (w.heap.size + 1)) := by rw [← hwI, ← hw3]; clear hwI hw3; go_simp
  have hbox : CBox wI (w.heap.size + 1 + 1) (w.heap.size + 1 + 1 + 1) w.heap.size (w.heap.size + 1 + 1 + 1 + 1) (w.heap.size + 1) a1 a2 a3 c1 c2 c3 s t d :=
    ⟨ct, cs, cw, cx, by omega, by omega, by omega, by omega, (h1.lt.below hbI).weak (fun b hb => by have := hb.2; omega), (h2.lt.below hbI).weak (fun b hb => by have := hb.2; omega), (h3.lt.below hbI).weak (fun b hb => by have := hb.2; omega)⟩
  obtain ⟨hs, -, hl, hsk⟩ := okT_parts hok
  have hc := ca_any hbox hv hl t.length 0 [] (Nat.sub_le _ _) hsk wI (gby_refl' _ _) hA0
  have hpt : partAt s (t.drop 0) = t := by
    rw [List.drop_zero]; unfold partAt; rw [hsk]; simp
  rw [hpt] at hc
  have hc0 : Calls _ _ _ _ (retOwn w (carT s d t)) := hc.mono fun e w' ⟨v, h, ho, hg, _⟩ => ⟨v, h, OwnL.baseMono ho hbI.size, hbI.grown hg hbI.size (fun j e => by injection e with e; omega)⟩
  have hcH := Lib.hid hc0
  have hwIH := Lib.hid hwI
  rw [← hw3] at hwIH
  clear h1 h2 h3 hok hv hw3 hz3 hwI hb3 hbI hzI hA0 ct cs hbox hc hc0 hpt cx hs hsk
  go_enter Tryz.func70, Tryz.ntmps70
  go_upto_region 4 with fail
  rw [hwIH.out]
  go_wp2_with fail
  (with_reducible refine hcH.out.mono ?_)
  rintro e w2 ⟨v, rfl, hov, hb2⟩
  go_wp2_with fail
  go_ret
  exact ⟨_, rfl, hov, hb2⟩
/-- a term carried, with its error -/
def crdE (a b : Sg) (d : Ways) (t : List Int) : List Int × Int := if (validD a b d && okT a t) = true then (carT a d t, 0) else ([], 1)
set_option maxHeartbeats 1000000 in
theorem Carried_any {S1 S2 S3 S4 : Nat → Prop} (a1 a2 a3 a4 : Option Addr) (c1 c2 c3 c4 : Nat) (a b : Sg) (d : Ways) (t : List Int) (w : World) (h1 : Sign S1 w a1 c1 a) (h2 : Sign S2 w a2 c2 b) (h3 : WaysL S3 w a3 c3 d) (h4 : Ints S4 w a4 c4 t) (hda : ∀ x ∈ d, x.2.length ≤ 1000) :
    Calls Tryz.prog 27 #[.slice a1 a.length c1, .slice a2 b.length c2, .slice a3 d.length c3, .slice a4 t.length c4] w (retIE (crdE a b d t) w) := by
  have m1 := h1.le
  have m2 := h2.le
  have m3 := h3.le
  have m4 := h4.le
  have v1 := tValid_any a1 a2 a3 c1 c2 c3 a b d w h1 h2 h3 hda
  have v2 := fun W (hb : Below w.heap.size w W) => Valid_any a1 a4 c1 c4 a t W (h1.below hb) (h4.below hb)
  unfold crdE
  cases hx : validD a b d with
  | false =>
    rw [hx] at v1
    have v1H := Lib.hid v1
    clear v1 v2 h1 h2 h3 h4 hda hx
    go_enter Tryz.func27, Tryz.ntmps27
    go_wp2_with fail
    refine v1H.out.mono ?_
    rintro e w1 ⟨rfl, hb1⟩
    go_wp2_with fail
    go_ret2
    exact ⟨_, _, rfl, Sl.empty, hb1⟩
  | true =>
  rw [hx] at v1
  cases hy : okT a t with
  | false =>
    simp only [hy] at v2
    have v1H := Lib.hid v1
    have v2H := Lib.hid v2
    clear v1 v2 h1 h2 h3 h4 hda hx hy
    go_enter Tryz.func27, Tryz.ntmps27
    go_wp2_with fail
    refine v1H.out.mono ?_
    rintro e w1 ⟨rfl, hb1⟩
    go_wp2_with fail
    refine (v2H.out _ hb1).mono ?_
    rintro e w2 ⟨rfl, hb2⟩
    go_wp2_with fail
    go_ret2
    exact ⟨_, _, rfl, Sl.empty, bcall hb1 hb2⟩
  | true =>
  simp only [hy] at v2
  have v1H := Lib.hid v1
  have v2H := Lib.hid v2
  have v3 := fun W (hb : Below w.heap.size w W) => carried_any a1 a4 a3 c1 c4 c3 a b d t W (h1.below hb) (h3.below hb) (h4.below hb) hx hy
  rw [show (true && true) = true from rfl, if_pos rfl]
  obtain ⟨R, hR⟩ : ∃ R, carT a d t = R := ⟨_, rfl⟩
  simp only [hR] at v3 ⊢
  have v3H := Lib.hid v3
  clear v1 v2 v3 h1 h2 h3 h4 hda hx hy hR
  go_enter Tryz.func27, Tryz.ntmps27
  go_wp2_with fail
  refine v1H.out.mono ?_
  rintro e w1 ⟨rfl, hb1⟩
  go_wp2_with fail
  refine (v2H.out _ hb1).mono ?_
  rintro e w2 ⟨rfl, hb2⟩
  have hB2 := bcall hb1 hb2
  go_wp2_with fail
  refine (v3H.out _ hB2).mono ?_
  rintro e w3 ⟨v3, rfl, ho3, hb3⟩
  obtain ⟨aZ, cZ, rfl, hI⟩ := OwnI.ints ho3
  go_wp2_with fail
  go_ret2
  exact ⟨_, _, rfl, hI.weak (fun b hb => Nat.le_trans hB2.size hb), bcall hB2 hb3⟩
end Go.Proofs.YtfjodhgbbefkjaaGreatDoor

/- Walks: the dictionary that changes nothing, of both sides; ways appended. -/
namespace Go.Proofs.YtfjodhgbbefkjaaGreatDoor
open Go Go.RowKit Go.Maps

theorem OwnW.pushU {w wr W : World} {out : Value} {l l' : Ways} (ho : OwnW wr w.heap.size out l) (hB : Below w.heap.size w wr) (hb : Below wr.heap.size wr W) {x : Int × List Int} {S1 : Nat → Prop} {a : Option Addr} {c : Nat} (hx : inRange x.1) (hI : Ints S1 W a c x.2) (hS : ∀ b, S1 b → wr.heap.size ≤ b) (hl' : l' = l ++ [x]) (hl : l.length ≤ 100000) :
    ∃ v' w', RowKit.Hid ((Builtin.append_ #[26, 26] 26 #[out, .slice (some ⟨W.heap.size, 0, none⟩) 1 1]).run Tryz.prog (W.alloc (.cells #[.int .i64 x.1, .slice a x.2.length c] 78)) = .ok v' w') ∧ RowKit.Hid (OwnW w' w.heap.size v' l') ∧ RowKit.Hid (Below w.heap.size w w') := by
  have hB2 := bcall hB hb
  have ho1 := OwnL.call ho hb
  obtain ⟨v', w', hrun, ho', hg, -⟩ := ho1.push (P := Tryz.prog) (t := 26) (ty := 26) Tryz.underlying26 infoWay rfl (vs := [.int .i64 x.1, .slice a x.2.length c]) (x := x)
    ⟨[.int .i64 x.1], [.slice a x.2.length c], rfl, ⟨rfl, hx⟩, ⟨a, c, rfl, hI.mono (fun b _ hb => ⟨trivial, fun e => by
      have := (OwnL.lt ho b e.symm).2
      have := hS b hb
      omega⟩) (.refl _ _)⟩⟩ (by omega) (by unfold big; omega) hB2.size
  exact ⟨v', w', Lib.hid hrun, Lib.hid (by rw [hl']; exact ho'), Lib.hid (hB2.grown hg hB2.size (fun k e => (ho1.lt k e).1))⟩
def retWs (w : World) (l : Ways) (e : Ending) (w' : World) : Prop := ∃ v, e = .returned v ∧ OwnW w' w.heap.size v l ∧ Below w.heap.size w w'
def itsE (s : Sg) : Ways × Int := if okSign s = true then (itsD s s.length, 0) else ([], 1)
theorem itsD_len (s : Sg) : ∀ k, (itsD s k).length = k
  | 0 => rfl
  | k + 1 => by rw [itsD, List.length_append, itsD_len s k]; rfl
theorem arAt_nat {s : Sg} (hs : okSign s = true) {k : Nat} (hk : k < s.length) : ∃ n : Nat, s[k].2 = (n : Int) ∧ n ≤ 3 ∧ (arAt s k).toNat = n ∧ arAt s k = n := by
  obtain ⟨h1, h2⟩ := ar_at hs (n := (k : Int)) (by omega) (by omega)
  have h3 := (arC_ok hs h2).2
  have e : s[k].2 = arAt s (k : Int) := by unfold arAt; rw [Int.toNat_natCast, List.getD_eq_getElem?_getD, List.getElem?_eq_getElem hk]; rfl
  exact ⟨ar s k, by rw [e, h1], h3, by omega, h1.symm⟩
theorem rcount_any (n : Nat) (hn : n ≤ 100000) (w : World) : Calls Tryz.prog 59 #[.int .i64 n] w (retOwn w (ascL n)) := by
  go_enter Tryz.func59, Tryz.ntmps59
  go_wp2_with fail
  go_loopw [3, 4] (fun out i wr => ascRel n w out i wr) (fun _ i _ => n - (intOf i).toNat)
  case atStart => exact ⟨0, rfl, Nat.zero_le _, .nil _ _ _ _ _, .refl _ _⟩
  case round =>
    obtain ⟨k, rfl, hk, ho, hB⟩ := hrel
    by_cases hlt : k < n
    · obtain ⟨v', w', hrun', ho', hB'⟩ := OwnI.pushU (l' := ascL (k + 1)) ho hB (.refl _ _) (x := (k : Int)) (by unfold inRange; omega) (ascL_succ k) (by rw [ascL_len]; omega)
      clear ho hB
      go_wp2_with (at_builtin; refine wpList_append_run rfl _ _ _ rfl rfl rfl hrun'.out ?_)
      go_roundw
      case rel => exact ⟨k + 1, by go_num, hlt, ho'.out, hB'.out⟩
      case measure => simp [intOf]; omega
    · have hkn : k = n := by omega
      subst hkn
      have hoH := Lib.hid ho
      have hBH := Lib.hid hB
      clear ho hB
      go_wp2_with fail
      go_ret
      exact ⟨_, rfl, hoH.out, hBH.out⟩
def itRel (s : Sg) (w : World) (out i : Value) (wr : World) : Prop := ∃ k : Nat, i = .int .i64 k ∧ k ≤ s.length ∧ OwnW wr w.heap.size out (itsD s k) ∧ Below w.heap.size w wr
set_option maxRecDepth 20000 in
set_option maxHeartbeats 1000000 in
theorem itself_any {S1 : Nat → Prop} (a1 : Option Addr) (c1 : Nat) (s : Sg) (w : World) (h1 : Sign S1 w a1 c1 s) (hs : okSign s = true) :
    Calls Tryz.prog 79 #[.slice a1 s.length c1] w (retWs w (itsD s s.length)) := by
  have m1 := h1.le
  have hl := okSign_len hs
  have h1H := Lib.hid h1
  have hsH := Lib.hid hs
  clear h1 hs
  go_enter Tryz.func79, Tryz.ntmps79
  go_wp2_with fail
  go_loopw [3, 8] (fun out i wr => itRel s w out i wr) (fun _ i _ => s.length - (intOf i).toNat)
  case atStart => exact ⟨0, rfl, Nat.zero_le _, .nil _ _ _ _ _, .refl _ _⟩
  case round =>
    obtain ⟨k, rfl, hk, ho, hB⟩ := hrel
    by_cases hlt : k < s.length
    · obtain ⟨b1, o1, rfl, -, r0, r1, -, -⟩ := (h1H.out.below hB).sym k hlt
      obtain ⟨n, e1, e2, e3, e4⟩ := arAt_nat hsH.out hlt
      rw [e1] at r1
      obtain ⟨N, hN⟩ : ∃ N, s[k].1 = N := ⟨_, rfl⟩
      rw [hN] at r0
      have hsucc : itsD s (k + 1) = itsD s k ++ [((k : Int), ascL n)] := by rw [itsD, e3]
      obtain ⟨W1, hW1⟩ : ∃ W1, wr.alloc (.cells #[.string N, .int .i64 (n : Int)] 72) = W1 := ⟨_, rfl⟩
      have hb1 : Below wr.heap.size wr W1 := by rw [← hW1]; exact below1 _ _
      have p1 : W1.cell? ⟨wr.heap.size, 1, none⟩ = some (.int .i64 (n : Int)) := by rw [← hW1]; clear hW1; go_simp
      have hc := Lib.hid (ascending_any n (by omega) W1)
      have hoH := Lib.hid ho
      have hBH := Lib.hid hB
      have hsH2 := Lib.hid hsucc
      have hb1H := Lib.hid hb1
      clear ho hB e1 e3 e4 hN hsucc hb1
      go_wp2_with fail
      (with_reducible refine hc.out.mono ?_)
      rintro e w2 ⟨v2, rfl, ho2, hb2⟩
      obtain ⟨a2, c2, rfl, hI2⟩ := OwnI.ints ho2
      obtain ⟨v', w', hrun', ho', hB'⟩ := OwnW.pushU hoH.out hBH.out (bcall hb1H.out hb2) (x := ((k : Int), ascL n)) (by show inRange (k : Int); unfold inRange; omega) hI2 (fun b hb => Nat.le_trans hb1H.out.size hb) hsH2.out (by rw [itsD_len]; omega)
      clear ho2 hI2 hb2 hoH hBH hsH2 hb1H hc hW1
      go_wp2_with (at_builtin; refine wpList_append_run rfl _ _ _ rfl rfl rfl hrun'.out ?_)
      go_roundw
      case rel => exact ⟨k + 1, by go_num, hlt, ho'.out, hB'.out⟩
      case measure => simp [intOf]; omega
    · have hkn : k = s.length := by omega
      subst hkn
      have hoH := Lib.hid ho
      have hBH := Lib.hid hB
      clear ho hB
      go_wp2_with fail
      go_ret
      exact ⟨_, rfl, hoH.out, hBH.out⟩
theorem Itself_any {S1 : Nat → Prop} (a1 : Option Addr) (c1 : Nat) (s : Sg) (w : World) (h1 : Sign S1 w a1 c1 s) :
    Calls Tryz.prog 37 #[.slice a1 s.length c1] w (retWE (itsE s) w) := by
  have m1 := h1.le
  have v1 := ValidSign_any a1 c1 s w h1
  unfold itsE
  cases hx : okSign s with
  | false =>
    rw [hx] at v1
    have v1H := Lib.hid v1
    clear v1 h1 hx
    go_enter Tryz.func37, Tryz.ntmps37
    go_wp2_with fail
    refine v1H.out.mono ?_
    rintro e w1 ⟨rfl, hb1⟩
    go_wp2_with fail
    go_ret2
    exact ⟨_, _, rfl, Sl.empty, hb1⟩
  | true =>
    rw [hx] at v1
    have c2 := Lib.hid (fun W (hb : Below w.heap.size w W) => itself_any a1 c1 s W (h1.below hb) hx)
    have v1H := Lib.hid v1
    clear v1 h1 hx
    go_enter Tryz.func37, Tryz.ntmps37
    go_wp2_with fail
    refine v1H.out.mono ?_
    rintro e w1 ⟨rfl, hb1⟩
    go_wp2_with fail
    refine (c2.out _ hb1).mono ?_
    rintro e w2 ⟨v2, rfl, ho2, hb2⟩
    obtain ⟨aZ, cZ, rfl, hW⟩ := OwnL.sl ho2
    go_wp2_with fail
    go_ret2
    exact ⟨_, _, rfl, Sl.any hW, bcall hb1 hb2⟩
set_option maxRecDepth 20000 in
set_option maxHeartbeats 1000000 in
theorem rItself_any {S1 : Nat → Prop} (a1 : Option Addr) (c1 : Nat) (s : Sg) (w : World) (h1 : Sign S1 w a1 c1 s) :
    Calls Tryz.prog 38 #[.slice a1 s.length c1] w (retWE (itsE s) w) := by
  have m1 := h1.le
  have v1 := rValidSign_any a1 c1 s w h1
  unfold itsE
  cases hx : okSign s with
  | false =>
    rw [hx] at v1
    have v1H := Lib.hid v1
    clear v1 h1 hx
    go_enter Tryz.func38, Tryz.ntmps38
    go_wp2_with fail
    refine v1H.out.mono ?_
    rintro e w1 ⟨rfl, hb1⟩
    go_wp2_with fail
    go_ret2
    exact ⟨_, _, rfl, Sl.empty, hb1.below _⟩
  | true =>
    rw [hx] at v1
    have hl := okSign_len hx
    have hsH := Lib.hid hx
    have h1H := Lib.hid h1
    have v1H := Lib.hid v1
    clear v1 h1 hx
    go_enter Tryz.func38, Tryz.ntmps38
    go_wp2_with fail
    refine v1H.out.mono ?_
    rintro e w1 ⟨rfl, hb1⟩
    have hb1H := Lib.hid (hb1.below w.heap.size)
    clear v1H hb1
    go_wp2_with fail
    go_loopw [4, 5] (fun out i wr => itRel s w out i wr) (fun _ i _ => s.length - (intOf i).toNat)
    case atStart => exact ⟨0, rfl, Nat.zero_le _, .nil _ _ _ _ _, hb1H.out⟩
    case round =>
      obtain ⟨k, rfl, hk, ho, hB⟩ := hrel
      by_cases hlt : k < s.length
      · obtain ⟨b1, o1, rfl, -, r0, r1, -, -⟩ := (h1H.out.below hB).sym k hlt
        obtain ⟨n, e1, e2, e3, e4⟩ := arAt_nat hsH.out hlt
        rw [e1] at r1
        have hsucc : itsD s (k + 1) = itsD s k ++ [((k : Int), ascL n)] := by rw [itsD, e3]
        have hc := Lib.hid (rcount_any n (by omega) wr)
        have hoH := Lib.hid ho
        have hBH := Lib.hid hB
        have hsH2 := Lib.hid hsucc
        clear ho hB e1 e3 e4 hsucc r0
        go_wp2_with fail
        (with_reducible refine hc.out.mono ?_)
        rintro e w2 ⟨v2, rfl, ho2, hb2⟩
        obtain ⟨a2, c2, rfl, hI2⟩ := OwnI.ints ho2
        obtain ⟨v', w', hrun', ho', hB'⟩ := OwnW.pushU hoH.out hBH.out hb2 (x := ((k : Int), ascL n)) (by show inRange (k : Int); unfold inRange; omega) hI2 (fun b hb => hb) hsH2.out (by rw [itsD_len]; omega)
        clear ho2 hI2 hb2 hoH hBH hsH2 hc
        go_wp2_with (at_builtin; refine wpList_append_run rfl _ _ _ rfl rfl rfl hrun'.out ?_)
        go_roundw
        case rel => exact ⟨k + 1, by go_num, hlt, ho'.out, hB'.out⟩
        case measure => simp [intOf]; omega
      · have hkn : k = s.length := by omega
        subst hkn
        obtain ⟨aZ, cZ, rfl, hW⟩ := OwnL.sl ho
        have hWH := Lib.hid hW
        have hBH := Lib.hid hB
        clear ho hB hW
        go_wp2_with fail
        go_ret2
        exact ⟨_, _, rfl, Sl.any hWH.out, hBH.out⟩
end Go.Proofs.YtfjodhgbbefkjaaGreatDoor

/- Walks: tongue.composed, Composed. -/
namespace Go.Proofs.YtfjodhgbbefkjaaGreatDoor
open Go Go.RowKit Go.Maps

/-- a way in a variable -/
def WyBox (w : World) (b : Nat) (T : Int) (v : Value) : Prop := w.heap[b]? = some (.cells #[.int .i64 T, v] 78 (0, 0))
section
variable {w w' : World} {b : Nat} {T : Int} {v : Value}
theorem WyBox.c0 (h : WyBox w b T v) : w.cell? ⟨b, 0, none⟩ = some (.int .i64 T) := by simp [World.cell?, show w.heap[b]? = _ from h]
theorem WyBox.c1 (h : WyBox w b T v) : w.cell? ⟨b, 1, none⟩ = some v := by simp [World.cell?, show w.heap[b]? = _ from h]
theorem WyBox.f1 (h : WyBox w b T v) : w.frozen? ⟨b, 1, none⟩ = false := by simp [World.frozen?, show w.heap[b]? = _ from h]
theorem WyBox.lt (h : WyBox w b T v) : b < w.heap.size := (Array.getElem?_eq_some_iff.1 h).1
theorem WyBox.set (h : WyBox w b T v) (u : Value) : WyBox (w.setCell ⟨b, 1, none⟩ u) b T u := by
  unfold WyBox
  simp [World.setCell, Array.getElem?_modify, show w.heap[b]? = _ from h]
theorem WyBox.kept {r : Option Nat} (h : WyBox w b T v) (hg : w.grownBy w' r) (hr : r ≠ some b) : WyBox w' b T v := (hg.block b h.lt (fun e => hr e.symm)).trans h
theorem WyBox.new (w : World) (T : Int) (v : Value) : WyBox (w.alloc (.cells #[.int .i64 T, v] 78)) w.heap.size T v := heap_alloc_new w _
theorem gby_setTo (w : World) (b o : Nat) (v : Value) : w.grownBy (w.setCell ⟨b, o, none⟩ v) (some b) :=
  ⟨rfl, rfl, rfl, by simp [World.setCell], fun k _ hk => Below.heap_setCell _ _ _ _ (fun e => hk (by simp [e]))⟩
end
/-- a number more in the way of a variable -/
theorem WyBox.push {W1 wr : World} {bx : Nat} {T : Int} {v : Value} {l l' : List Int} (hx : bx = W1.heap.size) (hb : WyBox wr bx T v) (ho : OwnI wr (bx + 1) v l) (hB : Below bx W1 wr) {x : Int} (hr : inRange x) (hl' : l' = l ++ [x]) (hl : l.length ≤ 1000000) :
    ∃ v' w', RowKit.Hid ((Builtin.append_ #[36, 36] 36 #[v, .slice (some ⟨wr.heap.size, 0, none⟩) 1 1]).run Tryz.prog (wr.drew.alloc (.cells #[.int .i64 x] 3)) = .ok v' w') ∧ RowKit.Hid (w'.cell? ⟨bx, 1, none⟩ = some v) ∧ RowKit.Hid (w'.frozen? ⟨bx, 1, none⟩ = false) ∧
      RowKit.Hid (WyBox (w'.setCell ⟨bx, 1, none⟩ v') bx T v' ∧ OwnI (w'.setCell ⟨bx, 1, none⟩ v') (bx + 1) v' l' ∧ Below bx W1 (w'.setCell ⟨bx, 1, none⟩ v')) := by
  have hd : Below wr.heap.size wr wr.drew := Below.drew (.refl _ _)
  have hB1 : Below bx W1 wr.drew := Below.drew hB
  have ho1 : OwnI wr.drew (bx + 1) v l := OwnL.call ho hd
  have hb1 : WyBox wr.drew bx T v := hb
  have hlt := hb.lt
  obtain ⟨v', w', hrun, ho', hg, -⟩ := ho1.push (P := Tryz.prog) (t := 36) (ty := 36) Tryz.underlying36 infoInt rfl (vs := [.int .i64 x]) (x := x) ⟨rfl, hr⟩ (by omega) (by unfold big; omega) (by show bx + 1 ≤ wr.heap.size; omega)
  have hb2 : WyBox w' bx T v := hb1.kept hg (fun e => by have := (OwnL.lt ho1 bx e).1; omega)
  have hg2 := gby_setTo w' bx 1 v'
  refine ⟨v', w', Lib.hid hrun, Lib.hid hb2.c1, Lib.hid hb2.f1, Lib.hid ⟨hb2.set v', ?_, ?_⟩⟩
  · rw [hl']
    exact OwnL.grown ho' hg2 (fun k e => by have := (OwnL.lt ho' k e).1; intro h; injection h with h; omega) (fun b hb _ => hb.elim)
  · have hsz : bx ≤ wr.drew.heap.size := by show bx ≤ wr.heap.size; omega
    have h1 : Below bx W1 w' := hB1.grown hg hsz (fun k e => by have := (OwnL.lt ho1 k e).1; omega)
    exact h1.grown hg2 (Nat.le_of_lt hb2.lt) (fun k e => by injection e with e; omega)
/-- what composing asks -/
def Fits (d e : Ways) : Prop := d.length ≤ 1000 ∧ ∀ k (hk : k < d.length), 0 ≤ d[k].1 ∧ ∃ h : d[k].1.toNat < e.length, d[k].2.length ≤ 1000 ∧ e[d[k].1.toNat].2.length = d[k].2.length ∧ ∀ x ∈ e[d[k].1.toNat].2, 0 ≤ x ∧ x < d[k].2.length
theorem fits_valid {a b c : Sg} {d e : Ways} (hd : validD a b d = true) (he : validD b c e = true) : Fits d e := by
  obtain ⟨g1, -, g3, -⟩ := validD_parts hd
  obtain ⟨h1, -, h3, -⟩ := validD_parts he
  have hl := okSign_len g1
  refine ⟨by omega, fun k hk => ?_⟩
  have hx := validD_at hd (i := k) (by omega)
  rw [List.getD_eq_getElem?_getD, List.getElem?_eq_getElem hk, Option.getD_some] at hx
  obtain ⟨x1, x2, x3, x4, x5⟩ := hx
  have hy := validD_way he x1 x2
  have hlt : d[k].1.toNat < e.length := by omega
  rw [List.getD_eq_getElem?_getD, List.getElem?_eq_getElem hlt, Option.getD_some] at hy
  obtain ⟨y1, y2, y3, y4, y5⟩ := hy
  obtain ⟨n, e1, e2, e3, e4⟩ := arAt_nat g1 (k := k) (by omega)
  refine ⟨x1, hlt, by omega, by omega, fun x hx => ?_⟩
  have := mem_ascL.1 (y5.mem_iff.1 hx)
  omega
theorem compA_len (x l : List Int) : ∀ k, (compA x l k).length = k
  | 0 => rfl
  | k + 1 => by rw [compA, List.length_append, compA_len x l k]; rfl
def cmRel (d e : Ways) (w : World) (out i : Value) (wr : World) : Prop := ∃ k : Nat, i = .int .i64 k ∧ k ≤ d.length ∧ OwnW wr w.heap.size out (compD d e k) ∧ Below w.heap.size w wr
def caRel (A L : List Int) (T : Int) (W1 : World) (i : Value) (wr : World) : Prop := ∃ (q : Nat) (a : Option Addr) (c : Nat), i = .int .i64 q ∧ q ≤ L.length ∧ WyBox wr W1.heap.size T (.slice a q c) ∧ OwnI wr (W1.heap.size + 1) (.slice a q c) (compA A L q) ∧ Below W1.heap.size W1 wr
set_option maxRecDepth 20000 in
set_option maxHeartbeats 2000000 in
theorem composed_any {S1 S2 : Nat → Prop} (a1 a2 : Option Addr) (c1 c2 : Nat) (d e : Ways) (w : World) (h1 : WaysL S1 w a1 c1 d) (h2 : WaysL S2 w a2 c2 e) (hf : Fits d e) :
    Calls Tryz.prog 77 #[.slice a1 d.length c1, .slice a2 e.length c2] w (retWs w (compD d e d.length)) := by
  have m1 := h1.le
  have m2 := h2.le
  have h1H := Lib.hid h1
  have h2H := Lib.hid h2
  obtain ⟨hdl, hf⟩ := hf
  have hfH := Lib.hid hf
  clear h1 h2 hf
  go_enter Tryz.func77, Tryz.ntmps77
  go_wp2_with fail
  go_loopw [5, 13] (fun out i wr => cmRel d e w out i wr) (fun _ i _ => d.length - (intOf i).toNat)
  case atStart => exact ⟨0, rfl, Nat.zero_le _, .nil _ _ _ _ _, .refl _ _⟩
  case round =>
    obtain ⟨k, rfl, hk, ho, hB⟩ := hrel
    by_cases hlt : k < d.length
    · obtain ⟨w0, hw0⟩ : ∃ w0, w0 = wr := ⟨_, rfl⟩
      subst hw0
      obtain ⟨b1, o1, aA, cA, rfl, -, q0, q1, qr, hA⟩ := (h1H.out.below hB).way k hlt
      obtain ⟨f0, f1, f2, f3, f4⟩ := hfH.out k hlt
      obtain ⟨b2, o2, aL, cL, rfl, -, p0, p1, pr, hL⟩ := (h2H.out.below hB).way _ f1
      have hsucc : compD d e (k + 1) = compD d e k ++ [(e[d[k].1.toNat].1, compA d[k].2 e[d[k].1.toNat].2 e[d[k].1.toNat].2.length)] := by
        rw [compD]
        have e1 : d.getD k (0, []) = d[k] := by rw [List.getD_eq_getElem?_getD, List.getElem?_eq_getElem hlt]; rfl
        rw [e1]
        have e2 : e.getD d[k].1.toNat (0, []) = e[d[k].1.toNat] := by rw [List.getD_eq_getElem?_getD, List.getElem?_eq_getElem f1]; rfl
        rw [e2]
      obtain ⟨x, hx⟩ : ∃ x, d[k] = x := ⟨_, rfl⟩
      have hxx : e[x.1.toNat]'(by rw [← hx]; exact f1) = e[d[k].1.toNat] := by simp only [hx]
      obtain ⟨y, hy⟩ : ∃ y, e[d[k].1.toNat] = y := ⟨_, rfl⟩
      rw [hy] at p0 p1 pr hL f3 f4 hsucc
      rw [hx] at q0 q1 qr hA f0 f2 f3 f4 hsucc p0 p1
      have f1' : x.1.toNat < e.length := by rw [← hx]; exact f1
      clear hx hxx hy f1
      obtain ⟨T0, A⟩ := x
      obtain ⟨T, L⟩ := y
      dsimp only at q0 q1 qr hA p0 p1 pr hL f0 f2 f3 f4 hsucc f1'
      obtain ⟨n, rfl⟩ : ∃ n : Nat, T0 = (n : Int) := ⟨T0.toNat, by omega⟩
      rw [Int.toNat_natCast] at p0 p1 f1'
      obtain ⟨W1, hW1⟩ : ∃ W1, w0.alloc (.cells #[.int .i64 (n : Int), .slice aA A.length cA] 78) = W1 := ⟨_, rfl⟩
      have hb1 : Below w0.heap.size w0 W1 := by rw [← hW1]; exact below1 _ _
      have r0 : W1.cell? ⟨w0.heap.size, 0, none⟩ = some (.int .i64 (n : Int)) := by rw [← hW1]; clear hW1; go_simp
      have r1 : W1.cell? ⟨w0.heap.size, 1, none⟩ = some (.slice aA A.length cA) := by rw [← hW1]; clear hW1; go_simp
      have s0 := cell_later hb1 p0
      have s1 := cell_later hb1 p1
      obtain ⟨W2, hW2⟩ : ∃ W2, W1.alloc (.cells #[.int .i64 T, .slice none 0 0] 78) = W2 := ⟨_, rfl⟩
      have hb2 : Below W1.heap.size W1 W2 := by rw [← hW2]; exact below1 _ _
      have hx2 : WyBox W2 W1.heap.size T (.slice none 0 0) := by rw [← hW2]; exact .new _ _ _
      have fz := hx2.f1
      have cz := hx2.c1
      have sz : W2.setCell ⟨W1.heap.size, 1, none⟩ (.slice none 0 0) = W2 := by rw [← hW2]; clear hW2 fz cz hx2 hb2; go_simp
      have t0 := cell_later hb2 r0
      have t1 := cell_later hb2 r1
      have u1 := cell_later hb2 s1
      have hz1 : w0.heap.size < W1.heap.size := by rw [← hW1]; simp
      have rH := Lib.hid (fun (W : World) (hb : Below W1.heap.size W1 W) => And.intro (cell_later hb r0) (cell_later hb r1))
      have hIH := Lib.hid (fun (W : World) (hb : Below W1.heap.size W1 W) => And.intro ((hA.below hb1).below hb) ((hL.below hb1).below hb))
      have hoH := Lib.hid ho
      have hBH := Lib.hid hB
      have hb1H := Lib.hid hb1
      have hb2H := Lib.hid hb2
      have hsuH := Lib.hid hsucc
      have hx2H := Lib.hid hx2
      have fH := Lib.hid f4
      have mL := hL.le
      have mA := hA.le
      have mL2 : L.length ≤ 1000 := by omega
      clear ho hB hsucc hb1 hb2 hx2 hA hL f4 f3
      go_wp2_with fail
      clear hW1 hW2 t0 t1 u1 r0 r1 s0 s1 fz cz sz
      go_loopw [31] (fun i wr => caRel A L T W1 i wr) (fun i _ => L.length - (intOf i).toNat)
      case atStart => exact ⟨0, none, 0, rfl, Nat.zero_le _, hx2H.out, .nil _ _ _ _ _, hb2H.out⟩
      case round =>
        obtain ⟨q, av, cv, rfl, hq, hbx, hoq, hBq⟩ := hrel
        by_cases hlt2 : q < L.length
        · obtain ⟨W3, hW3⟩ : ∃ W3, W3 = wr := ⟨_, rfl⟩
          subst hW3
          obtain ⟨z0, z1⟩ := rH.out W3 hBq
          obtain ⟨i1, i2⟩ := hIH.out W3 hBq
          obtain ⟨bL, oL, rfl, -, y1, -⟩ := i2.int q hlt2
          obtain ⟨g0, g1⟩ := fH.out _ (List.getElem_mem hlt2)
          have hgd : L.getD q 0 = L[q] := by rw [List.getD_eq_getElem?_getD, List.getElem?_eq_getElem hlt2]; rfl
          have hsu2 : compA A L (q + 1) = compA A L q ++ [A.getD (L[q]).toNat 0] := by rw [compA, hgd]
          obtain ⟨x, hx⟩ : ∃ x, L[q] = x := ⟨_, rfl⟩
          rw [hx] at y1 g0 g1 hsu2
          obtain ⟨j, rfl⟩ : ∃ j : Nat, x = (j : Int) := ⟨x.toNat, by omega⟩
          rw [Int.toNat_natCast] at hsu2
          have hjA : j < A.length := by omega
          obtain ⟨bA, oA, rfl, -, y2, hr2⟩ := i1.int j hjA
          have hgd2 : A.getD j 0 = A[j] := by rw [List.getD_eq_getElem?_getD, List.getElem?_eq_getElem hjA]; rfl
          rw [hgd2] at hsu2
          obtain ⟨z, hz⟩ : ∃ z, A[j] = z := ⟨_, rfl⟩
          rw [hz] at y2 hr2 hsu2
          obtain ⟨v', w', hrun, hc, hfz, hnx⟩ := hbx.push rfl hoq hBq hr2 hsu2 (by rw [compA_len]; omega)
          have c1 := hbx.c1
          have c1d : (W3.alloc (.cells #[.int .i64 z] 3)).cell? ⟨W1.heap.size, 1, none⟩ = some (.slice av q cv) := cell_later (below1 W3 (.cells #[.int .i64 z] 3)) c1
          have rrun := hrun.out
          have rc := hc.out
          have rf := hfz.out
          have hlen : (compA A L (q + 1)).length = q + 1 := compA_len _ _ _
          obtain ⟨av', cv', hv', -⟩ := OwnI.ints hnx.out.2.1
          rw [hlen] at hv'
          subst hv'
          have hbH := Lib.hid hbx.lt
          clear hbx hoq hBq i1 i2 hgd hgd2 hsu2 hx hz hrun hc hfz hlen
          go_wp2_with fail
          go_region_law (rw [if_pos (by kernel_rfl)]; refine oper_append_run (.tmp 36) (.tmp 42) _ rfl rfl rfl rrun ?_)
          all_goals go_wp2_with fail
          all_goals go_roundw
          all_goals first | exact ⟨q + 1, _, _, by go_num, hlt2, hnx.out.1, hnx.out.2.1, hnx.out.2.2⟩ | (simp [intOf]; omega)
        · have hqq : q = L.length := by omega
          subst hqq
          obtain ⟨W3, hW3⟩ : ∃ W3, W3 = wr := ⟨_, rfl⟩
          subst hW3
          have c0 := hbx.c0
          have c1 := hbx.c1
          have hbb := bcall hb1H.out hBq
          obtain ⟨av', cv', hv', hIv⟩ := OwnI.ints hoq
          have hlen := compA_len A L L.length
          simp only [Value.slice.injEq] at hv'
          obtain ⟨rfl, -, rfl⟩ := hv'
          obtain ⟨v', w', hrun', ho', hB'⟩ := OwnW.pushU hoH.out hBH.out hbb (x := (T, compA A L L.length)) pr hIv (fun b hb => by omega) hsuH.out (by rw [compD_len]; omega)
          rw [show ((T, compA A L L.length) : Int × List Int).2.length = L.length from hlen] at hrun'
          clear hbx hoq hBq hbb hIv hlen
          go_wp2_with (at_builtin; refine wpList_append_run rfl _ _ _ rfl rfl rfl hrun'.out ?_)
          go_roundw
          case rel => exact ⟨k + 1, by go_num, hlt, ho'.out, hB'.out⟩
          case measure => simp [intOf]; omega
    · have hkn : k = d.length := by omega
      subst hkn
      have hoH := Lib.hid ho
      have hBH := Lib.hid hB
      clear ho hB
      go_wp2_with fail
      go_ret
      exact ⟨_, rfl, hoH.out, hBH.out⟩
def cmpE (a b c : Sg) (d e : Ways) : Ways × Int := if (validD a b d && validD b c e) = true then (compD d e d.length, 0) else ([], 1)
set_option maxHeartbeats 1000000 in
theorem Composed_any {S1 S2 S3 S4 S5 : Nat → Prop} (a1 a2 a3 a4 a5 : Option Addr) (c1 c2 c3 c4 c5 : Nat) (a b c : Sg) (d e : Ways) (w : World) (h1 : Sign S1 w a1 c1 a) (h2 : Sign S2 w a2 c2 b) (h3 : Sign S3 w a3 c3 c) (h4 : WaysL S4 w a4 c4 d) (h5 : WaysL S5 w a5 c5 e) (hda : ∀ x ∈ d, x.2.length ≤ 1000) (hea : ∀ x ∈ e, x.2.length ≤ 1000) :
    Calls Tryz.prog 35 #[.slice a1 a.length c1, .slice a2 b.length c2, .slice a3 c.length c3, .slice a4 d.length c4, .slice a5 e.length c5] w (retWE (cmpE a b c d e) w) := by
  have m1 := h1.le
  have m2 := h2.le
  have m3 := h3.le
  have m4 := h4.le
  have m5 := h5.le
  have v1 := tValid_any a1 a2 a4 c1 c2 c4 a b d w h1 h2 h4 hda
  have v2 := fun W (hb : Below w.heap.size w W) => tValid_any a2 a3 a5 c2 c3 c5 b c e W (h2.below hb) (h3.below hb) (h5.below hb) hea
  unfold cmpE
  cases hx : validD a b d with
  | false =>
    rw [hx] at v1
    have v1H := Lib.hid v1
    clear v1 v2 h1 h2 h3 h4 h5 hda hea hx
    go_enter Tryz.func35, Tryz.ntmps35
    go_wp2_with fail
    refine v1H.out.mono ?_
    rintro e w1 ⟨rfl, hb1⟩
    go_wp2_with fail
    go_ret2
    exact ⟨_, _, rfl, Sl.empty, hb1⟩
  | true =>
  rw [hx] at v1
  cases hy : validD b c e with
  | false =>
    simp only [hy] at v2
    have v1H := Lib.hid v1
    have v2H := Lib.hid v2
    clear v1 v2 h1 h2 h3 h4 h5 hda hea hx hy
    go_enter Tryz.func35, Tryz.ntmps35
    go_wp2_with fail
    refine v1H.out.mono ?_
    rintro e w1 ⟨rfl, hb1⟩
    go_wp2_with fail
    refine (v2H.out _ hb1).mono ?_
    rintro e w2 ⟨rfl, hb2⟩
    go_wp2_with fail
    go_ret2
    exact ⟨_, _, rfl, Sl.empty, bcall hb1 hb2⟩
  | true =>
  simp only [hy] at v2
  have v1H := Lib.hid v1
  have v2H := Lib.hid v2
  have v3 := Lib.hid (fun W (hb : Below w.heap.size w W) => composed_any a4 a5 c4 c5 d e W (h4.below hb) (h5.below hb) (fits_valid hx hy))
  rw [show (true && true) = true from rfl, if_pos rfl]
  obtain ⟨R, hR⟩ : ∃ R, compD d e d.length = R := ⟨_, rfl⟩
  simp only [hR] at v3 ⊢
  clear v1 v2 h1 h2 h3 h4 h5 hda hea hx hy hR
  go_enter Tryz.func35, Tryz.ntmps35
  go_wp2_with fail
  refine v1H.out.mono ?_
  rintro e w1 ⟨rfl, hb1⟩
  go_wp2_with fail
  refine (v2H.out _ hb1).mono ?_
  rintro e w2 ⟨rfl, hb2⟩
  go_wp2_with fail
  refine (v3.out _ (bcall hb1 hb2)).mono ?_
  rintro e w3 ⟨v3, rfl, ho3, hb3⟩
  obtain ⟨aZ, cZ, rfl, hW⟩ := OwnL.sl ho3
  go_wp2_with fail
  go_ret2
  exact ⟨_, _, rfl, Sl.any hW, bcall (bcall hb1 hb2) hb3⟩
end Go.Proofs.YtfjodhgbbefkjaaGreatDoor

/- Walks: the reference's composed, Composed. -/
namespace Go.Proofs.YtfjodhgbbefkjaaGreatDoor
open Go Go.RowKit Go.Maps

set_option maxRecDepth 20000 in
set_option maxHeartbeats 4000000 in
theorem rcomposed_any {S1 S2 : Nat → Prop} (a1 a2 : Option Addr) (c1 c2 : Nat) (d e : Ways) (w : World) (h1 : WaysL S1 w a1 c1 d) (h2 : WaysL S2 w a2 c2 e) (hf : Fits d e) :
    Calls Tryz.prog 78 #[.slice a1 d.length c1, .slice a2 e.length c2] w (retWs w (compD d e d.length)) := by
  have m1 := h1.le
  have m2 := h2.le
  have h1H := Lib.hid h1
  have h2H := Lib.hid h2
  obtain ⟨hdl, hf⟩ := hf
  have hfH := Lib.hid hf
  clear h1 h2 hf
  go_enter Tryz.func78, Tryz.ntmps78
  go_wp2_with fail
  go_loopw [5, 6] (fun out i wr => cmRel d e w out i wr) (fun _ i _ => d.length - (intOf i).toNat)
  case atStart => exact ⟨0, rfl, Nat.zero_le _, .nil _ _ _ _ _, .refl _ _⟩
  case round =>
    obtain ⟨k, rfl, hk, ho, hB⟩ := hrel
    by_cases hlt : k < d.length
    · obtain ⟨w0, hw0⟩ : ∃ w0, w0 = wr := ⟨_, rfl⟩
      subst hw0
      obtain ⟨b1, o1, aA, cA, rfl, -, q0, q1, qr, hA⟩ := (h1H.out.below hB).way k hlt
      obtain ⟨f0, f1, f2, f3, f4⟩ := hfH.out k hlt
      obtain ⟨b2, o2, aL, cL, rfl, -, p0, p1, pr, hL⟩ := (h2H.out.below hB).way _ f1
      have hsucc : compD d e (k + 1) = compD d e k ++ [(e[d[k].1.toNat].1, compA d[k].2 e[d[k].1.toNat].2 e[d[k].1.toNat].2.length)] := by
        rw [compD]
        have e1 : d.getD k (0, []) = d[k] := by rw [List.getD_eq_getElem?_getD, List.getElem?_eq_getElem hlt]; rfl
        rw [e1]
        have e2 : e.getD d[k].1.toNat (0, []) = e[d[k].1.toNat] := by rw [List.getD_eq_getElem?_getD, List.getElem?_eq_getElem f1]; rfl
        rw [e2]
      obtain ⟨x, hx⟩ : ∃ x, d[k] = x := ⟨_, rfl⟩
      have hxx : e[x.1.toNat]'(by rw [← hx]; exact f1) = e[d[k].1.toNat] := by simp only [hx]
      obtain ⟨y, hy⟩ : ∃ y, e[d[k].1.toNat] = y := ⟨_, rfl⟩
      rw [hy] at p0 p1 pr hL f3 f4 hsucc
      rw [hx] at q0 q1 qr hA f0 f2 f3 f4 hsucc p0 p1
      have f1' : x.1.toNat < e.length := by rw [← hx]; exact f1
      clear hx hxx hy f1
      obtain ⟨T0, A⟩ := x
      obtain ⟨T, L⟩ := y
      dsimp only at q0 q1 qr hA p0 p1 pr hL f0 f2 f3 f4 hsucc f1'
      obtain ⟨n, rfl⟩ : ∃ n : Nat, T0 = (n : Int) := ⟨T0.toNat, by omega⟩
      rw [Int.toNat_natCast] at p0 p1 f1'
      rw [f3] at hsucc
      obtain ⟨W2, hW2⟩ : ∃ W2, w0.alloc (.cells #[.int .i64 T, .slice none 0 0] 78) = W2 := ⟨_, rfl⟩
      have hb2 : Below w0.heap.size w0 W2 := by rw [← hW2]; exact below1 _ _
      have hx2 : WyBox W2 w0.heap.size T (.slice none 0 0) := by rw [← hW2]; exact .new _ _ _
      have fz := hx2.f1
      have cz := hx2.c1
      have sz : W2.setCell ⟨w0.heap.size, 1, none⟩ (.slice none 0 0) = W2 := by rw [← hW2]; clear hW2 fz cz hx2 hb2; go_simp
      have rH := Lib.hid (fun (W : World) (hb : Below w0.heap.size w0 W) => And.intro (cell_later hb q0) (And.intro (cell_later hb q1) (cell_later hb p1)))
      have hIH := Lib.hid (fun (W : World) (hb : Below w0.heap.size w0 W) => And.intro (hA.below hb) (hL.below hb))
      have hoH := Lib.hid ho
      have hBH := Lib.hid hB
      have hb2H := Lib.hid hb2
      have hsuH := Lib.hid hsucc
      have hx2H := Lib.hid hx2
      have fH := Lib.hid f4
      have f3H := Lib.hid f3
      have mL := hL.le
      have mA := hA.le
      have mL2 : L.length ≤ 1000 := by omega
      clear ho hB hsucc hb2 hx2 hA hL f4 f3
      go_wp2_with fail
      clear hW2 fz cz sz q0 q1 p0 p1
      go_loopw [8] (fun i wr => caRel A L T w0 i wr) (fun i _ => A.length - (intOf i).toNat)
      case atStart => exact ⟨0, none, 0, rfl, Nat.zero_le _, hx2H.out, .nil _ _ _ _ _, hb2H.out⟩
      case round =>
        obtain ⟨q, av, cv, rfl, hq, hbx, hoq, hBq⟩ := hrel
        obtain ⟨W3, hW3⟩ : ∃ W3, W3 = wr := ⟨_, rfl⟩
        subst hW3
        obtain ⟨z0, z1, z2⟩ := rH.out W3 hBq
        have hqA : q ≤ A.length := by have := f3H.out; omega
        clear hq
        by_cases hlt2 : q < A.length
        · obtain ⟨i1, i2⟩ := hIH.out W3 hBq
          have hltL : q < L.length := by have := f3H.out; omega
          obtain ⟨bL, oL, rfl, -, y1, -⟩ := i2.int q hltL
          obtain ⟨g0, g1⟩ := fH.out _ (List.getElem_mem hltL)
          have hgd : L.getD q 0 = L[q] := by rw [List.getD_eq_getElem?_getD, List.getElem?_eq_getElem hltL]; rfl
          have hsu2 : compA A L (q + 1) = compA A L q ++ [A.getD (L[q]).toNat 0] := by rw [compA, hgd]
          obtain ⟨x, hx⟩ : ∃ x, L[q] = x := ⟨_, rfl⟩
          rw [hx] at y1 g0 g1 hsu2
          obtain ⟨j, rfl⟩ : ∃ j : Nat, x = (j : Int) := ⟨x.toNat, by omega⟩
          rw [Int.toNat_natCast] at hsu2
          have hjA : j < A.length := by omega
          obtain ⟨bA, oA, rfl, -, y2, hr2⟩ := i1.int j hjA
          have hgd2 : A.getD j 0 = A[j] := by rw [List.getD_eq_getElem?_getD, List.getElem?_eq_getElem hjA]; rfl
          rw [hgd2] at hsu2
          obtain ⟨z, hz⟩ : ∃ z, A[j] = z := ⟨_, rfl⟩
          rw [hz] at y2 hr2 hsu2
          obtain ⟨v', w', hrun, hc, hfz, hnx⟩ := hbx.push rfl hoq hBq hr2 hsu2 (by rw [compA_len]; omega)
          have c1 := hbx.c1
          have c1d : (W3.alloc (.cells #[.int .i64 z] 3)).cell? ⟨w0.heap.size, 1, none⟩ = some (.slice av q cv) := cell_later (below1 W3 (.cells #[.int .i64 z] 3)) c1
          have rrun := hrun.out
          have rc := hc.out
          have rf := hfz.out
          have hlen : (compA A L (q + 1)).length = q + 1 := compA_len _ _ _
          obtain ⟨av', cv', hv', -⟩ := OwnI.ints hnx.out.2.1
          rw [hlen] at hv'
          subst hv'
          have hbH := Lib.hid hbx.lt
          clear hbx hoq hBq i1 i2 hgd hgd2 hsu2 hx hz hrun hc hfz hlen
          go_wp2_with fail
          go_region_law (rw [if_pos (by kernel_rfl)]; refine oper_append_run (.tmp 36) (.tmp 56) _ rfl rfl rfl rrun ?_)
          all_goals go_wp2_with fail
          all_goals go_roundw
          all_goals first | exact ⟨q + 1, _, _, by go_num, (by have := f3H.out; omega), hnx.out.1, hnx.out.2.1, hnx.out.2.2⟩ | (simp [intOf]; omega)
        · have hqq : q = A.length := by omega
          subst hqq
          have c0 := hbx.c0
          have c1 := hbx.c1
          obtain ⟨av', cv', hv', hIv⟩ := OwnI.ints hoq
          have hlen := compA_len A L A.length
          simp only [Value.slice.injEq] at hv'
          obtain ⟨rfl, -, rfl⟩ := hv'
          obtain ⟨v', w', hrun', ho', hB'⟩ := OwnW.pushU hoH.out hBH.out hBq (x := (T, compA A L A.length)) pr hIv (fun b hb => by omega) hsuH.out (by rw [compD_len]; omega)
          rw [show ((T, compA A L A.length) : Int × List Int).2.length = A.length from hlen] at hrun'
          clear hbx hoq hBq hIv hlen
          go_wp2_with (at_builtin; refine wpList_append_run rfl _ _ _ rfl rfl rfl hrun'.out ?_)
          go_roundw
          case rel => exact ⟨k + 1, by go_num, hlt, ho'.out, hB'.out⟩
          case measure => simp [intOf]; omega
    · have hkn : k = d.length := by omega
      subst hkn
      have hoH := Lib.hid ho
      have hBH := Lib.hid hB
      clear ho hB
      go_wp2_with fail
      go_ret
      exact ⟨_, rfl, hoH.out, hBH.out⟩
set_option maxHeartbeats 1000000 in
theorem rComposed_any {S1 S2 S3 S4 S5 : Nat → Prop} (a1 a2 a3 a4 a5 : Option Addr) (c1 c2 c3 c4 c5 : Nat) (a b c : Sg) (d e : Ways) (w : World) (h1 : Sign S1 w a1 c1 a) (h2 : Sign S2 w a2 c2 b) (h3 : Sign S3 w a3 c3 c) (h4 : WaysL S4 w a4 c4 d) (h5 : WaysL S5 w a5 c5 e) :
    Calls Tryz.prog 36 #[.slice a1 a.length c1, .slice a2 b.length c2, .slice a3 c.length c3, .slice a4 d.length c4, .slice a5 e.length c5] w (retWE (cmpE a b c d e) w) := by
  have m1 := h1.le
  have m2 := h2.le
  have m3 := h3.le
  have m4 := h4.le
  have m5 := h5.le
  have v1 : Calls _ _ _ _ _ := (rValid3_any a1 a2 a4 c1 c2 c4 a b d w h1 h2 h4).mono (fun e w' h => And.intro h.1 (h.2.below w.heap.size))
  have v2 := fun W (hb : Below w.heap.size w W) => (rValid3_any a2 a3 a5 c2 c3 c5 b c e W (h2.below hb) (h3.below hb) (h5.below hb)).mono (fun e w' h => And.intro h.1 (h.2.below W.heap.size))
  unfold cmpE
  cases hx : validD a b d with
  | false =>
    rw [hx] at v1
    have v1H := Lib.hid v1
    clear v1 v2 h1 h2 h3 h4 h5 hx
    go_enter Tryz.func36, Tryz.ntmps36
    go_wp2_with fail
    refine v1H.out.mono ?_
    rintro e w1 ⟨rfl, hb1⟩
    go_wp2_with fail
    go_ret2
    exact ⟨_, _, rfl, Sl.empty, hb1⟩
  | true =>
  rw [hx] at v1
  cases hy : validD b c e with
  | false =>
    simp only [hy] at v2
    have v1H := Lib.hid v1
    have v2H := Lib.hid v2
    clear v1 v2 h1 h2 h3 h4 h5 hx hy
    go_enter Tryz.func36, Tryz.ntmps36
    go_wp2_with fail
    refine v1H.out.mono ?_
    rintro e w1 ⟨rfl, hb1⟩
    go_wp2_with fail
    refine (v2H.out _ hb1).mono ?_
    rintro e w2 ⟨rfl, hb2⟩
    go_wp2_with fail
    go_ret2
    exact ⟨_, _, rfl, Sl.empty, bcall hb1 hb2⟩
  | true =>
  simp only [hy] at v2
  have v1H := Lib.hid v1
  have v2H := Lib.hid v2
  have v3 := Lib.hid (fun W (hb : Below w.heap.size w W) => rcomposed_any a4 a5 c4 c5 d e W (h4.below hb) (h5.below hb) (fits_valid hx hy))
  rw [show (true && true) = true from rfl, if_pos rfl]
  obtain ⟨R, hR⟩ : ∃ R, compD d e d.length = R := ⟨_, rfl⟩
  simp only [hR] at v3 ⊢
  clear v1 v2 h1 h2 h3 h4 h5 hx hy hR
  go_enter Tryz.func36, Tryz.ntmps36
  go_wp2_with fail
  refine v1H.out.mono ?_
  rintro e w1 ⟨rfl, hb1⟩
  go_wp2_with fail
  refine (v2H.out _ hb1).mono ?_
  rintro e w2 ⟨rfl, hb2⟩
  go_wp2_with fail
  refine (v3.out _ (bcall hb1 hb2)).mono ?_
  rintro e w3 ⟨v3, rfl, ho3, hb3⟩
  obtain ⟨aZ, cZ, rfl, hW⟩ := OwnL.sl ho3
  go_wp2_with fail
  go_ret2
  exact ⟨_, _, rfl, Sl.any hW, bcall (bcall hb1 hb2) hb3⟩
end Go.Proofs.YtfjodhgbbefkjaaGreatDoor
