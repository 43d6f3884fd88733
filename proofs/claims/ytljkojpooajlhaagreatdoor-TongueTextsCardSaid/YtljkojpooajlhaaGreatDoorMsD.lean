/- The proof of a statement, some of its texts joined in build order: part D. -/
import Derived.Test.YtljkojpooajlhaaGreatDoorMsM
import Derived.Test.YtljkojpooajlhaaGreatDoorMsI
import Derived.Lib.SlicesCompact
import Derived.Test.YtljkojpooajlhaaGreatDoorShSort
import Derived.Test.YtljkojpooajlhaaGreatDoorWalkF
import Derived.Lib.OwnBridge
import Derived.Shelf.Slices.CompactI
import Derived.Shelf.Sort.Plain
import Derived.Shelf.Slices.In.SortNone
import Derived.Test.YtljkojpooajlhaaGreatDoorMsB
import Derived.Test.YtljkojpooajlhaaGreatDoorWalkD
import Derived.Test.YtljkojpooajlhaaGreatDoorMsC
import Derived.Test.YtljkojpooajlhaaGreatDoorVMap
import Derived.Test.YtljkojpooajlhaaGreatDoorWalkE
/- Dictionaries composed. No program is named. -/
namespace Go.Proofs.YtljkojpooajlhaaGreatDoor

theorem compA_get {x l : List Int} : ∀ {k : Nat}, compA x l k = (List.range k).map (fun i => x.getD (l.getD i 0).toNat 0)
  | 0 => rfl
  | k + 1 => by rw [compA, compA_get, List.range_succ, List.map_append]; rfl
theorem compA_all (x l : List Int) : compA x l l.length = l.map (fun j => x.getD j.toNat 0) := by
  rw [compA_get]
  apply List.ext_getElem
  · simp
  · intro i h1 h2
    have hi : i < l.length := by simpa using h2
    have e : l.getD i 0 = l[i] := by rw [List.getD_eq_getElem?_getD, List.getElem?_eq_getElem hi]; rfl
    rw [List.getElem_map, List.getElem_map, List.getElem_range, e]
/-- one way of what is composed -/
def compW (d e : Ways) (i : Nat) : Int × List Int := ((e.getD (d.getD i (0, [])).1.toNat (0, [])).1, (e.getD (d.getD i (0, [])).1.toNat (0, [])).2.map (fun j => (d.getD i (0, [])).2.getD j.toNat 0))
theorem compD_map (d e : Ways) : ∀ (k : Nat), compD d e k = (List.range k).map (compW d e)
  | 0 => rfl
  | k + 1 => by rw [compD, compD_map d e k, List.range_succ, List.map_append, compA_all]; rfl
theorem compD_len (d e : Ways) (k : Nat) : (compD d e k).length = k := by rw [compD_map]; simp
theorem compD_get {d e : Ways} {k i : Nat} (h : i < k) : (compD d e k).getD i (0, []) = compW d e i := by
  rw [compD_map, List.getD_eq_getElem?_getD, List.getElem?_eq_getElem (by simpa using h), Option.getD_some, List.getElem_map, List.getElem_range]
theorem ordB_of_perm {l : List Int} (h : l.Perm (ascL l.length)) : ordB l = true := by
  rw [ordB_iff]
  intro i hi
  exact h.mem_iff.2 (mem_ascL.2 (by omega))
theorem ascL_mapI (x : List Int) : (ascL x.length).map (fun k => x.getD k.toNat 0) = x := by
  apply List.ext_getElem
  · rw [List.length_map, ascL_len]
  · intro i h1 h2
    rw [List.getElem_map, ascL_get, Int.toNat_natCast, List.getD_eq_getElem?_getD, List.getElem?_eq_getElem h2]; rfl
theorem comp_perm {x l : List Int} (hx : x.Perm (ascL x.length)) (hl : l.Perm (ascL l.length)) (he : l.length = x.length) : (l.map (fun j => x.getD j.toNat 0)).Perm (ascL (l.map (fun j => x.getD j.toNat 0)).length) := by
  have h1 := hl.map (fun j => x.getD j.toNat 0)
  rw [he, ascL_mapI] at h1
  rw [List.length_map, he]
  exact h1.trans hx
theorem validD_of {a b : Sg} {d : Ways} (ha : okSign a = true) (hb : okSign b = true) (hl : d.length = a.length) (h0 : (d.getD 0 (0, [])).1 = 0) (h1 : (d.getD 0 (0, [])).2 = [0, 1]) (hw : ∀ i, i < d.length → wayOk a b i (d.getD i (0, [])) = true) : validD a b d = true := by
  have hk : ∀ k, k ≤ d.length → wysOk a b d k = true := by
    intro k
    induction k with
    | zero => intro _; rfl
    | succ k ih => intro hk; rw [wysOk, ih (by omega), hw k (by omega)]; rfl
  unfold validD
  rw [ha, hb, hk _ (Nat.le_refl _), h0, h1]
  simp [hl]
theorem validD_at {a b : Sg} {d : Ways} (h : validD a b d = true) {i : Nat} (hi : i < a.length) :
    0 ≤ (d.getD i (0, [])).1 ∧ (d.getD i (0, [])).1 < b.length ∧ arAt b (d.getD i (0, [])).1 = arAt a i ∧ ((d.getD i (0, [])).2.length : Int) = arAt a i ∧ (d.getD i (0, [])).2.Perm (ascL (d.getD i (0, [])).2.length) := by
  have := validD_way h (n := (i : Int)) (by omega) (by omega)
  simpa using this
theorem comp_valid {a b c : Sg} {d e : Ways} (hd : validD a b d = true) (he : validD b c e = true) : validD a c (compD d e d.length) = true := by
  obtain ⟨a1, a2, a3, -, a5, a6⟩ := validD_parts hd
  obtain ⟨b1, b2, b3, -, b5, b6⟩ := validD_parts he
  have hl := okSign_len a1
  have hz := compD_get (d := d) (e := e) (k := d.length) (i := 0) (by omega)
  refine validD_of a1 b2 (by rw [compD_len, a3]) ?_ ?_ (fun i hi => ?_)
  · rw [hz, compW, a5]; exact b5
  · rw [hz, compW, a5, a6]
    rw [show (e.getD (0 : Int).toNat (0, [])).2 = [0, 1] from b6]; rfl
  · rw [compD_len] at hi
    rw [compD_get hi]
    obtain ⟨g1, g2, g3, g4, g5⟩ := validD_at hd (i := i) (by omega)
    obtain ⟨f1, f2, f3, f4, f5⟩ := validD_way he g1 g2
    unfold wayOk compW
    rw [Bool.and_eq_true, Bool.and_eq_true, Bool.and_eq_true, Bool.and_eq_true, decide_eq_true_eq, decide_eq_true_eq, decide_eq_true_eq, decide_eq_true_eq]
    refine ⟨⟨f1, ?_⟩, by rw [f3, g3], by rw [List.length_map, f4, g3], ?_⟩
    · show (e.getD (d.getD i (0, [])).1.toNat (0, [])).1 ≤ (c.length : Int) - 1
      omega
    · exact ordB_of_perm (comp_perm g5 f5 (by omega))
theorem argsT_build {s : Sg} (hs : okSign s = true) {n : Int} (h0 : 0 ≤ n) (h1 : n < s.length) {A : List (List Int)} (hA : ∀ u ∈ A, skip s 1 u = some []) (hl : (A.length : Int) = arAt s n) : argsT s (n :: A.flatten) = A := by
  have := (ar_at hs h0 h1).1
  unfold argsT
  simp only
  rw [show ar s n = A.length by omega]
  have h := splitK_flatten A [] hA
  rwa [List.append_nil] at h
/-- what is composed carries by both -/
theorem comp_carry {a b c : Sg} {d e : Ways} (hd : validD a b d = true) (he : validD b c e = true) : ∀ (f : Nat) {t : List Int}, okT a t = true → t.length ≤ f → carT b e (carT a d t) = carT a (compD d e d.length) t
  | 0, t, h, hf => by have := (okT_parts h).2.1; omega
  | f + 1, t, h, hf => by
    obtain ⟨n, x, ht, hc, hs⟩ := okT_head h
    obtain ⟨g1, g2, g3⟩ := argsT_spec h
    obtain ⟨hA, hB, hdl, -⟩ := validD_parts hd
    by_cases hn : n < 0
    · have har : ar a n = 0 := ar_neg hn
      rw [har, skip_zero] at hs
      simp only [Option.some.injEq] at hs
      subst hs
      subst ht
      rw [carT_neg hn, carT_neg hn, carT_neg hn]
    · have hh : t.headD 0 = n := by rw [ht]; rfl
      have hnl : n < a.length := by simp [codeOk] at hc; omega
      obtain ⟨w1, w2, w3, w4, w5⟩ := validD_way hd (n := n) (by omega) hnl
      obtain ⟨v1, v2, v3, v4, v5⟩ := validD_way he w1 w2
      have hok := (carT_ok hd t.length h (Nat.le_refl _)).1
      rw [carT_node h (by rw [hh]; omega), hh] at hok ⊢
      rw [carT_node (d := compD d e d.length) h (by rw [hh]; omega), hh]
      have hfl : (argsT a t).flatten.length + 1 = t.length := by
        have := congrArg List.length g2
        rw [List.length_cons] at this; omega
      have hargs : ∀ u ∈ argsT a t, okT b (carT a d u) = true ∧ carT b e (carT a d u) = carT a (compD d e d.length) u := fun u hu => by
        have := len_flatten hu
        exact ⟨(carT_ok hd u.length (g3 u hu) (Nat.le_refl _)).1, comp_carry hd he f (g3 u hu) (by omega)⟩
      rw [hh] at g1
      have hlenA : (argsT a t).length = (d.getD n.toNat (0, [])).2.length := by
        have := (ar_at hA (n := n) (by omega) hnl).1
        omega
      obtain ⟨A, hAe⟩ : ∃ A, argsT a t = A := ⟨_, rfl⟩
      rw [hAe] at hargs hlenA hok ⊢
      have hcw := compD_get (d := d) (e := e) (k := d.length) (i := n.toNat) (by omega)
      unfold carA at hok ⊢
      rw [hcw]
      unfold compW
      obtain ⟨w, hw⟩ : ∃ w, d.getD n.toNat (0, []) = w := ⟨_, rfl⟩
      rw [hw] at w1 w2 w3 w4 w5 v1 v2 v3 v4 v5 hlenA hok ⊢
      have hin : ∀ k ∈ w.2, 0 ≤ k ∧ k < A.length := fun k hk => by
        have := mem_ascL.1 (w5.mem_iff.1 hk)
        omega
      have hAA : ∀ u ∈ w.2.map (fun k => (A.map (carT a d)).getD k.toNat []), skip b 1 u = some [] := fun u hu => by
        obtain ⟨k, hk, rfl⟩ := List.mem_map.1 hu
        obtain ⟨h0, h1⟩ := hin k hk
        have hlt : k.toNat < A.length := by omega
        rw [List.getD_eq_getElem?_getD, List.getElem?_eq_getElem (by rw [List.length_map]; exact hlt), Option.getD_some, List.getElem_map]
        exact (okT_parts (hargs _ (List.getElem_mem hlt)).1).2.2.2
      rw [carT_node hok (by exact w1)]
      rw [List.headD_cons, argsT_build hB w1 w2 hAA (by rw [List.length_map]; omega)]
      unfold carA
      congr 1
      congr 1
      simp only [List.map_map]
      apply List.map_congr_left
      intro j hj
      have hjr := mem_ascL.1 (v5.mem_iff.1 hj)
      have hjl : j.toNat < w.2.length := by omega
      have hm := hin _ (List.getElem_mem hjl)
      have hml : (w.2[j.toNat]).toNat < A.length := by omega
      rw [List.getD_eq_getElem?_getD, List.getElem?_eq_getElem (by simpa using hjl), Option.getD_some, List.getElem_map]
      have ew : w.2.getD j.toNat 0 = w.2[j.toNat] := by rw [List.getD_eq_getElem?_getD, List.getElem?_eq_getElem hjl]; rfl
      have eg : ∀ F : List Int → List Int, (A.map F).getD (w.2[j.toNat]).toNat [] = F A[(w.2[j.toNat]).toNat] := fun F => by
        rw [List.getD_eq_getElem?_getD, List.getElem?_eq_getElem (by simpa using hml), Option.getD_some, List.getElem_map]
      simp only [Function.comp]
      rw [ew, eg, eg]
      exact (hargs _ (List.getElem_mem hml)).2
/-- composing is associative -/
theorem comp_assoc {a b c s : Sg} {d e g : Ways} (hd : validD a b d = true) (he : validD b c e = true) (hg : validD c s g = true) : compD (compD d e d.length) g (compD d e d.length).length = compD d (compD e g e.length) d.length := by
  obtain ⟨-, -, a3, -⟩ := validD_parts hd
  obtain ⟨-, -, b3, -⟩ := validD_parts he
  rw [compD_len, compD_map, compD_map d (compD e g e.length)]
  apply List.map_congr_left
  intro i hi
  have hi' := List.mem_range.1 hi
  obtain ⟨g1, g2, g3, g4, g5⟩ := validD_at hd (i := i) (by omega)
  obtain ⟨f1, f2, f3, f4, f5⟩ := validD_way he g1 g2
  obtain ⟨k1, k2, k3, k4, k5⟩ := validD_way hg f1 f2
  have e1 := compD_get (d := d) (e := e) hi'
  have e2 := compD_get (d := e) (e := g) (k := e.length) (i := (d.getD i (0, [])).1.toNat) (by omega)
  unfold compW at e1 e2 ⊢
  rw [e1, e2]
  simp only
  congr 1
  rw [List.map_map]
  apply List.map_congr_left
  intro j hj
  have hjr := mem_ascL.1 (k5.mem_iff.1 hj)
  simp only [Function.comp]
  have hjl : j.toNat < (e.getD (d.getD i (0, [])).1.toNat (0, [])).2.length := by omega
  rw [List.getD_eq_getElem?_getD, List.getElem?_eq_getElem (by simpa using hjl), Option.getD_some, List.getElem_map]
  rw [List.getD_eq_getElem?_getD (l := (e.getD (d.getD i (0, [])).1.toNat (0, [])).2), List.getElem?_eq_getElem hjl, Option.getD_some]
end Go.Proofs.YtljkojpooajlhaaGreatDoor

/- Proofs joined and moved, in plain words. No program is named. -/
namespace Go.Proofs.YtljkojpooajlhaaGreatDoor

def shS (k : Nat) (x : Stp) : Stp := if x.1 = 2 then (x.1, x.2.1 + k, x.2.2 + k) else x
def mvS (to : List Int) (x : Stp) : Stp := if x.1 = 1 then (x.1, to.getD x.2.1.toNat 0, x.2.2) else x
def joinedL (p q : List Stp) : List Stp := p ++ q.map (shS p.length) ++ [(2, (p.length : Int) - 1, (p.length : Int) + q.length - 1)]
def joinedE (G : Int) (p q : List Stp) : List Stp × Int := if proofB G p = true ∧ proofB G q = true then (if p.length + q.length + 1 ≤ 60 then (joinedL p q, 0) else ([], 4)) else ([], 1)
def movedE (G : Int) (p : List Stp) (to : List Int) (count : Int) : List Stp × Int :=
  if proofB G p = true then (if (to.length : Int) = G then (if (decide (0 ≤ count) && decide (count ≤ 60) && to.all (fun n => decide (0 ≤ n) && decide (n ≤ count - 1))) = true then (p.map (mvS to), 0) else ([], 7)) else ([], 9)) else ([], 1)

theorem okSteps_append {G : Int} : ∀ (p q : List Stp) (n : Nat), okSteps G n (p ++ q) = (okSteps G n p && okSteps G (n + p.length) q)
  | [], q, n => by simp [okSteps]
  | x :: p, q, n => by
    rw [List.cons_append, okSteps, okSteps, okSteps_append p q (n + 1), Bool.and_assoc, List.length_cons, show n + 1 + p.length = n + (p.length + 1) by omega]
theorem rightB_sh {G : Int} {n k : Nat} {x : Stp} (h : rightB G n x = true) : rightB G (n + k) (shS k x) = true := by
  unfold shS
  by_cases h2 : x.1 = 2
  · rw [if_pos h2]
    obtain ⟨-, d1, d2, d3, d4⟩ := rightB_detach h (by omega)
    simp only [rightB, Bool.or_eq_true, Bool.and_eq_true, decide_eq_true_eq]
    right
    exact ⟨⟨h2, by omega, by omega⟩, by omega, by omega⟩
  · rw [if_neg h2]
    have h1 : x.1 = 1 := by
      simp only [rightB, Bool.or_eq_true, Bool.and_eq_true, decide_eq_true_eq] at h; omega
    obtain ⟨g1, g2, g3⟩ := rightB_cite h h1
    simp only [rightB, Bool.or_eq_true, Bool.and_eq_true, decide_eq_true_eq]
    left
    exact ⟨⟨h1, by omega, by omega⟩, g3⟩
theorem okSteps_sh {G : Int} {k : Nat} : ∀ (q : List Stp) (n : Nat), okSteps G n q = true → okSteps G (n + k) (q.map (shS k)) = true
  | [], _, _ => rfl
  | x :: q, n, h => by
    simp only [okSteps, Bool.and_eq_true] at h
    rw [List.map_cons, okSteps, Bool.and_eq_true, show n + k + 1 = n + 1 + k by omega]
    exact ⟨rightB_sh h.1, okSteps_sh q (n + 1) h.2⟩
theorem joined_ok {G : Int} {p q : List Stp} (hp : validP G p = true) (hq : validP G q = true) (hl : p.length + q.length + 1 ≤ 60) : validP G (joinedL p q) = true := by
  simp only [validP, Bool.and_eq_true, decide_eq_true_eq] at hp hq ⊢
  refine ⟨?_, ?_, ?_⟩
  · unfold joinedL
    rw [okSteps_append, okSteps_append, Bool.and_eq_true, Bool.and_eq_true]
    refine ⟨⟨hp.1, okSteps_sh q 0 hq.1⟩, ?_⟩
    simp only [okSteps, rightB, Bool.or_eq_true, Bool.and_eq_true, decide_eq_true_eq, List.length_append, List.length_map, and_true]
    right
    exact ⟨⟨trivial, by omega, by omega⟩, by omega, by omega⟩
  · unfold joinedL; simp; omega
  · unfold joinedL; simp; omega
theorem getD_app {α : Type} {l m : List α} (d : α) (n : Nat) : (l ++ m).getD (l.length + n) d = m.getD n d := by
  rw [List.getD_eq_getElem?_getD, List.getElem?_append_right (by omega), List.getD_eq_getElem?_getD]; congr 2; omega
theorem run_sh {s : Sg} {g lp : List (List Int)} : ∀ (q : List Stp) (l : List (List Int)), okSteps g.length l.length q = true → runL s g (q.map (shS lp.length)) (lp ++ l) = (lp ++ (runL s g q l).1, (runL s g q l).2)
  | [], l, _ => rfl
  | x :: q, l, h => by
    simp only [okSteps, Bool.and_eq_true] at h
    have hs : stepE s g (lp ++ l) (shS lp.length x) = stepE s g l x := by
      by_cases h1 : x.1 = 1
      · have e1 : shS lp.length x = x := by unfold shS; exact if_neg (by omega)
        rw [e1]
        unfold stepE
        rw [if_pos h1, if_pos h1]
      · obtain ⟨h2, d1, d2, d3, d4⟩ := rightB_detach h.1 h1
        have e1 : shS lp.length x = (x.1, x.2.1 + lp.length, x.2.2 + lp.length) := by unfold shS; exact if_pos h2
        rw [e1]
        unfold stepE
        simp only
        rw [if_neg h1, if_neg h1, show (x.2.1 + (lp.length : Int)).toNat = lp.length + x.2.1.toNat by omega, show (x.2.2 + (lp.length : Int)).toNat = lp.length + x.2.2.toNat by omega, getD_app, getD_app]
    rw [List.map_cons, runL, runL, hs]
    split
    · have := run_sh (s := s) (g := g) (lp := lp) q (l ++ [(stepE s g l x).1]) (by rw [List.length_append, List.length_singleton]; exact h.2)
      rw [← List.append_assoc] at this
      exact this
    · rfl
theorem validP_parts {G : Int} {p : List Stp} (h : validP G p = true) : okSteps G 0 p = true ∧ 1 ≤ p.length ∧ p.length ≤ 60 := by
  simp only [validP, Bool.and_eq_true, decide_eq_true_eq] at h; exact h
theorem askedB_parts {s : Sg} {g : List (List Int)} {p : List Stp} (h : askedB s g p = true) : givensB s g = true ∧ validP g.length p = true := by
  simpa only [askedB, Bool.and_eq_true] using h
theorem says_ok {s : Sg} {g : List (List Int)} {p : List Stp} (h : (saysE s g p).2 = 0) : askedB s g p = true ∧ (runL s g p []).2 = 0 ∧ (saysE s g p).1 = (runL s g p []).1.getLastD [] ∧ (runL s g p []).1.length = p.length ∧ okT s (saysE s g p).1 = true := by
  unfold saysE at h ⊢
  by_cases ha : askedB s g p = true
  · rw [if_pos ha] at h ⊢
    by_cases hz : (runL s g p []).2 = 0
    · rw [if_pos hz] at h ⊢
      obtain ⟨hg, hv⟩ := askedB_parts ha
      have h3 := (givensB_parts hg).2.2
      have hr := runL_okT h3 p [] (by simp) (validP_parts hv).1
      have hlen := hr.2.1 hz
      simp only [List.length_nil, Nat.zero_add] at hlen
      refine ⟨ha, hz, rfl, hlen, hr.1 _ ?_⟩
      have := (validP_parts hv).2.1
      rw [List.getLastD_eq_getLast?]
      cases hh : (runL s g p []).1.getLast? with
      | none => rw [List.getLast?_eq_none_iff] at hh; rw [hh] at hlen; simp at hlen; omega
      | some y => exact List.mem_of_getLast? hh
    · rw [if_neg hz] at h; exact (hz h).elim
  · rw [if_neg ha] at h; cases h
theorem lastD_getD {l : List (List Int)} : l.getD (l.length - 1) [] = l.getLastD [] := by
  rw [List.getLastD_eq_getLast?, List.getLast?_eq_getElem?, List.getD_eq_getElem?_getD]
/-- joined proofs say the detachment of what both say -/
theorem says_joined {s : Sg} {g : List (List Int)} {p q : List Stp} (hp : (saysE s g p).2 = 0) (hq : (saysE s g q).2 = 0) (hl : p.length + q.length + 1 ≤ 60) : saysE s g (joinedL p q) = detE s (saysE s g p).1 (saysE s g q).1 := by
  obtain ⟨a1, a2, a3, a4, a5⟩ := says_ok hp
  obtain ⟨b1, b2, b3, b4, b5⟩ := says_ok hq
  obtain ⟨hg, vp⟩ := askedB_parts a1
  obtain ⟨-, vq⟩ := askedB_parts b1
  have hask : askedB s g (joinedL p q) = true := by unfold askedB; rw [hg, joined_ok vp vq hl]; rfl
  rw [a3, b3]
  rw [a3] at a5
  rw [b3] at b5
  have hpl := (validP_parts vp).2.1
  have hql := (validP_parts vq).2.1
  obtain ⟨LP, hLP⟩ : ∃ L, (runL s g p []).1 = L := ⟨_, rfl⟩
  obtain ⟨LQ, hLQ⟩ : ∃ L, (runL s g q []).1 = L := ⟨_, rfl⟩
  rw [hLP] at a4 a5 ⊢
  rw [hLQ] at b4 b5 ⊢
  have hrun : runL s g (p ++ q.map (shS p.length)) [] = (LP ++ LQ, 0) := by
    rw [runL_append, if_pos a2, hLP]
    have := run_sh (s := s) (g := g) (lp := LP) q [] (validP_parts vq).1
    rw [List.append_nil, a4, hLQ, b2] at this
    exact this
  have hstep : stepE s g (LP ++ LQ) (2, (p.length : Int) - 1, (p.length : Int) + q.length - 1) = detE s (LP.getLastD []) (LQ.getLastD []) := by
    unfold stepE
    rw [if_neg (fun h => by cases h)]
    simp only
    rw [show ((p.length : Int) - 1).toNat = p.length - 1 by omega, show ((p.length : Int) + q.length - 1).toNat = LP.length + (q.length - 1) by omega, getD_app, ← lastD_getD, ← lastD_getD (l := LQ), a4, b4]
    congr 1
    rw [List.getD_eq_getElem?_getD, List.getElem?_append_left (by omega), ← List.getD_eq_getElem?_getD]
  have hd := det_err a5 b5
  unfold saysE
  rw [if_pos hask]
  unfold joinedL
  rw [runL_append, hrun, if_pos rfl]
  simp only [runL, hstep]
  rcases hd with h | ⟨h1, h2⟩
  · rw [if_pos h]
    simp only [if_true]
    rw [List.getLastD_concat, ← h]
  · have : ¬ (detE s (LP.getLastD []) (LQ.getLastD [])).2 = 0 := by omega
    rw [if_neg this]
    simp only
    rw [if_neg this]
    exact Prod.ext h1.symm rfl
/-- moved proofs say of the moved givens what the proofs say -/
theorem run_moved {s : Sg} {g : List (List Int)} {to : List Int} : ∀ (p : List Stp) (l : List (List Int)), okSteps to.length l.length p = true → runL s (to.map (fun n => g.getD n.toNat [])) p l = runL s g (p.map (mvS to)) l
  | [], l, _ => rfl
  | x :: p, l, h => by
    simp only [okSteps, Bool.and_eq_true] at h
    have hs : stepE s (to.map (fun n => g.getD n.toNat [])) l x = stepE s g l (mvS to x) := by
      by_cases h1 : x.1 = 1
      · obtain ⟨g1, g2, -⟩ := rightB_cite h.1 h1
        have e1 : mvS to x = (x.1, to.getD x.2.1.toNat 0, x.2.2) := by unfold mvS; exact if_pos h1
        rw [e1]
        unfold stepE
        simp only [if_pos h1]
        rw [List.getD_eq_getElem?_getD, List.getElem?_map, List.getD_eq_getElem?_getD (l := to), List.getElem?_eq_getElem (by omega)]
        rfl
      · have e1 : mvS to x = x := by unfold mvS; exact if_neg h1
        rw [e1]
        unfold stepE
        rw [if_neg h1, if_neg h1]
    rw [List.map_cons, runL, runL, hs]
    split
    · exact run_moved p _ (by rw [List.length_append, List.length_singleton]; exact h.2)
    · rfl
theorem moved_ok {G : Int} {to : List Int} {count : Int} (hG : (to.length : Int) = G) (hto : ∀ n ∈ to, 0 ≤ n ∧ n ≤ count - 1) : ∀ (p : List Stp) (n : Nat), okSteps G n p = true → okSteps count n (p.map (mvS to)) = true
  | [], _, _ => rfl
  | x :: p, n, h => by
    simp only [okSteps, Bool.and_eq_true] at h
    rw [List.map_cons, okSteps, Bool.and_eq_true]
    refine ⟨?_, moved_ok hG hto p (n + 1) h.2⟩
    unfold mvS
    by_cases h1 : x.1 = 1
    · obtain ⟨g1, g2, g3⟩ := rightB_cite h.1 h1
      rw [if_pos h1]
      have := hto (to.getD x.2.1.toNat 0) (getD_mem 0 (by omega))
      simp only [rightB, Bool.or_eq_true, Bool.and_eq_true, decide_eq_true_eq]
      left
      exact ⟨⟨h1, by omega, by omega⟩, g3⟩
    · obtain ⟨h2, d1, d2, d3, d4⟩ := rightB_detach h.1 h1
      rw [if_neg h1]
      simp only [rightB, Bool.or_eq_true, Bool.and_eq_true, decide_eq_true_eq]
      right
      exact ⟨⟨h2, by omega, by omega⟩, by omega, by omega⟩
theorem says_moved {s : Sg} {g : List (List Int)} {p : List Stp} {to : List Int} (hg : givensB s g = true) (hto : ∀ n ∈ to, 0 ≤ n ∧ n < g.length) (hp : proofB to.length p = true) :
    saysE s (to.map (fun n => g.getD n.toNat [])) p = saysE s g (p.map (mvS to)) := by
  obtain ⟨g1, g2, g3⟩ := givensB_parts hg
  have hp' := hp
  simp only [proofB, Bool.and_eq_true, decide_eq_true_eq] at hp'
  obtain ⟨⟨-, h60⟩, hv⟩ := hp'
  have a1 : askedB s (to.map (fun n => g.getD n.toNat [])) p = true := by
    unfold askedB givensB
    simp only [Bool.and_eq_true, decide_eq_true_eq, List.all_eq_true, List.length_map]
    refine ⟨⟨⟨g1, by omega⟩, fun t ht => ?_⟩, hv⟩
    obtain ⟨n, hn, rfl⟩ := List.mem_map.1 ht
    have := hto n hn
    exact g3 _ (getD_mem [] (by omega))
  have a2 : askedB s g (p.map (mvS to)) = true := by
    unfold askedB
    rw [hg, Bool.true_and]
    unfold validP
    have := moved_ok rfl (fun n hn => by have := hto n hn; exact ⟨this.1, by omega⟩) p 0 (validP_parts hv).1 (count := (g.length : Int))
    rw [this, List.length_map]
    have h2 := (validP_parts hv).2
    simp only [Bool.true_and, Bool.and_eq_true, decide_eq_true_eq]
    exact h2
  unfold saysE
  rw [if_pos a1, if_pos a2, run_moved p [] (validP_parts hv).1]
end Go.Proofs.YtljkojpooajlhaaGreatDoor

/- Trees of proofs as texts, and proofs read back from such texts, in plain words. No program is named. -/
namespace Go.Proofs.YtljkojpooajlhaaGreatDoor

/-! ### trees -/
inductive Tr where
  | g (n : Nat)
  | d (a b : Tr)
def digs (n : Nat) : List UInt8 := [UInt8.ofNat (48 + n / 10), UInt8.ofNat (48 + n % 10)]
def Tr.text : Tr → List UInt8
  | .g n => 103 :: digs n
  | .d a b => 68 :: (a.text ++ b.text)
def Tr.leaves : Tr → List Nat
  | .g n => [n]
  | .d a b => a.leaves ++ b.leaves
def Tr.subs : Tr → List Tr
  | .g n => [.g n]
  | .d a b => .d a b :: (a.subs ++ b.subs)
theorem Tr.text_len (t : Tr) : 3 ≤ t.text.length := by
  induction t with
  | g n => simp [Tr.text, digs]
  | d a b iha ihb => simp [Tr.text]; omega
theorem Tr.sub_self (t : Tr) : t ∈ t.subs := by cases t <;> simp [Tr.subs]
/-- the tree of a step, from those of the steps before it -/
def trS (ts : List Tr) (x : Stp) : Tr := if x.1 = 2 then .d (ts.getD x.2.1.toNat (.g 0)) (ts.getD x.2.2.toNat (.g 0)) else .g x.2.1.toNat
def trL : List Stp → List Tr → List Tr
  | [], ts => ts
  | x :: p, ts => trL p (ts ++ [trS ts x])
def trees (p : List Stp) : List Tr := trL p []
theorem trL_append : ∀ (p q : List Stp) (ts : List Tr), trL (p ++ q) ts = trL q (trL p ts)
  | [], _, _ => rfl
  | x :: p, q, ts => by rw [List.cons_append, trL, trL, trL_append p q]
theorem trL_len : ∀ (p : List Stp) (ts : List Tr), (trL p ts).length = ts.length + p.length
  | [], _ => rfl
  | x :: p, ts => by rw [trL, trL_len p, List.length_append, List.length_singleton, List.length_cons]; omega
theorem trees_len (p : List Stp) : (trees p).length = p.length := by unfold trees; rw [trL_len]; simp
theorem trees_snoc (p : List Stp) (x : Stp) : trees (p ++ [x]) = trees p ++ [trS (trees p) x] := by unfold trees; rw [trL_append]; rfl
theorem trees_more : ∀ (q p : List Stp), ∃ us, trees (p ++ q) = trees p ++ us := by
  intro q
  induction q with
  | nil => intro p; exact ⟨[], by simp⟩
  | cons x q ih =>
    intro p
    obtain ⟨us, h⟩ := ih (p ++ [x])
    rw [trees_snoc, List.append_assoc, List.append_assoc] at h
    exact ⟨_, h⟩
theorem getD_more {α : Type} {ts us : List α} {k : Nat} (d : α) (h : k < ts.length) : (ts ++ us).getD k d = ts.getD k d := by
  rw [List.getD_eq_getElem?_getD, List.getD_eq_getElem?_getD, List.getElem?_append_left h]
theorem getD_end {α : Type} (ts : List α) (x d : α) : (ts ++ [x]).getD ts.length d = x := by
  rw [List.getD_eq_getElem?_getD, List.getElem?_append_right (Nat.le_refl _)]; simp
theorem trS_more {G : Int} {n : Nat} {x : Stp} {ts us : List Tr} (h : rightB G n x = true) (hn : n ≤ ts.length) : trS (ts ++ us) x = trS ts x := by
  unfold trS
  by_cases h2 : x.1 = 2
  · obtain ⟨-, d1, d2, d3, d4⟩ := rightB_detach h (by omega)
    rw [if_pos h2, if_pos h2, getD_more _ (by omega), getD_more _ (by omega)]
  · rw [if_neg h2, if_neg h2]
theorem okS_snoc {G : Int} : ∀ (p : List Stp) (n : Nat) (x : Stp), okSteps G n (p ++ [x]) = (okSteps G n p && rightB G (n + p.length) x)
  | [], n, x => by simp [okSteps]
  | y :: p, n, x => by
    rw [List.cons_append, okSteps, okSteps, okS_snoc p (n + 1) x, Bool.and_assoc, List.length_cons, show n + 1 + p.length = n + (p.length + 1) by omega]
theorem okS_get {G : Int} : ∀ (p : List Stp) (n k : Nat) (hk : k < p.length), okSteps G n p = true → rightB G (n + k) p[k] = true
  | x :: p, n, 0, _, h => by simp only [okSteps, Bool.and_eq_true] at h; exact h.1
  | x :: p, n, k + 1, hk, h => by
    simp only [okSteps, Bool.and_eq_true] at h
    have := okS_get p (n + 1) k (by simpa using hk) h.2
    rw [show n + (k + 1) = n + 1 + k by omega]
    simpa using this
theorem trees_get {G : Int} : ∀ (q p : List Stp), okSteps G 0 (p ++ q) = true → (∀ k (hk : k < p.length), (trees p).getD k (.g 0) = trS (trees p) p[k]) → ∀ k (hk : k < (p ++ q).length), (trees (p ++ q)).getD k (.g 0) = trS (trees (p ++ q)) (p ++ q)[k]
  | [], p, _, h, k, hk => by
    simp only [List.append_nil] at hk ⊢
    exact h k hk
  | x :: q, p, ho, h, k, hk => by
    have e : p ++ x :: q = (p ++ [x]) ++ q := by simp
    have ho' : okSteps G 0 ((p ++ [x]) ++ q) = true := by rw [← e]; exact ho
    have hx : rightB G p.length x = true := by
      have := okS_get (p ++ x :: q) 0 p.length (by simp) ho
      simpa using this
    have hp : ∀ j (hj : j < p.length), rightB G j p[j] = true := fun j hj => by
      have := okS_get (p ++ x :: q) 0 j (by simp; omega) ho
      rw [List.getElem_append_left hj] at this
      simpa using this
    have ih := trees_get q (p ++ [x]) ho' (fun j hj => by
      rw [trees_snoc]
      rw [List.length_append, List.length_singleton] at hj
      by_cases hj' : j < p.length
      · rw [getD_more _ (by rw [trees_len]; exact hj'), h j hj', List.getElem_append_left hj', trS_more (hp j hj') (by rw [trees_len]; omega)]
      · obtain rfl : j = p.length := by omega
        have := getD_end (trees p) (trS (trees p) x) (.g 0)
        rw [trees_len] at this
        rw [this, List.getElem_append_right (Nat.le_refl _)]
        simp only [Nat.sub_self, List.getElem_singleton]
        rw [trS_more hx (by rw [trees_len]; omega)]) k (by rw [← e]; exact hk)
    simp only [← e] at ih
    exact ih
theorem trees_at {G : Int} {p : List Stp} (h : okSteps G 0 p = true) (k : Nat) (hk : k < p.length) : (trees p).getD k (.g 0) = trS (trees p) p[k] := by
  have := trees_get (G := G) p [] (by simpa using h) (fun k hk => by simp at hk) k (by simpa using hk)
  simpa using this

/-! ### reading a tree -/
def addP (p : List Stp) (x : Stp) : List Stp × Nat := if x ∈ p then (p, p.idxOf x) else (p ++ [x], p.length)
structure AddP (G : Int) (p : List Stp) (x : Stp) (p' : List Stp) (k : Nat) : Prop where
  nd : p'.Nodup
  ok : okSteps G 0 p' = true
  more : ∃ us, trees p' = trees p ++ us
  le : p.length ≤ p'.length
  lt : k < p'.length
  len : p'.length ≤ p.length + 1
  new : x ∉ p → k + 1 = p'.length
  tr : (trees p').getD k (.g 0) = trS (trees p) x
  all : ∀ t ∈ trees p', t ∈ trees p ∨ t = trS (trees p) x
  old : x ∈ p → p' = p
  pre : p <+: p'
theorem addP_spec {G : Int} {p : List Stp} {x : Stp} (nd : p.Nodup) (ok : okSteps G 0 p = true) (hx : rightB G p.length x = true) : AddP G p x (addP p x).1 (addP p x).2 := by
  unfold addP
  by_cases hm : x ∈ p
  · rw [if_pos hm]
    have hi := List.idxOf_lt_length_of_mem hm
    exact ⟨nd, ok, ⟨[], by simp⟩, Nat.le_refl _, hi, Nat.le_succ _, fun h => (h hm).elim, by rw [trees_at ok _ hi]; simp, fun t ht => .inl ht, fun _ => rfl, List.prefix_refl _⟩
  · rw [if_neg hm]
    refine ⟨?_, ?_, ⟨_, trees_snoc _ _⟩, by simp, by simp, by simp, fun _ => by simp, ?_, fun t ht => ?_, fun h => (hm h).elim, List.prefix_append _ _⟩
    · rw [List.nodup_append]
      exact ⟨nd, by simp, fun a ha b hb e => by rw [List.mem_singleton] at hb; subst hb; subst e; exact hm ha⟩
    · rw [okS_snoc, ok, Nat.zero_add, hx]; rfl
    · rw [trees_snoc]
      have := getD_end (trees p) (trS (trees p) x) (.g 0)
      rw [trees_len] at this; exact this
    · rw [trees_snoc, List.mem_append, List.mem_singleton] at ht; exact ht
def closeP : List (Option Nat) → List Stp → Nat → List (Option Nat) × List Stp × Option Nat
  | [], p, k => ([], p, some k)
  | none :: st, p, k => (some k :: st, p, none)
  | some m :: st, p, k => closeP st (addP p (2, m, k)).1 (addP p (2, m, k)).2
def isDig (b : UInt8) : Bool := decide (48 ≤ b.toNat) && decide (b.toNat ≤ 57)
def numOf (a b : UInt8) : Nat := 10 * (a.toNat - 48) + (b.toNat - 48)
def untR (G : Int) : List UInt8 → List (Option Nat) → List Stp → Option Nat → List Stp × Int
  | [], _, _, none => ([], 2)
  | [], _, p, some _ => if p.length ≤ 60 then (p, 0) else ([], 4)
  | _ :: _, _, _, some _ => ([], 2)
  | c :: r, st, p, none =>
    if c = 68 then untR G r (none :: st) p none
    else if c = 103 then
      match r with
      | a :: b :: r' => if isDig a = true ∧ isDig b = true ∧ (numOf a b : Int) < G then untR G r' (closeP st (addP p (1, numOf a b, 0)).1 (addP p (1, numOf a b, 0)).2).1 (closeP st (addP p (1, numOf a b, 0)).1 (addP p (1, numOf a b, 0)).2).2.1 (closeP st (addP p (1, numOf a b, 0)).1 (addP p (1, numOf a b, 0)).2).2.2 else ([], 2)
      | _ => ([], 2)
    else ([], 2)
theorem untR_D (G : Int) (r : List UInt8) (st : List (Option Nat)) (p : List Stp) : untR G (68 :: r) st p none = untR G r (none :: st) p none := by
  rw [untR.eq_def]; simp
theorem untR_g (G : Int) (a b : UInt8) (r : List UInt8) (st : List (Option Nat)) (p : List Stp) : untR G (103 :: a :: b :: r) st p none = if isDig a = true ∧ isDig b = true ∧ (numOf a b : Int) < G then untR G r (closeP st (addP p (1, numOf a b, 0)).1 (addP p (1, numOf a b, 0)).2).1 (closeP st (addP p (1, numOf a b, 0)).1 (addP p (1, numOf a b, 0)).2).2.1 (closeP st (addP p (1, numOf a b, 0)).1 (addP p (1, numOf a b, 0)).2).2.2 else ([], 2) := by
  rw [untR.eq_def]; simp
theorem untR_g0 (G : Int) (st : List (Option Nat)) (p : List Stp) : untR G [103] st p none = ([], 2) := by rw [untR.eq_def]; simp
theorem untR_g1 (G : Int) (a : UInt8) (st : List (Option Nat)) (p : List Stp) : untR G [103, a] st p none = ([], 2) := by rw [untR.eq_def]; simp
theorem untR_no (G : Int) (c : UInt8) (r : List UInt8) (st : List (Option Nat)) (p : List Stp) (h1 : c ≠ 68) (h2 : c ≠ 103) : untR G (c :: r) st p none = ([], 2) := by rw [untR.eq_def]; simp [h1, h2]
theorem untR_over (G : Int) (c : UInt8) (r : List UInt8) (st : List (Option Nat)) (p : List Stp) (k : Nat) : untR G (c :: r) st p (some k) = ([], 2) := by rw [untR.eq_def]
theorem untR_end (G : Int) (st : List (Option Nat)) (p : List Stp) (k : Nat) : untR G [] st p (some k) = if p.length ≤ 60 then (p, 0) else ([], 4) := by rw [untR.eq_def]
theorem untR_short (G : Int) (st : List (Option Nat)) (p : List Stp) : untR G [] st p none = ([], 2) := by rw [untR.eq_def]
def untE (G : Int) (t : ByteArray) : List Stp × Int :=
  if 0 ≤ G ∧ G ≤ 60 then (if t.size ≤ 65536 then untR G t.data.toList [] [] none else ([], 3)) else ([], 1)
theorem digs_num {a b : UInt8} (ha : isDig a = true) (hb : isDig b = true) : digs (numOf a b) = [a, b] := by
  simp only [isDig, Bool.and_eq_true, decide_eq_true_eq] at ha hb
  unfold digs numOf
  have e1 : 48 + (10 * (a.toNat - 48) + (b.toNat - 48)) / 10 = a.toNat := by omega
  have e2 : 48 + (10 * (a.toNat - 48) + (b.toNat - 48)) % 10 = b.toNat := by omega
  rw [e1, e2]; simp
theorem num_digs {n : Nat} (h : n < 100) : isDig (UInt8.ofNat (48 + n / 10)) = true ∧ isDig (UInt8.ofNat (48 + n % 10)) = true ∧ numOf (UInt8.ofNat (48 + n / 10)) (UInt8.ofNat (48 + n % 10)) = n := by
  have e1 : (UInt8.ofNat (48 + n / 10)).toNat = 48 + n / 10 := UInt8.toNat_ofNat_of_lt' (by show _ < 256; omega)
  have e2 : (UInt8.ofNat (48 + n % 10)).toNat = 48 + n % 10 := UInt8.toNat_ofNat_of_lt' (by show _ < 256; omega)
  unfold isDig numOf
  rw [e1, e2]
  simp only [Bool.and_eq_true, decide_eq_true_eq]
  omega

def rend (ts : List Tr) : List (Option Nat) → List UInt8
  | [] => []
  | none :: st => rend ts st ++ [68]
  | some m :: st => rend ts st ++ 68 :: (ts.getD m (.g 0)).text
theorem rend_more {ts us : List Tr} : ∀ {st : List (Option Nat)}, (∀ m, some m ∈ st → m < ts.length) → rend (ts ++ us) st = rend ts st
  | [], _ => rfl
  | none :: st, h => by rw [rend, rend, rend_more (fun m hm => h m (by simp [hm]))]
  | some m :: st, h => by rw [rend, rend, rend_more (fun m hm => h m (by simp [hm])), getD_more _ (h m (by simp))]
/-- between two parts of a text -/
structure Jo (G : Int) (st : List (Option Nat)) (p : List Stp) (w : Option Nat) (c : List UInt8) : Prop where
  nd : p.Nodup
  ok : okSteps G 0 p = true
  stl : ∀ m, some m ∈ st → m < p.length
  open_ : w = none → c = rend (trees p) st
  whole : ∀ k, w = some k → st = [] ∧ k + 1 = p.length ∧ c = ((trees p).getD k (.g 0)).text
  le : ∀ t ∈ trees p, t.text.length ≤ c.length
  cnt : p.length + st.length ≤ c.length
/-- behind the end of the part k -/
structure Jc (G : Int) (st : List (Option Nat)) (p : List Stp) (k b : Nat) (c : List UInt8) : Prop where
  nd : p.Nodup
  ok : okSteps G 0 p = true
  stl : ∀ m, some m ∈ st → m < p.length
  kl : k < p.length
  txt : c = rend (trees p) st ++ ((trees p).getD k (.g 0)).text
  le : ∀ t ∈ trees p, t.text.length ≤ b ∨ t.text.length ≤ ((trees p).getD k (.g 0)).text.length
  bl : b < c.length
  last : st = [] → k + 1 = p.length
  cnt : p.length + st.length ≤ c.length
theorem Jo.start (G : Int) : Jo G [] [] none [] := ⟨.nil, rfl, (fun m h => by cases h), fun _ => rfl, (fun k h => by cases h), (fun t h => by cases h), Nat.le_refl _⟩
theorem Jo.d {G : Int} {st : List (Option Nat)} {p : List Stp} {c : List UInt8} (h : Jo G st p none c) : Jo G (none :: st) p none (c ++ [68]) :=
  ⟨h.nd, h.ok, fun m hm => h.stl m (by simpa using hm), fun _ => by rw [rend, ← h.open_ rfl], (fun k e => by cases e), fun t ht => by have := h.le t ht; simp; omega, by have := h.cnt; simp; omega⟩
theorem right_cite {G : Int} {n i : Nat} (h : (n : Int) < G) : rightB G i (1, (n : Int), 0) = true := by
  simp only [rightB, Bool.or_eq_true, Bool.and_eq_true, decide_eq_true_eq]; left; exact ⟨⟨trivial, by omega, by omega⟩, trivial⟩
theorem right_det {G : Int} {m k n : Nat} (hm : m < n) (hk : k < n) : rightB G n (2, (m : Int), (k : Int)) = true := by
  simp only [rightB, Bool.or_eq_true, Bool.and_eq_true, decide_eq_true_eq]; right; exact ⟨⟨trivial, by omega, by omega⟩, by omega, by omega⟩
theorem trS_cite (ts : List Tr) (n : Nat) : trS ts (1, (n : Int), 0) = .g n := by unfold trS; rw [if_neg (by simp)]; rfl
theorem trS_det (ts : List Tr) (m k : Nat) : trS ts (2, (m : Int), (k : Int)) = .d (ts.getD m (.g 0)) (ts.getD k (.g 0)) := by unfold trS; rw [if_pos rfl]; rfl
theorem mem_trees {G : Int} {p : List Stp} {x : Stp} (ok : okSteps G 0 p = true) (h : x ∈ p) : trS (trees p) x ∈ trees p := by
  obtain ⟨i, hi, rfl⟩ := List.getElem_of_mem h
  rw [← trees_at ok i hi, List.getD_eq_getElem?_getD, List.getElem?_eq_getElem (by rw [trees_len]; exact hi)]
  exact List.getElem_mem _
theorem Jo.g {G : Int} {st : List (Option Nat)} {p : List Stp} {c : List UInt8} {a b : UInt8} (h : Jo G st p none c) (ha : isDig a = true) (hb : isDig b = true) (hG : (numOf a b : Int) < G) :
    Jc G st (addP p (1, (numOf a b : Int), 0)).1 (addP p (1, (numOf a b : Int), 0)).2 c.length (c ++ [103, a, b]) := by
  have hS := addP_spec h.nd h.ok (right_cite (i := p.length) hG)
  obtain ⟨us, hus⟩ := hS.more
  have htr := hS.tr
  rw [trS_cite] at htr
  have htx : (Tr.g (numOf a b)).text = [103, a, b] := by rw [Tr.text, digs_num ha hb]
  refine ⟨hS.nd, hS.ok, fun m hm => Nat.lt_of_lt_of_le (h.stl m hm) hS.le, hS.lt, ?_, fun t ht => ?_, by simp, fun hst => hS.new fun hm => ?_, ?_⟩
  · rw [htr, htx, hus, rend_more (by rw [trees_len]; exact h.stl), ← h.open_ rfl]
  · rcases hS.all t ht with h1 | h1
    · exact .inl (h.le t h1)
    · rw [htr, h1, trS_cite]; exact .inr (Nat.le_refl _)
  · have h1 := h.le _ (mem_trees h.ok hm)
    have h2 := Tr.text_len (trS (trees p) (1, (numOf a b : Int), 0))
    rw [h.open_ rfl, hst] at h1
    simp only [rend, List.length_nil] at h1
    omega
  · have := h.cnt
    have := hS.len
    simp; omega
theorem Jc.close {G : Int} {st : List (Option Nat)} {p : List Stp} {m k b : Nat} {c : List UInt8} (h : Jc G (some m :: st) p k b c) : Jc G st (addP p (2, (m : Int), (k : Int))).1 (addP p (2, (m : Int), (k : Int))).2 b c := by
  have hm := h.stl m (by simp)
  have hS := addP_spec h.nd h.ok (right_det (G := G) hm h.kl)
  obtain ⟨us, hus⟩ := hS.more
  have htr := hS.tr
  rw [trS_det] at htr
  have hc := h.txt
  rw [rend] at hc
  have hst : ∀ j, some j ∈ st → j < p.length := fun j hj => h.stl j (by simp [hj])
  have hcl := congrArg List.length hc
  simp only [List.length_append, List.length_cons] at hcl
  refine ⟨hS.nd, hS.ok, fun j hj => Nat.lt_of_lt_of_le (hst j hj) hS.le, hS.lt, ?_, fun t ht => ?_, h.bl, fun e => hS.new fun hx => ?_, ?_⟩
  · rw [htr, hus, rend_more (by rw [trees_len]; exact hst), hc, Tr.text]; simp
  · rw [htr]
    rcases hS.all t ht with h1 | h1
    · rcases h.le t h1 with h2 | h2
      · exact .inl h2
      · right; simp only [Tr.text, List.length_cons, List.length_append]; omega
    · rw [h1, trS_det]; exact .inr (Nat.le_refl _)
  · have h1 := h.le _ (mem_trees h.ok hx)
    rw [trS_det] at h1
    have hb := h.bl
    subst e
    simp only [rend, List.length_nil] at hcl
    simp only [Tr.text, List.length_cons, List.length_append] at h1
    omega
  · have := h.cnt
    have := hS.len
    simp at *; omega
theorem Jc.wait {G : Int} {st : List (Option Nat)} {p : List Stp} {k b : Nat} {c : List UInt8} (h : Jc G (none :: st) p k b c) : Jo G (some k :: st) p none c := by
  have hc := h.txt
  rw [rend] at hc
  have hcl := congrArg List.length hc
  simp only [List.length_append] at hcl
  refine ⟨h.nd, h.ok, fun m hm => ?_, fun _ => by rw [rend, hc]; simp, (fun k e => by cases e), fun t ht => ?_, by simpa using h.cnt⟩
  · rcases List.mem_cons.1 hm with e | e
    · cases e; exact h.kl
    · exact h.stl m (by simp [e])
  · have hb := h.bl
    rcases h.le t ht with h1 | h1 <;> omega
theorem Jc.done {G : Int} {p : List Stp} {k b : Nat} {c : List UInt8} (h : Jc G [] p k b c) : Jo G [] p (some k) c := by
  have hc := h.txt
  rw [rend, List.nil_append] at hc
  refine ⟨h.nd, h.ok, h.stl, (fun e => by cases e), fun j e => by cases e; exact ⟨rfl, h.last rfl, hc⟩, fun t ht => ?_, h.cnt⟩
  have hb := h.bl
  rw [hc] at hb ⊢
  rcases h.le t ht with h1 | h1 <;> omega
theorem closeP_ok {G : Int} {b : Nat} {c : List UInt8} : ∀ (st : List (Option Nat)) (p : List Stp) (k : Nat), Jc G st p k b c → Jo G (closeP st p k).1 (closeP st p k).2.1 (closeP st p k).2.2 c
  | [], _, _, h => h.done
  | none :: _, _, _, h => h.wait
  | some _ :: st, _, _, h => closeP_ok st _ _ h.close
theorem untR_ok {G : Int} {q : List Stp} : ∀ (n : Nat) (r : List UInt8) (st : List (Option Nat)) (p : List Stp) (w : Option Nat) (c : List UInt8), r.length ≤ n → Jo G st p w c → untR G r st p w = (q, 0) → ∃ k, Jo G [] q (some k) (c ++ r) ∧ q.length ≤ 60
  | _, [], st, p, none, c, _, h, e => by rw [untR_short] at e; cases e
  | _, [], st, p, some k, c, _, h, e => by
    rw [untR_end] at e
    split at e
    · cases e
      obtain ⟨rfl, -⟩ := h.whole k rfl
      exact ⟨k, by simpa using h, ‹_›⟩
    · cases e
  | _, x :: r, st, p, some k, c, _, h, e => by rw [untR_over] at e; cases e
  | 0, x :: r, st, p, none, c, hn, h, e => by simp at hn
  | n + 1, x :: r, st, p, none, c, hn, h, e => by
    by_cases hx : x = 68
    · subst hx
      rw [untR_D] at e
      obtain ⟨k, h1, h2⟩ := untR_ok n r _ _ _ _ (by simpa using hn) h.d e
      exact ⟨k, by simpa using h1, h2⟩
    · by_cases hg : x = 103
      · subst hg
        match r with
        | a :: b :: r' =>
          rw [untR_g] at e
          split at e
          · rename_i hc
            obtain ⟨k, h1, h2⟩ := untR_ok n r' _ _ _ _ (by simp at hn; omega) (closeP_ok _ _ _ (h.g hc.1 hc.2.1 hc.2.2)) e
            exact ⟨k, by simpa using h1, h2⟩
          · cases e
        | [] => rw [untR_g0] at e; cases e
        | [a] => rw [untR_g1] at e; cases e
      · rw [untR_no _ _ _ _ _ hx hg] at e; cases e
end Go.Proofs.YtljkojpooajlhaaGreatDoor

/- A tree's text read back: what the read proof has and says. No program is named. -/
namespace Go.Proofs.YtljkojpooajlhaaGreatDoor

def insT : List Stp → Tr → List Stp × Nat
  | p, .g n => addP p (1, (n : Int), 0)
  | p, .d a b => addP (insT (insT p a).1 b).1 (2, ((insT p a).2 : Int), ((insT (insT p a).1 b).2 : Int))
theorem untR_cite {G : Int} {n : Nat} (hn : (n : Int) < G) (h100 : n < 100) (r : List UInt8) (st : List (Option Nat)) (p : List Stp) :
    untR G ((Tr.g n).text ++ r) st p none = untR G r (closeP st (addP p (1, (n : Int), 0)).1 (addP p (1, (n : Int), 0)).2).1 (closeP st (addP p (1, (n : Int), 0)).1 (addP p (1, (n : Int), 0)).2).2.1 (closeP st (addP p (1, (n : Int), 0)).1 (addP p (1, (n : Int), 0)).2).2.2 := by
  obtain ⟨h1, h2, h3⟩ := num_digs h100
  rw [Tr.text, digs, List.cons_append, List.cons_append, List.cons_append, List.nil_append, untR_g, if_pos ⟨h1, h2, by rw [h3]; exact hn⟩, h3]
theorem untR_text {G : Int} : ∀ (t : Tr), (∀ n ∈ t.leaves, (n : Int) < G ∧ n < 100) → ∀ (r : List UInt8) (st : List (Option Nat)) (p : List Stp),
    untR G (t.text ++ r) st p none = untR G r (closeP st (insT p t).1 (insT p t).2).1 (closeP st (insT p t).1 (insT p t).2).2.1 (closeP st (insT p t).1 (insT p t).2).2.2
  | .g n, h, r, st, p => untR_cite (h n (by simp [Tr.leaves])).1 (h n (by simp [Tr.leaves])).2 r st p
  | .d a b, h, r, st, p => by
    rw [Tr.text, List.cons_append, untR_D, List.append_assoc, untR_text a (fun n hn => h n (by simp [Tr.leaves, hn])), closeP]
    simp only
    rw [untR_text b (fun n hn => h n (by simp [Tr.leaves, hn])), closeP]
    rfl
structure InsT (G : Int) (p : List Stp) (t : Tr) (p' : List Stp) (k : Nat) : Prop where
  nd : p'.Nodup
  ok : okSteps G 0 p' = true
  pre : p <+: p'
  lt : k < p'.length
  tr : (trees p').getD k (.g 0) = t
  all : ∀ u ∈ trees p', u ∈ trees p ∨ u ∈ t.subs
  new : t ∉ trees p → k + 1 = p'.length
theorem Tr.subs_le {u : Tr} : ∀ {t : Tr}, u ∈ t.subs → u.text.length ≤ t.text.length
  | .g n, h => by rw [Tr.subs, List.mem_singleton] at h; rw [h]; exact Nat.le_refl _
  | .d a b, h => by
    rw [Tr.subs, List.mem_cons, List.mem_append] at h
    rcases h with h | h | h
    · rw [h]; exact Nat.le_refl _
    · have := Tr.subs_le h; simp only [Tr.text, List.length_cons, List.length_append]; omega
    · have := Tr.subs_le h; simp only [Tr.text, List.length_cons, List.length_append]; omega
theorem pre_trees {p p' : List Stp} (h : p <+: p') : ∃ us, trees p' = trees p ++ us := by
  obtain ⟨q, rfl⟩ := h
  exact trees_more q p
theorem insT_spec {G : Int} : ∀ (t : Tr) (p : List Stp), (∀ n ∈ t.leaves, (n : Int) < G) → p.Nodup → okSteps G 0 p = true → InsT G p t (insT p t).1 (insT p t).2
  | .g n, p, h, nd, ok => by
    have hS := addP_spec nd ok (right_cite (i := p.length) (h n (by simp [Tr.leaves])))
    have htr := hS.tr
    rw [trS_cite] at htr
    exact ⟨hS.nd, hS.ok, hS.pre, hS.lt, htr, fun u hu => by
      rcases hS.all u hu with k | k
      · exact .inl k
      · rw [trS_cite] at k; exact .inr (by rw [k]; simp [Tr.subs]), fun hn => hS.new fun hm => hn (by have := mem_trees ok hm; rwa [trS_cite] at this)⟩
  | .d a b, p, h, nd, ok => by
    have ha := insT_spec a p (fun n hn => h n (by simp [Tr.leaves, hn])) nd ok
    have hb := insT_spec b (insT p a).1 (fun n hn => h n (by simp [Tr.leaves, hn])) ha.nd ha.ok
    rw [insT]
    have hka : (insT p a).2 < (insT (insT p a).1 b).1.length := Nat.lt_of_lt_of_le ha.lt hb.pre.length_le
    have hS := addP_spec hb.nd hb.ok (right_det (G := G) hka hb.lt)
    obtain ⟨us, hus⟩ := pre_trees hb.pre
    have hta : (trees (insT (insT p a).1 b).1).getD (insT p a).2 (.g 0) = a := by
      rw [hus, getD_more _ (by rw [trees_len]; exact ha.lt)]; exact ha.tr
    have hx : trS (trees (insT (insT p a).1 b).1) (2, ((insT p a).2 : Int), ((insT (insT p a).1 b).2 : Int)) = .d a b := by rw [trS_det, hta, hb.tr]
    have htr := hS.tr
    rw [hx] at htr
    refine ⟨hS.nd, hS.ok, ha.pre.trans (hb.pre.trans hS.pre), hS.lt, htr, fun u hu => ?_, fun hn => hS.new fun hm => ?_⟩
    rotate_left
    · have hm := mem_trees hb.ok hm
      rw [hx] at hm
      rcases hb.all _ hm with k | k
      · rcases ha.all _ k with k | k
        · exact hn k
        · have := Tr.subs_le k; simp only [Tr.text, List.length_cons, List.length_append] at this; omega
      · have := Tr.subs_le k; simp only [Tr.text, List.length_cons, List.length_append] at this; omega
    rcases hS.all u hu with k | k
    · rcases hb.all u k with k | k
      · rcases ha.all u k with k | k
        · exact .inl k
        · right; simp [Tr.subs, k]
      · right; simp [Tr.subs, k]
    · rw [hx] at k; right; rw [k]; exact Tr.sub_self _

/-- the tree's leaves are givens -/
theorem leaves_ok {G : Int} {p : List Stp} (h : okSteps G 0 p = true) : ∀ (k : Nat) (_ : k < p.length), ∀ n ∈ ((trees p).getD k (.g 0)).leaves, (n : Int) < G := by
  intro k
  induction k using Nat.strongRecOn with
  | _ k ih =>
    intro hk n hn
    rw [trees_at h k hk] at hn
    have hr := okS_get p 0 k hk h
    rw [Nat.zero_add] at hr
    unfold trS at hn
    by_cases h2 : p[k].1 = 2
    · obtain ⟨-, d1, d2, d3, d4⟩ := rightB_detach hr (by omega)
      rw [if_pos h2, Tr.leaves, List.mem_append] at hn
      rcases hn with hn | hn
      · exact ih _ (by omega) (by omega) n hn
      · exact ih _ (by omega) (by omega) n hn
    · have h1 : p[k].1 = 1 := by
        rcases Classical.em (p[k].1 = 1) with e | e
        · exact e
        · exact (h2 (rightB_detach hr e).1).elim
      obtain ⟨c1, c2, -⟩ := rightB_cite hr h1
      rw [if_neg h2, Tr.leaves, List.mem_singleton] at hn
      subst hn; omega
/-- which steps are needed by the step k -/
inductive Nd (p : List Stp) : Nat → Nat → Prop where
  | self (k : Nat) : Nd p k k
  | a {k j : Nat} (hk : k < p.length) (h2 : p[k].1 = 2) (h : Nd p p[k].2.1.toNat j) : Nd p k j
  | b {k j : Nat} (hk : k < p.length) (h2 : p[k].1 = 2) (h : Nd p p[k].2.2.toNat j) : Nd p k j
/-- each part of a step's tree is the tree of a step that it needs -/
theorem subs_nd {G : Int} {p : List Stp} (h : okSteps G 0 p = true) : ∀ (k : Nat) (_ : k < p.length), ∀ u ∈ ((trees p).getD k (.g 0)).subs, ∃ j, ∃ _ : j < p.length, Nd p k j ∧ (trees p).getD j (.g 0) = u := by
  intro k
  induction k using Nat.strongRecOn with
  | _ k ih =>
    intro hk u hu
    have ht := trees_at h k hk
    have hr := okS_get p 0 k hk h
    rw [Nat.zero_add] at hr
    unfold trS at ht
    by_cases h2 : p[k].1 = 2
    · obtain ⟨-, d1, d2, d3, d4⟩ := rightB_detach hr (by omega)
      rw [if_pos h2] at ht
      rw [ht, Tr.subs, List.mem_cons, List.mem_append] at hu
      rcases hu with hu | hu | hu
      · exact ⟨k, hk, .self k, by rw [hu, ht]⟩
      · obtain ⟨j, hj, n1, n2⟩ := ih _ (by omega) (by omega) u hu
        exact ⟨j, hj, .a hk h2 n1, n2⟩
      · obtain ⟨j, hj, n1, n2⟩ := ih _ (by omega) (by omega) u hu
        exact ⟨j, hj, .b hk h2 n1, n2⟩
    · rw [if_neg h2] at ht
      rw [ht, Tr.subs, List.mem_singleton] at hu
      exact ⟨k, hk, .self k, by rw [hu, ht]⟩

/-! ### what trees say -/
noncomputable def sayT (s : Sg) (g : List (List Int)) : Tr → List Int × Int
  | .g n => (canon (g.getD n []), 0)
  | .d a b => detE s (sayT s g a).1 (sayT s g b).1
theorem stepE_tree {s : Sg} {g l : List (List Int)} {ts : List Tr} {x : Stp} {G : Int} (hx : rightB G ts.length x = true) (hl : l = ts.map (fun t => (sayT s g t).1)) : stepE s g l x = sayT s g (trS ts x) := by
  unfold stepE trS
  by_cases h1 : x.1 = 1
  · rw [if_pos h1, if_neg (by omega)]; rfl
  · obtain ⟨h2, d1, d2, d3, d4⟩ := rightB_detach hx h1
    rw [if_neg h1, if_pos h2, sayT, hl]
    have e : ∀ n, n < ts.length → (ts.map (fun t => (sayT s g t).1)).getD n [] = (sayT s g (ts.getD n (.g 0))).1 := fun n hn => by
      rw [List.getD_eq_getElem?_getD, List.getD_eq_getElem?_getD, List.getElem?_map, List.getElem?_eq_getElem hn]; rfl
    rw [e _ (by omega), e _ (by omega)]
theorem trL_pre : ∀ (p : List Stp) (ts : List Tr), ts <+: trL p ts
  | [], _ => List.prefix_refl _
  | _ :: p, _ => (List.prefix_append _ _).trans (trL_pre p _)
theorem runL_of {s : Sg} {g : List (List Int)} {G : Int} : ∀ (p : List Stp) (ts : List Tr), okSteps G ts.length p = true → (∀ t ∈ trL p ts, (sayT s g t).2 = 0) → runL s g p (ts.map (fun t => (sayT s g t).1)) = ((trL p ts).map (fun t => (sayT s g t).1), 0)
  | [], ts, _, _ => rfl
  | x :: p, ts, h, ha => by
    simp only [okSteps, Bool.and_eq_true] at h
    have hx : (sayT s g (trS ts x)).2 = 0 := ha _ ((trL_pre p (ts ++ [trS ts x])).subset (by simp))
    rw [runL, trL, stepE_tree h.1 rfl, if_pos hx]
    have ih := runL_of p (ts ++ [trS ts x]) (by rw [List.length_append, List.length_singleton]; exact h.2) ha
    rw [List.map_append, List.map_singleton] at ih
    exact ih
theorem runL_all {s : Sg} {g : List (List Int)} {G : Int} : ∀ (p : List Stp) (ts : List Tr), okSteps G ts.length p = true → (∀ t ∈ ts, (sayT s g t).2 = 0) → (runL s g p (ts.map (fun t => (sayT s g t).1))).2 = 0 → ∀ t ∈ trL p ts, (sayT s g t).2 = 0
  | [], ts, _, ha, _ => ha
  | x :: p, ts, h, ha, hz => by
    simp only [okSteps, Bool.and_eq_true] at h
    rw [runL, stepE_tree h.1 rfl] at hz
    by_cases hx : (sayT s g (trS ts x)).2 = 0
    · rw [if_pos hx] at hz
      rw [trL]
      refine runL_all p (ts ++ [trS ts x]) (by rw [List.length_append, List.length_singleton]; exact h.2) (fun t ht => ?_) (by rw [List.map_append, List.map_singleton]; exact hz)
      rw [List.mem_append, List.mem_singleton] at ht
      rcases ht with ht | ht
      · exact ha t ht
      · rw [ht]; exact hx
    · rw [if_neg hx] at hz; exact (hx hz).elim
/-- different steps have different trees -/
theorem trees_inj {G : Int} {p : List Stp} (h : okSteps G 0 p = true) (nd : p.Nodup) : ∀ (i j : Nat) (_ : i < p.length) (_ : j < p.length), (trees p).getD i (.g 0) = (trees p).getD j (.g 0) → i = j := by
  intro i
  induction i using Nat.strongRecOn with
  | _ i ih =>
    intro j hi hj e
    rw [trees_at h i hi, trees_at h j hj] at e
    have hri := okS_get p 0 i hi h
    have hrj := okS_get p 0 j hj h
    rw [Nat.zero_add] at hri hrj
    have he : p[i] = p[j] := by
      unfold trS at e
      by_cases h2 : p[i].1 = 2
      · obtain ⟨-, d1, d2, d3, d4⟩ := rightB_detach hri (by omega)
        rw [if_pos h2] at e
        by_cases k2 : p[j].1 = 2
        · obtain ⟨-, e1, e2, e3, e4⟩ := rightB_detach hrj (by omega)
          rw [if_pos k2] at e
          simp only [Tr.d.injEq] at e
          have q1 := ih _ (by omega) _ (by omega) (by omega) e.1
          have q2 := ih _ (by omega) _ (by omega) (by omega) e.2
          exact Prod.ext (by omega) (Prod.ext (by omega) (by omega))
        · rw [if_neg k2] at e; cases e
      · rw [if_neg h2] at e
        by_cases k2 : p[j].1 = 2
        · rw [if_pos k2] at e; cases e
        · rw [if_neg k2] at e
          simp only [Tr.g.injEq] at e
          have h1 : p[i].1 = 1 := Classical.byContradiction fun k => h2 (rightB_detach hri k).1
          have k1 : p[j].1 = 1 := Classical.byContradiction fun k => k2 (rightB_detach hrj k).1
          obtain ⟨c1, -, c2⟩ := rightB_cite hri h1
          obtain ⟨c3, -, c4⟩ := rightB_cite hrj k1
          exact Prod.ext (by omega) (Prod.ext (by omega) (by omega))
    exact (List.getElem_inj nd).1 he
theorem trees_nodup {G : Int} {p : List Stp} (h : okSteps G 0 p = true) (nd : p.Nodup) : (trees p).Nodup := by
  unfold List.Nodup
  rw [List.pairwise_iff_getElem]
  intro i j hi hj hij e
  have hi' := hi
  have hj' := hj
  rw [trees_len] at hi' hj'
  have := trees_inj h nd i j hi' hj' (by rw [List.getD_eq_getElem?_getD, List.getD_eq_getElem?_getD, List.getElem?_eq_getElem hi, List.getElem?_eq_getElem hj, e])
  omega
theorem nodup_le {α : Type} [DecidableEq α] : ∀ {l m : List α}, l.Nodup → (∀ x ∈ l, x ∈ m) → l.length ≤ m.length
  | [], m, _, _ => Nat.zero_le _
  | x :: l, m, hn, hs => by
    rw [List.nodup_cons] at hn
    have hx := hs x (by simp)
    have ih := nodup_le (m := m.erase x) hn.2 (fun y hy => (List.mem_erase_of_ne (fun e => hn.1 (by rw [← e]; exact hy))).2 (hs y (by simp [hy])))
    rw [List.length_erase_of_mem hx] at ih
    have := List.length_pos_of_mem hx
    rw [List.length_cons]; omega
theorem last_tree {p : List Stp} (_ : 1 ≤ p.length) : (trees p).getLastD (.g 0) = (trees p).getD (p.length - 1) (.g 0) := by
  rw [List.getLastD_eq_getLast?, List.getLast?_eq_getElem?, trees_len, List.getD_eq_getElem?_getD]
/-- the text of a proof's tree, read back -/
theorem unt_tree {G : Int} {p : List Stp} (hG : G ≤ 100) (h : okSteps G 0 p = true) (h1 : 1 ≤ p.length) (h60 : p.length ≤ 60) :
    ∃ q, untR G ((trees p).getLastD (.g 0)).text [] [] none = (q, 0) ∧ q.Nodup ∧ okSteps G 0 q = true ∧ 1 ≤ q.length ∧ q.length ≤ 60 ∧ (trees q).getLastD (.g 0) = (trees p).getLastD (.g 0) ∧ ∀ u ∈ trees q, u ∈ ((trees p).getLastD (.g 0)).subs := by
  have hl := leaves_ok h (p.length - 1) (by omega)
  have hs := subs_nd h (p.length - 1) (by omega)
  rw [← last_tree h1] at hl hs
  generalize (trees p).getLastD (.g 0) = t at hl hs
  have hI := insT_spec (G := G) t [] hl .nil rfl
  have ht := untR_text (G := G) t (fun n hn => ⟨hl n hn, by have := hl n hn; omega⟩) [] [] []
  rw [List.append_nil, closeP, untR_end] at ht
  have hall : ∀ u ∈ trees (insT [] t).1, u ∈ t.subs := fun u hu => by
    rcases hI.all u hu with k | k
    · cases k
    · exact k
  have hlen : (insT [] t).1.length ≤ 60 := by
    open Classical in
    have := nodup_le (m := trees p) (trees_nodup hI.ok hI.nd) (fun u hu => by
      obtain ⟨j, hj, -, e⟩ := hs u (hall u hu)
      rw [← e, List.getD_eq_getElem?_getD, List.getElem?_eq_getElem (by rw [trees_len]; exact hj)]
      exact List.getElem_mem _)
    rw [trees_len, trees_len] at this; omega
  rw [if_pos hlen] at ht
  have hk := hI.new (by intro h; cases h)
  have h1' : 1 ≤ (insT [] t).1.length := by omega
  refine ⟨_, ht, hI.nd, hI.ok, h1', hlen, ?_, hall⟩
  rw [last_tree h1', ← hk, Nat.add_sub_cancel]; exact hI.tr
/-- a tree read back says what the proof says -/
theorem says_tree {s : Sg} {g : List (List Int)} {p q : List Stp} (hp : (saysE s g p).2 = 0) (hq : okSteps g.length 0 q = true) (h1 : 1 ≤ q.length) (h60 : q.length ≤ 60)
    (hl : (trees q).getLastD (.g 0) = (trees p).getLastD (.g 0)) (ha : ∀ u ∈ trees q, u ∈ ((trees p).getLastD (.g 0)).subs) : saysE s g q = saysE s g p := by
  unfold saysE at hp ⊢
  by_cases hx : askedB s g p = true
  · rw [if_pos hx] at hp ⊢
    by_cases hz : (runL s g p []).2 = 0
    · rw [if_pos hz]
      simp only [askedB, Bool.and_eq_true] at hx
      obtain ⟨ok, p1, p2⟩ := validP_parts hx.2
      have hq' : askedB s g q = true := by
        simp only [askedB, Bool.and_eq_true]
        refine ⟨hx.1, ?_⟩
        unfold validP
        rw [hq, decide_eq_true h1, decide_eq_true h60]; rfl
      have hall := runL_all (s := s) (g := g) p [] ok (fun t h => by cases h) hz
      have hp2 := runL_of (s := s) (g := g) p [] ok hall
      have hsub := subs_nd ok (p.length - 1) (by omega)
      rw [← last_tree p1] at hsub
      have hq2 := runL_of (s := s) (g := g) q [] hq (fun t ht => by
        obtain ⟨j, hj, -, e⟩ := hsub t (ha t ht)
        refine hall t ?_
        rw [← e, List.getD_eq_getElem?_getD]
        change (trees p)[j]?.getD (.g 0) ∈ trees p
        rw [List.getElem?_eq_getElem (by rw [trees_len]; exact hj)]
        exact List.getElem_mem _)
      rw [List.map_nil] at hp2 hq2
      rw [if_pos hq', hq2, hp2]
      simp only [if_true]
      have e : ∀ r : List Stp, 1 ≤ r.length → ((trL r []).map (fun t => (sayT s g t).1)).getLastD [] = (sayT s g ((trees r).getLastD (.g 0))).1 := fun r hr => by
        have hr' : 1 ≤ (trees r).length := by rw [trees_len]; exact hr
        change ((trees r).map (fun t => (sayT s g t).1)).getLastD [] = _
        rw [List.getLastD_eq_getLast?, List.getLastD_eq_getLast?, List.getLast?_map, List.getLast?_eq_getElem?, List.getElem?_eq_getElem (by omega)]
        rfl
      rw [e q h1, e p p1, hl]
    · rw [if_neg hz] at hp; exact (hz hp).elim
  · rw [if_neg hx] at hp; cases hp
/-- what Tree answers -/
def treeE (G : Int) (p : List Stp) : List UInt8 × Int :=
  if proofB G p = true then (if ((trees p).getLastD (.g 0)).text.length ≤ 65536 then (((trees p).getLastD (.g 0)).text, 0) else ([], 3)) else ([], 1)
/-- a text that is read is the tree of what is read -/
theorem tree_unt {G : Int} {t : ByteArray} {q : List Stp} (h : untE G t = (q, 0)) : treeE G q = (t.data.toList, 0) := by
  unfold untE at h
  by_cases hG : 0 ≤ G ∧ G ≤ 60
  · rw [if_pos hG] at h
    by_cases hs : t.size ≤ 65536
    · rw [if_pos hs] at h
      obtain ⟨k, hJ, h60⟩ := untR_ok _ _ _ _ _ _ (Nat.le_refl _) (.start G) h
      obtain ⟨-, k1, k2⟩ := hJ.whole k rfl
      have hp : proofB G q = true := by
        unfold proofB validP
        rw [decide_eq_true hG.1, decide_eq_true hG.2, hJ.ok, decide_eq_true h60, decide_eq_true (show 1 ≤ q.length by omega)]; rfl
      rw [List.nil_append] at k2
      have hl : (trees q).getLastD (.g 0) = (trees q).getD k (.g 0) := by rw [last_tree (by omega), show q.length - 1 = k by omega]
      unfold treeE
      rw [if_pos hp, hl, ← k2, if_pos (by rw [Array.length_toList]; exact hs)]
    · rw [if_neg hs] at h; cases h
  · rw [if_neg hG] at h; cases h
end Go.Proofs.YtljkojpooajlhaaGreatDoor

/- Needed steps, counts and heights of proofs by their trees, in plain words. No program is named. -/
namespace Go.Proofs.YtljkojpooajlhaaGreatDoor

def cntT : Tr → Nat
  | .g _ => 1
  | .d a b => cntT a + cntT b + 1
def hgtT : Tr → Nat
  | .g _ => 1
  | .d a b => max (hgtT a) (hgtT b) + 1
theorem cnt_text (t : Tr) : cntT t ≤ t.text.length := by
  induction t with
  | g n => simp [cntT, Tr.text]
  | d a b iha ihb => simp [cntT, Tr.text]; omega
/-- one step of needed: what step x, needed, makes needed -/
def ndSt (f : List Bool) (x : Stp) (is : Bool) : List Bool := if is = true ∧ x.1 = 2 then (f.set x.2.1.toNat true).set x.2.2.toNat true else f
def ndGo (p : List Stp) : Nat → List Bool → List Bool
  | 0, f => f
  | k + 1, f => ndGo p k (ndSt f (p.getD k (0, 0, 0)) (f.getD k false))
def ndL (p : List Stp) : List Bool := ndGo p p.length ((List.replicate p.length false).set (p.length - 1) true)
theorem ndSt_len (f : List Bool) (x : Stp) (is : Bool) : (ndSt f x is).length = f.length := by unfold ndSt; split <;> simp
theorem ndGo_len (p : List Stp) : ∀ (k : Nat) (f : List Bool), (ndGo p k f).length = f.length
  | 0, _ => rfl
  | k + 1, f => by rw [ndGo, ndGo_len p k, ndSt_len]
theorem ndL_len (p : List Stp) : (ndL p).length = p.length := by unfold ndL; rw [ndGo_len]; simp
theorem set_getD (f : List Bool) (a j : Nat) : (f.set a true).getD j false = (if a = j ∧ j < f.length then true else f.getD j false) := by
  rw [List.getD_eq_getElem?_getD, List.getD_eq_getElem?_getD, List.getElem?_set]
  by_cases h : a = j
  · subst h
    by_cases hl : a < f.length
    · simp [hl]
    · simp [hl]
  · simp [h]
theorem ndSt_mono {f : List Bool} {x : Stp} {is : Bool} {j : Nat} (h : f.getD j false = true) : (ndSt f x is).getD j false = true := by
  unfold ndSt
  split
  · rw [set_getD, set_getD]
    split
    · rfl
    · split
      · rfl
      · exact h
  · exact h
theorem ndGo_mono (p : List Stp) {j : Nat} : ∀ (k : Nat) (f : List Bool), f.getD j false = true → (ndGo p k f).getD j false = true
  | 0, _, h => h
  | k + 1, _, h => ndGo_mono p k _ (ndSt_mono h)
theorem ndSt_same {f : List Bool} {x : Stp} {is : Bool} {j : Nat} (h : x.1 = 2 → x.2.1.toNat < j ∧ x.2.2.toNat < j) : (ndSt f x is).getD j false = f.getD j false := by
  unfold ndSt
  split
  · rename_i hc
    obtain ⟨h1, h2⟩ := h hc.2
    rw [set_getD, set_getD, if_neg (by omega), if_neg (by omega)]
  · rfl
theorem getD_stp {p : List Stp} {k : Nat} (hk : k < p.length) : p.getD k (0, 0, 0) = p[k] := by rw [List.getD_eq_getElem?_getD, List.getElem?_eq_getElem hk]; rfl
theorem ok_less {G : Int} {p : List Stp} (ok : okSteps G 0 p = true) {k : Nat} (hk : k < p.length) (h2 : p[k].1 = 2) : p[k].2.1.toNat < k ∧ p[k].2.2.toNat < k := by
  have := okS_get p 0 k hk ok
  rw [Nat.zero_add] at this
  obtain ⟨-, d1, d2, d3, d4⟩ := rightB_detach this (by omega)
  omega
theorem ndGo_same {G : Int} {p : List Stp} (ok : okSteps G 0 p = true) {j : Nat} : ∀ (k : Nat) (f : List Bool), k ≤ p.length → k ≤ j → (ndGo p k f).getD j false = f.getD j false
  | 0, _, _, _ => rfl
  | k + 1, f, h, hj => by
    rw [ndGo, ndGo_same ok k _ (by omega) (by omega)]
    refine ndSt_same fun h2 => ?_
    rw [getD_stp (by omega)] at h2 ⊢
    have := ok_less ok (by omega) h2
    omega
theorem ndGo_step {G : Int} {p : List Stp} (ok : okSteps G 0 p = true) {i : Nat} (hi : i < p.length) (h2 : p[i].1 = 2) : ∀ (k : Nat) (f : List Bool), f.length = p.length → k ≤ p.length → i < k → (ndGo p k f).getD i false = true →
    (ndGo p k f).getD p[i].2.1.toNat false = true ∧ (ndGo p k f).getD p[i].2.2.toNat false = true
  | 0, _, _, _, h, _ => by omega
  | k + 1, f, hl, hk, hik, ht => by
    rw [ndGo] at ht ⊢
    by_cases hlt : i < k
    · exact ndGo_step ok hi h2 k _ (by rw [ndSt_len]; exact hl) (by omega) hlt ht
    · obtain rfl : i = k := by omega
      have hless := ok_less ok hi h2
      rw [ndGo_same ok i _ (by omega) (Nat.le_refl _), getD_stp hi] at ht
      rw [ndSt_same (fun _ => hless)] at ht
      rw [getD_stp hi, ht]
      have hs : ndSt f p[i] true = (f.set p[i].2.1.toNat true).set p[i].2.2.toNat true := by unfold ndSt; rw [if_pos ⟨rfl, h2⟩]
      rw [hs]
      refine ⟨ndGo_mono p i _ ?_, ndGo_mono p i _ ?_⟩
      · rw [set_getD, set_getD]
        split
        · rfl
        · rw [if_pos ⟨rfl, by omega⟩]
      · rw [set_getD, if_pos ⟨rfl, by rw [List.length_set]; omega⟩]
theorem ndL_step {G : Int} {p : List Stp} (ok : okSteps G 0 p = true) {i : Nat} (hi : i < p.length) (h2 : p[i].1 = 2) (ht : (ndL p).getD i false = true) : (ndL p).getD p[i].2.1.toNat false = true ∧ (ndL p).getD p[i].2.2.toNat false = true :=
  ndGo_step ok hi h2 p.length _ (by simp) (Nat.le_refl _) hi ht
theorem ndL_last {p : List Stp} (h1 : 1 ≤ p.length) : (ndL p).getD (p.length - 1) false = true := by
  refine ndGo_mono p _ _ ?_
  rw [set_getD, if_pos ⟨rfl, by simp; omega⟩]
theorem ndL_nd {G : Int} {p : List Stp} (ok : okSteps G 0 p = true) {k j : Nat} (h : Nd p k j) : (ndL p).getD k false = true → (ndL p).getD j false = true := by
  induction h with
  | self => exact id
  | a hk h2 _ ih => exact fun ht => ih (ndL_step ok hk h2 ht).1
  | b hk h2 _ ih => exact fun ht => ih (ndL_step ok hk h2 ht).2
/-- the needed steps -/
def ndIdx (p : List Stp) : List Nat := (List.range p.length).filter fun i => (ndL p).getD i false
theorem tree_needed {G : Int} {p q : List Stp} (ok : okSteps G 0 p = true) (h1 : 1 ≤ p.length) (hq : okSteps G 0 q = true) (nd : q.Nodup) (hs : ∀ u ∈ trees q, u ∈ ((trees p).getLastD (.g 0)).subs) : q.length ≤ (ndIdx p).length := by
  classical
  have h := nodup_le (m := (ndIdx p).map fun i => (trees p).getD i (.g 0)) (trees_nodup hq nd) (fun u hu => by
    have h2 := hs u hu
    rw [last_tree h1] at h2
    obtain ⟨j, hj, hn, ht⟩ := subs_nd ok (p.length - 1) (by omega) u h2
    rw [List.mem_map]
    refine ⟨j, ?_, ht⟩
    unfold ndIdx
    rw [List.mem_filter, List.mem_range]
    exact ⟨hj, ndL_nd ok hn (ndL_last h1)⟩)
  rw [trees_len, List.length_map] at h
  exact h
end Go.Proofs.YtljkojpooajlhaaGreatDoor

/- Givens that needed steps cite, in plain words: a sorted list, each once, is what a range is left with. No program is named. -/
namespace Go.Proofs.YtljkojpooajlhaaGreatDoor

theorem cmp_inv {zs : List Int} (hs : zs.Pairwise (· ≤ ·)) : ∀ m, m ≤ zs.length → (Go.Lib.compactUpTo zs.toArray m).Pairwise (· < ·) ∧ ∀ x, x ∈ Go.Lib.compactUpTo zs.toArray m ↔ x ∈ zs.take m
  | 0, _ => ⟨by simp [Go.Lib.compactUpTo], fun x => by simp [Go.Lib.compactUpTo]⟩
  | m + 1, hm => by
    obtain ⟨ih1, ih2⟩ := cmp_inv hs m (by omega)
    have hlt : m < zs.length := by omega
    have hg : ∀ j, j < zs.length → zs.toArray[j]! = zs[j]! := fun j hj => by simp
    have hge : zs.toArray[m]! = zs[m] := by simp [getElem!_pos, hlt]
    have htk : zs.take (m + 1) = zs.take m ++ [zs[m]] := List.take_succ_eq_append_getElem hlt
    rw [Go.Lib.compactUpTo_succ, htk]
    by_cases hk : Go.Lib.keeps zs.toArray m = true
    · rw [if_pos hk, hge]
      refine ⟨?_, fun x => by rw [List.mem_append, List.mem_append, ih2 x]⟩
      rw [List.pairwise_append]
      refine ⟨ih1, by simp, fun x hx y hy => ?_⟩
      rw [List.mem_singleton] at hy
      subst hy
      rw [ih2] at hx
      obtain ⟨j, hj, rfl⟩ := List.getElem_of_mem hx
      rw [List.length_take] at hj
      rw [List.getElem_take]
      have hjm : j < m := by omega
      rw [List.pairwise_iff_getElem] at hs
      have h1 : zs[j] ≤ zs[m - 1] := by
        by_cases e : j = m - 1
        · subst e; exact Int.le_refl _
        · exact hs j (m - 1) (by omega) (by omega) (by omega)
      have h2 : zs[m - 1] ≤ zs[m] := hs (m - 1) m (by omega) hlt (by omega)
      have h3 : zs[m] ≠ zs[m - 1] := by
        simp only [Go.Lib.keeps, decide_eq_true_eq] at hk
        rcases hk with hk | hk
        · omega
        · rw [hge] at hk
          have : zs.toArray[m - 1]! = zs[m - 1] := by rw [getElem!_pos _ _ (by simp; omega)]; simp
          rw [this] at hk; exact hk
      omega
    · rw [if_neg hk, List.append_nil]
      refine ⟨ih1, fun x => ?_⟩
      rw [ih2 x, List.mem_append, List.mem_singleton]
      refine ⟨.inl, fun h => h.elim id fun e => ?_⟩
      simp only [Go.Lib.keeps, decide_eq_true_eq, not_or] at hk
      have h0 : 0 < m := by omega
      have : zs.toArray[m - 1]! = zs[m - 1] := by rw [getElem!_pos _ _ (by simp; omega)]; simp
      have h3 : zs[m] = zs[m - 1] := by
        have := hk.2
        rw [hge] at this
        rw [‹zs.toArray[m - 1]! = zs[m - 1]›] at this
        exact Classical.byContradiction this
      rw [e, h3, List.mem_iff_getElem]
      exact ⟨m - 1, by rw [List.length_take]; omega, by rw [List.getElem_take]⟩
theorem lt_ext {a b : List Int} (ha : a.Pairwise (· < ·)) (hb : b.Pairwise (· < ·)) (h : ∀ x, x ∈ a ↔ x ∈ b) : a = b := by
  induction a generalizing b with
  | nil =>
    cases b with
    | nil => rfl
    | cons y b => exact absurd ((h y).2 (by simp)) (by simp)
  | cons x a ih =>
    cases b with
    | nil => exact absurd ((h x).1 (by simp)) (by simp)
    | cons y b =>
      rw [List.pairwise_cons] at ha hb
      have hxy : x = y := by
        have h1 := (h x).1 (by simp)
        have h2 := (h y).2 (by simp)
        rw [List.mem_cons] at h1 h2
        rcases h1 with h1 | h1
        · exact h1
        · rcases h2 with h2 | h2
          · exact h2.symm
          · have := hb.1 x h1; have := ha.1 y h2; omega
      subst hxy
      rw [ih ha.2 hb.2 fun z => ?_]
      have hz := h z
      rw [List.mem_cons, List.mem_cons] at hz
      constructor
      · intro hm
        rcases hz.1 (.inr hm) with e | e
        · have := ha.1 z hm; omega
        · exact e
      · intro hm
        rcases hz.2 (.inr hm) with e | e
        · have := hb.1 z hm; omega
        · exact e
theorem sort_le (l : List Int) : (l.mergeSort fun x y => decide (x ≤ y)).Pairwise (· ≤ ·) := by
  have := List.pairwise_mergeSort (le := fun x y : Int => decide (x ≤ y)) (fun a b c h1 h2 => by simp only [decide_eq_true_eq] at h1 h2 ⊢; omega) (fun a b => by simp only [Bool.or_eq_true, decide_eq_true_eq]; omega) l
  exact this.imp fun h => by simpa using h
/-- sorted, each once -/
def uniqI (l : List Int) : List Int := Go.Lib.compact (l.mergeSort fun x y => decide (x ≤ y))
theorem uniqI_lt (l : List Int) : (uniqI l).Pairwise (· < ·) := (cmp_inv (sort_le l) _ (Nat.le_refl _)).1
theorem uniqI_mem (l : List Int) (x : Int) : x ∈ uniqI l ↔ x ∈ l := by
  have := (cmp_inv (sort_le l) _ (Nat.le_refl _)).2 x
  rw [List.take_length] at this
  unfold uniqI Go.Lib.compact
  rw [this, List.mem_mergeSort]
/-- what needed steps cite, in their order -/
def citL (p : List Stp) (L : List Nat) : List Int := (L.filter fun i => decide ((p.getD i (0, 0, 0)).1 = 1)).map fun i => (p.getD i (0, 0, 0)).2.1
/-- whether a needed step cites a given -/
def citB (p : List Stp) (g : Nat) : Bool := (List.range p.length).any fun i => (ndL p).getD i false && (decide ((p.getD i (0, 0, 0)).1 = 1) && decide ((p.getD i (0, 0, 0)).2.1 = (g : Int)))
def citR (G : Nat) (p : List Stp) : List Int := ((List.range G).filter fun g => citB p g).map fun g : Nat => (g : Int)
theorem citL_mem {p : List Stp} {x : Int} : x ∈ citL p (ndIdx p) ↔ ∃ i, i < p.length ∧ (ndL p).getD i false = true ∧ (p.getD i (0, 0, 0)).1 = 1 ∧ (p.getD i (0, 0, 0)).2.1 = x := by
  unfold citL ndIdx
  rw [List.mem_map]
  constructor
  · rintro ⟨i, hi, rfl⟩
    rw [List.mem_filter, List.mem_filter, List.mem_range, decide_eq_true_eq] at hi
    exact ⟨i, hi.1.1, hi.1.2, hi.2, rfl⟩
  · rintro ⟨i, h1, h2, h3, rfl⟩
    exact ⟨i, by rw [List.mem_filter, List.mem_filter, List.mem_range, decide_eq_true_eq]; exact ⟨⟨h1, h2⟩, h3⟩, rfl⟩
theorem cited_eq {G : Nat} {p : List Stp} (ok : okSteps (G : Int) 0 p = true) : uniqI (citL p (ndIdx p)) = citR G p := by
  refine lt_ext (uniqI_lt _) ?_ fun x => ?_
  · unfold citR
    rw [List.pairwise_map]
    exact (List.Pairwise.filter _ List.pairwise_lt_range).imp fun h => by omega
  · rw [uniqI_mem, citL_mem]
    unfold citR citB
    rw [List.mem_map]
    constructor
    · rintro ⟨i, h1, h2, h3, rfl⟩
      have hr := okS_get p 0 i h1 ok
      rw [Nat.zero_add] at hr
      rw [getD_stp h1] at h3 ⊢
      obtain ⟨c1, c2, -⟩ := rightB_cite hr h3
      refine ⟨p[i].2.1.toNat, ?_, by omega⟩
      rw [List.mem_filter, List.mem_range]
      refine ⟨by omega, ?_⟩
      rw [List.any_eq_true]
      refine ⟨i, List.mem_range.2 h1, ?_⟩
      rw [getD_stp h1]
      simp only [Bool.and_eq_true, decide_eq_true_eq]
      exact ⟨h2, h3, by omega⟩
    · rintro ⟨g, hg, rfl⟩
      rw [List.mem_filter, List.any_eq_true] at hg
      obtain ⟨-, i, hi, hb⟩ := hg
      simp only [Bool.and_eq_true, decide_eq_true_eq] at hb
      exact ⟨i, List.mem_range.1 hi, hb.1, hb.2.1, hb.2.2⟩
/-- what Cited answers -/
def citedE (G : Int) (p : List Stp) : List Int × Int := if proofB G p = true then (citR G.toNat p, 0) else ([], 1)
end Go.Proofs.YtljkojpooajlhaaGreatDoor

/- slices.Sort and slices.Compact at numbers, off the shelf, on a list of the call's own. -/
namespace Go.Proofs.YtljkojpooajlhaaGreatDoor
open Go Go.RowKit

theorem below_grow {B : Nat} {w0 w : World} (h : Below B w0 w) (hB : B ≤ w.heap.size) (os : Array Obj) : Below B w0 (Go.Sort.grow w os) :=
  ⟨h.os, h.tape, h.output, by simpa [Go.Sort.grow] using Nat.le_trans h.size (Nat.le_add_right _ _), fun k hk => by
    rw [← h.block k hk]
    simp only [Go.Sort.grow]
    rw [Array.getElem?_append_left (by omega)]⟩
theorem ownsRow_grow {w : World} {base : Nat} {e : TypeId} {v : Value} {n : Nat} {xs : List Value} (h : w.ownsRow base e 1 v n xs) (os : Array Obj) : (Go.Sort.grow w os).ownsRow base e 1 v n xs := by
  refine ⟨h.1, ?_⟩
  rcases h.2 with h2 | ⟨g, cap, cur, e0, hb, hg, rest⟩
  · exact .inl h2
  · refine .inr ⟨g, cap, cur, e0, hb, ?_, rest⟩
    simp only [Go.Sort.grow]
    rw [Array.getElem?_append_left (Array.getElem?_eq_some_iff.1 hg).1]; exact hg
theorem sortI_any {w : World} {base : Nat} {v : Value} {l : List Int} (h : OwnI w base v l) (hl : l.length ≤ 1000000) (hb : base ≤ w.heap.size) :
    Calls Tryz.prog 37 #[v] w fun e w' => e = .returned (.tuple #[]) ∧ OwnI w' base v (l.mergeSort fun x y => decide (x ≤ y)) ∧ Below base w w' := by
  obtain ⟨ho, hr⟩ := OwnL.row h
  by_cases hv : v = .slice none 0 0
  · subst hv
    have h0 : l = [] := by
      obtain ⟨a, c, e, -⟩ := OwnI.ints h
      simp only [Value.slice.injEq] at e
      exact List.length_eq_zero_iff.1 e.2.1.symm
    subst h0
    refine (Any.slices_Sort_int_none sh189 none 0 w).mono ?_
    rintro e w' ⟨rfl, rfl⟩
    exact ⟨rfl, by simpa using h, Below.refl _ _⟩
  · obtain ⟨g, cap, rfl, hg, hlt, hn, hm, hll, hH⟩ := Lib.holds_of_ownsRow ho hv
    refine (Any.slices_Sort_int sh189 g 0 cap l w hH hlt (by omega)).mono ?_
    rintro e w' ⟨rfl, n, os, rfl⟩
    have hml : (l.mergeSort fun x y => decide (x ≤ y)).length = l.length := List.length_mergeSort _
    have hp := Lib.ownsRow_putRow (q := n) (k := l.length) (ys := l.mergeSort fun x y => decide (x ≤ y)) ho hml (Nat.le_refl _)
    rw [List.take_of_length_le (by omega)] at hp
    have hbb := Lib.below_putRow (enc := Value.int .i64) (q := n) (d := (l.mergeSort fun x y => decide (x ≤ y)).toArray) (Below.refl base w) hg
    refine ⟨rfl, OwnL.of_row ?_ (fun x hx => hr x (List.mem_mergeSort.1 hx)), below_grow hbb (Nat.le_trans hb hbb.size) os⟩
    rw [hml]
    exact ownsRow_grow hp os
end Go.Proofs.YtljkojpooajlhaaGreatDoor

/- Walks: Equal, Clone of []int; tongue.ascending, order. -/
namespace Go.Proofs.YtljkojpooajlhaaGreatDoor
open Go Go.RowKit Go.Maps

theorem EqualI_any {S1 S2 : Nat → Prop} (a1 a2 : Option Addr) (c1 c2 : Nat) (l1 l2 : List Int) (w : World) (h1 : Ints S1 w a1 c1 l1) (h2 : Ints S2 w a2 c2 l2) :
    Calls Tryz.prog 26 #[.slice a1 l1.length c1, .slice a2 l2.length c2] w fun e w' => e = .returned (.bool (decide (l1 = l2))) ∧ Drew w w' := by
  have m1 := h1.le
  have m2 := h2.le
  by_cases hl : l1.length = l2.length
  · have hlH := Lib.hid hl
    go_enter Tryz.func26, Tryz.ntmps26
    go_wp2
    clear hl
    go_loopw [13] (fun i wr => ∃ k : Nat, k ≤ l1.length ∧ i = .int .i64 k ∧ l1.take k = l2.take k ∧ Drew w wr) (fun i _ => l1.length - (intOf i).toNat)
    case atStart => exact ⟨0, by omega, rfl, rfl, .refl _⟩
    case round =>
      obtain ⟨k, hk, rfl, ht, n, rfl⟩ := hrel
      have htH := Lib.hid ht
      clear ht
      have hle := hlH.out
      by_cases hlt : k < l1.length
      · have hlt2 : k < l2.length := by omega
        obtain ⟨b1, o1, rfl, -, q1, -⟩ := h1.int k hlt
        obtain ⟨b2, o2, rfl, -, q2, -⟩ := h2.int k hlt2
        clear h1 h2 hle
        go_wp2
        go_quiet (fail)
        all_goals go_wp2
        · go_ret
          exact ⟨ret_bool (decide_eq_false (take_ne hlt hlt2 (by assumption))).symm, .mk2 _ _ _⟩
        · exact ⟨⟨k + 1, by omega, by go_num, take_succ_eq hlt hlt2 htH.out (by assumption), .mk _ _⟩, by simp [intOf]; omega⟩
      · clear hle
        have hk2 : ¬ k < l2.length := by have := hlH.out; omega
        go_wp2
        go_ret
        exact ⟨ret_bool (decide_eq_true (take_all_eq hlH.out hk2 htH.out)).symm, .mk _ _⟩
  · go_enter Tryz.func26, Tryz.ntmps26
    have hb := int_ne hl
    go_wp2
    go_ret
    exact ⟨ret_bool (decide_eq_false (fun e => hl (by rw [e]))).symm, .refl _⟩

set_option maxHeartbeats 400000 in
theorem CloneI_any {S : Nat → Prop} (a : Option Addr) (c : Nat) (l : List Int) (w : World) (h : Ints S w a c l) (hl : l.length ≤ lim) :
    Calls Tryz.prog 36 #[.slice a l.length c] w (retOwn w l) := by
  cases a with
  | none =>
    obtain ⟨rfl, rfl⟩ := h.nil rfl
    have hnl := fun W => Lib.run_eql_slice_nil (P := Tryz.prog) W 31 3 none 0 0 0 0 Tryz.underlying31
    go_enter Tryz.func36, Tryz.ntmps36
    go_wp2_with fail
    go_ret
    exact ⟨_, rfl, .nil _ _ _ _ _, .refl _ _⟩
  | some a =>
    have hnl := fun W => Lib.run_eql_slice_nil (P := Tryz.prog) W 31 3 (some a) l.length c 0 0 Tryz.underlying31
    obtain ⟨v', w', hrun, ho, hg, -, -⟩ := (OwnL.made intE (fun _ => False) w w.heap.size 3 (Nat.le_refl _)).append_run (P := Tryz.prog) (t := 31) (ty := 31) Tryz.underlying31 infoInt rfl (h.below (below1 w (.cells #[] 3))) (fun _ _ _ h => h) (by unfold lim at hl; simp; omega) (by unfold lim at hl; unfold big; simp; omega) (by simp)
    have hB : Below w.heap.size w w' := (below1 w (.cells #[] 3)).grown hg (by simp) (fun k e => by simp [Value.ownBlock] at e; omega)
    rw [List.nil_append] at ho
    clear hg
    have hrunH := Lib.hid hrun
    clear hrun
    go_enter Tryz.func36, Tryz.ntmps36
    go_wp2_with (at_builtin; refine wpList_append_run rfl _ _ _ rfl rfl rfl hrunH.out ?_)
    go_ret
    exact ⟨_, rfl, ho, hB⟩

theorem OwnI.pushU {w wr W : World} {out : Value} {l l' : List Int} (ho : OwnI wr w.heap.size out l) (hB : Below w.heap.size w wr) (hb : Below wr.heap.size wr W) {x : Int} (hx : inRange x) (hl' : l' = l ++ [x]) (hl : l.length ≤ 1000000) :
    ∃ v' w', RowKit.Hid ((Builtin.append_ #[31, 31] 31 #[out, .slice (some ⟨W.heap.size, 0, none⟩) 1 1]).run Tryz.prog (W.alloc (.cells #[.int .i64 x] 3)) = .ok v' w') ∧ RowKit.Hid (OwnI w' w.heap.size v' l') ∧ RowKit.Hid (Below w.heap.size w w') := by
  have hB2 := bcall hB hb
  have ho1 := OwnL.call ho hb
  obtain ⟨v', w', hrun, ho', hg, -⟩ := ho1.push (P := Tryz.prog) (t := 31) (ty := 31) Tryz.underlying31 infoInt rfl (vs := [.int .i64 x]) (x := x) ⟨rfl, hx⟩ (by omega) (by unfold big; omega) hB2.size
  exact ⟨v', w', Lib.hid hrun, Lib.hid (by rw [hl']; exact ho'), Lib.hid (hB2.grown hg hB2.size (fun k e => (ho1.lt k e).1))⟩
def ascRel (n : Nat) (w : World) (out i : Value) (wr : World) : Prop := ∃ k : Nat, i = .int .i64 k ∧ k ≤ n ∧ OwnI wr w.heap.size out (ascL k) ∧ Below w.heap.size w wr
set_option maxRecDepth 20000 in
theorem ascending_any (n : Nat) (hn : n ≤ 100000) (w : World) : Calls Tryz.prog 38 #[.int .i64 n] w (retOwn w (ascL n)) := by
  go_enter Tryz.func38, Tryz.ntmps38
  go_wp2_with fail
  go_loopw [3, 6] (fun out i wr => ascRel n w out i wr) (fun _ i _ => n - (intOf i).toNat)
  case atStart => exact ⟨0, rfl, Nat.zero_le _, .nil _ _ _ _ _, .refl _ _⟩
  case round =>
    obtain ⟨k, rfl, hk, ho, hB⟩ := hrel
    by_cases hlt : k < n
    · obtain ⟨v', w', hrun', ho', hB'⟩ := OwnI.pushU (l' := ascL (k + 1)) ho hB (.refl _ _) (x := (k : Int)) (by unfold inRange; omega) (ascL_succ k) (by rw [ascL_len]; omega)
      clear ho hB
      go_wp2_with (at_builtin; refine wpList_append_run rfl _ _ _ rfl rfl rfl hrun'.out ?_)
      go_roundw
      case rel => exact ⟨k + 1, by go_num, hlt, ho'.out, hB'.out⟩
      case measure => simp [intOf]; omega
    · have hkn : k = n := by omega
      subst hkn
      have hoH := Lib.hid ho
      have hBH := Lib.hid hB
      clear ho hB
      go_wp2_with fail
      go_ret
      exact ⟨_, rfl, hoH.out, hBH.out⟩
set_option maxRecDepth 20000 in
theorem order_any {S : Nat → Prop} (a : Option Addr) (c : Nat) (l : List Int) (w : World) (h : Ints S w a c l) (hl : l.length ≤ 1000) :
    Calls Tryz.prog 21 #[.slice a l.length c] w fun e w' => e = .returned (.bool (ordB l)) ∧ Below w.heap.size w w' := by
  have m1 := h.le
  have c1 := Lib.hid (CloneI_any a c l w h (by unfold lim; omega))
  have c2 := Lib.hid (fun (W : World) (v : Value) (ho : OwnI W w.heap.size v l) (hb : w.heap.size ≤ W.heap.size) => sortI_any ho (by omega) hb)
  have c3 := Lib.hid (fun W => ascending_any l.length (by omega) W)
  have hsl : (l.mergeSort fun x y => decide (x ≤ y)).length = l.length := (List.mergeSort_perm l _).length_eq
  have hso : decide ((l.mergeSort fun x y => decide (x ≤ y)) = ascL l.length) = ordB l := by
    refine ord_sorted (List.mergeSort_perm l _) ?_
    have := List.pairwise_mergeSort (le := fun x y : Int => decide (x ≤ y)) (fun a b c h1 h2 => by simp at *; omega) (fun a b => by simp; omega) l
    exact this.imp (fun h => by simpa using h)
  have hal := ascL_len l.length
  obtain ⟨m, hm⟩ : ∃ m, (l.mergeSort fun x y => decide (x ≤ y)) = m := ⟨_, rfl⟩
  obtain ⟨q, hq⟩ : ∃ q, ascL l.length = q := ⟨_, rfl⟩
  rw [hm] at hsl hso
  rw [hq] at hso hal
  simp only [hm] at c2
  simp only [hq] at c3
  obtain ⟨d, hd⟩ : ∃ d, ordB l = d := ⟨_, rfl⟩
  rw [hd] at hso ⊢
  clear h hm hq hd
  go_enter Tryz.func21, Tryz.ntmps21
  go_wp2_with fail
  (with_reducible refine c1.out.mono ?_)
  rintro e w1 ⟨v1, rfl, ho1, hb1⟩
  have c21 := c2.out w1 v1 ho1 hb1.size
  obtain ⟨a1, d1, rfl, hI1⟩ := OwnI.ints ho1
  have c2H := Lib.hid c21
  have hb1H := Lib.hid hb1
  clear ho1 hI1 c21 hb1 c1 c2
  go_wp2_with fail
  (with_reducible refine c2H.out.mono ?_)
  rintro e w2 ⟨rfl, ho2, hb2⟩
  obtain ⟨a2, d2, he, hI2⟩ := OwnI.ints ho2
  rw [hsl] at he
  simp only [Value.slice.injEq] at he
  obtain ⟨rfl, -, rfl⟩ := he
  have hI2H := Lib.hid hI2
  have hb2H := Lib.hid (hb1H.out.trans hb2)
  clear ho2 hI2 c2H hb1H hb2
  go_wp2_with fail
  (with_reducible refine (c3.out _).mono ?_)
  rintro e w3 ⟨v3, rfl, ho3, hb3⟩
  obtain ⟨a3, d3, rfl, hI3⟩ := OwnI.ints ho3
  have ce := EqualI_any a1 a3 d1 d3 m q w3 (hI2H.out.below hb3) hI3
  rw [hsl, hal, hso] at ce
  have ceH := Lib.hid ce
  have hb3H := Lib.hid (bcall hb2H.out hb3)
  rw [hal]
  clear ho3 hI3 ce c3 hI2H hb2H hb3
  go_wp2_with fail
  (with_reducible refine ceH.out.mono ?_)
  rintro e w4 ⟨rfl, hd4⟩
  go_wp2_with fail
  go_ret
  exact ⟨rfl, bcall hb3H.out (hd4.below _)⟩
end Go.Proofs.YtljkojpooajlhaaGreatDoor

/- Walks: tongue.Valid. -/
namespace Go.Proofs.YtljkojpooajlhaaGreatDoor
open Go Go.RowKit Go.Maps

def wayE : Enc (Int × List Int) := pairE intE (slE intE)
abbrev WaysL (S : Nat → Prop) (w : World) (a : Option Addr) (c : Nat) (d : Ways) : Prop := Sl wayE S w a c d
theorem Sl.way {S : Nat → Prop} {w : World} {a : Option Addr} {c : Nat} {d : Ways} (h : WaysL S w a c d) (i : Nat) (hi : i < d.length) :
    ∃ b off a' c', a = some ⟨b, off, none⟩ ∧ S b ∧ w.cell? ⟨b, off + i * 2, none⟩ = some (.int .i64 d[i].1) ∧ w.cell? ⟨b, off + i * 2 + 1, none⟩ = some (.slice a' d[i].2.length c') ∧ inRange d[i].1 ∧ Ints S w a' c' d[i].2 := by
  obtain ⟨b, off, ha, hb, hl, vs, _, hv, hr⟩ := h.at1 i hi
  obtain ⟨us, ts, rfl, ⟨rfl, h1⟩, ⟨a', c', rfl, h2⟩⟩ := hr
  have h0 := hv 0 (by simp)
  have h3 := hv 1 (by simp)
  simp [wayE, pairE, slE, intE] at h0 h3
  exact ⟨b, off, a', c', ha, hb, h0, h3, h1, h2⟩
theorem validD_if {a b : Sg} {d : Ways} : validD a b d = (okSign a && (okSign b && (decide (d.length = a.length) && (decide ((d.getD 0 (0, [])).1 = 0) && (decide ((d.getD 0 (0, [])).2 = [0, 1]) && wysOk a b d d.length))))) := by
  unfold validD
  by_cases h1 : okSign a = true
  · by_cases h3 : d.length = a.length
    · by_cases h4 : wysOk a b d d.length = true
      · rw [first_way h1 h3 h4, h4]
        simp only [Bool.true_and, Bool.and_true]
      · have h4' : wysOk a b d d.length = false := by simpa using h4
        rw [h4']
        simp only [Bool.and_false, Bool.false_and]
    · rw [decide_eq_false h3]
      simp only [Bool.and_false, Bool.false_and]
  · have h1' : okSign a = false := by simpa using h1
    rw [h1', Bool.false_and, Bool.false_and]
def vwRel (a b : Sg) (d : Ways) (w : World) (i : Value) (wr : World) : Prop := ∃ k : Nat, i = .int .i64 k ∧ k ≤ d.length ∧ wysOk a b d k = true ∧ Below w.heap.size w wr
theorem keepV {W1 w1 w2 : World} {p1 p2 p3 p4 : Addr} {v1 v2 v3 v4 : Value} (h : Below W1.heap.size W1 w1 ∧ w1.cell? p1 = some v1 ∧ w1.cell? p2 = some v2 ∧ w1.cell? p3 = some v3 ∧ w1.cell? p4 = some v4) (hb : Below w1.heap.size w1 w2) :
    Below W1.heap.size W1 w2 ∧ w2.cell? p1 = some v1 ∧ w2.cell? p2 = some v2 ∧ w2.cell? p3 = some v3 ∧ w2.cell? p4 = some v4 :=
  ⟨bcall h.1 hb, cell_later hb h.2.1, cell_later hb h.2.2.1, cell_later hb h.2.2.2.1, cell_later hb h.2.2.2.2⟩
end Go.Proofs.YtljkojpooajlhaaGreatDoor

/- Walks: the closure of tongue.carried. -/
namespace Go.Proofs.YtljkojpooajlhaaGreatDoor
open Go Go.RowKit Go.Maps

theorem OwnI.appU {T : Nat → Prop} {w wr W : World} {out : Value} {l l2 l' : List Int} (ho : OwnI wr w.heap.size out l) (hB : Below w.heap.size w wr) (hb : Below wr.heap.size wr W) {a : Option Addr} {c : Nat} (hx : Ints T W a c l2) (hl' : l' = l ++ l2) (hl : l.length ≤ 1000) (hl2 : l2.length ≤ 1000) :
    ∃ v' w', RowKit.Hid ((Builtin.append_ #[40, 40] 40 #[out, .slice a l2.length c]).run Tryz.prog W = .ok v' w') ∧ RowKit.Hid (OwnI w' w.heap.size v' l') ∧ RowKit.Hid (Below w.heap.size w w') := by
  have hB2 := bcall hB hb
  have ho1 := OwnL.call ho hb
  obtain ⟨v', w', hrun, ho', hg, -⟩ := ho1.append_run (P := Tryz.prog) (t := 40) (ty := 40) Tryz.underlying40 infoInt rfl hx (fun _ _ _ h => h) (by omega) (by unfold big; omega) hB2.size
  exact ⟨v', w', Lib.hid hrun, Lib.hid (by rw [hl']; exact ho'), Lib.hid (hB2.grown hg hB2.size (fun k e => (ho1.lt k e).1))⟩
theorem flat_le {A : List (List Int)} {n : Nat} (h : ∀ u ∈ A, u.length ≤ n) : A.flatten.length ≤ A.length * n := by
  induction A with
  | nil => simp
  | cons x A ih =>
    have h1 := h x (by simp)
    have h2 := ih (fun u hu => h u (by simp [hu]))
    rw [List.flatten_cons, List.length_append, List.length_cons, Nat.succ_mul]
    omega
def caRet (W : World) (ba p : Nat) (s : Sg) (d : Ways) (u : List Int) (e : Ending) (w' : World) : Prop := ∃ v, e = .returned v ∧ OwnI w' W.heap.size v (carT s d u) ∧ W.grownBy w' (some ba) ∧ AtBox w' ba (p + u.length)
def caRel1 (s : Sg) (d : Ways) (t : List Int) (p m ba : Nat) (W2 : World) (out i : Value) (wr : World) : Prop :=
  ∃ (j p' : Nat) (A : List (List Int)), i = .int .i64 j ∧ j ≤ m ∧ A = ((splitK s m (t.drop (p + 1))).take j).map (carT s d) ∧ skip s j (t.drop (p + 1)) = some (t.drop p') ∧ p + 1 ≤ p' ∧ p' ≤ t.length ∧ OwnL (slE intE) (fun b => b ≠ ba) wr W2.heap.size 40 out A ∧ W2.grownBy wr (some ba) ∧ AtBox wr ba p'
def caRel2 (A : List (List Int)) (T : Int) (L : List Int) (W5 : World) (out i : Value) (wr : World) : Prop :=
  ∃ q : Nat, i = .int .i64 q ∧ q ≤ L.length ∧ OwnI wr W5.heap.size out (T :: ((L.take q).map (fun k => A.getD k.toNat [])).flatten) ∧ Below W5.heap.size W5 wr
end Go.Proofs.YtljkojpooajlhaaGreatDoor

/- Walks: tongue.single, OneToOne, Image. -/
namespace Go.Proofs.YtljkojpooajlhaaGreatDoor
open Go Go.RowKit Go.Maps

theorem dedupI_snoc (l : List Int) (x : Int) : (dedupI (l ++ [x])).length = if x ∈ l then (dedupI l).length else (dedupI l).length + 1 := by
  split
  · rename_i h
    refine (dedupI_uniq (dedupI_nodup l) (fun y => ?_)).symm
    rw [mem_dedupI, List.mem_append, List.mem_singleton]
    exact ⟨Or.inl, fun e => e.elim id (fun e => by rw [e]; exact h)⟩
  · rename_i h
    have hn : (x :: dedupI l).Nodup := by rw [List.nodup_cons]; exact ⟨fun e => h (mem_dedupI.1 e), dedupI_nodup l⟩
    rw [← dedupI_uniq hn (fun y => ?_), List.length_cons]
    rw [List.mem_cons, mem_dedupI, List.mem_append, List.mem_singleton, or_comm]
theorem tos_take {d : Ways} {k : Nat} (hk : k < d.length) : tosD (d.take (k + 1)) = tosD (d.take k) ++ [d[k].1] := by
  unfold tosD
  rw [List.take_succ_eq_append_getElem hk, List.map_append]; rfl
noncomputable abbrev metK : KeyK Int Tryz.prog 3 := intK Tryz.underlying3
def mtoF (l : List Int) (x : Int) : Option Value := if x ∈ l then some (.bool true) else none
def sgRel (d : Ways) (w : World) (i : Value) (wr : World) : Prop := ∃ k : Nat, i = .int .i64 k ∧ k ≤ d.length ∧ VMap metK wr w.heap.size (dedupI (tosD (d.take k))).length (mtoF (tosD (d.take k))) ∧ Below w.heap.size w wr
theorem validD_len {a b : Sg} {d : Ways} (h : validD a b d = true) : a.length ≤ 12 ∧ b.length ≤ 12 ∧ d.length ≤ 12 := by
  obtain ⟨h1, h2, h3, -⟩ := validD_parts h
  have := okSign_len h1
  have := okSign_len h2
  omega
def imRel (d : Ways) (w : World) (out i : Value) (wr : World) : Prop := ∃ k : Nat, i = .int .i64 k ∧ k ≤ d.length ∧ OwnI wr w.heap.size out (tosD (d.take k)) ∧ Below w.heap.size w wr
def imgE (a b : Sg) (d : Ways) : List Int × Int := if validD a b d = true then (imgK d b.length, 0) else ([], 1)
def retIE (r : List Int × Int) (w : World) (e : Ending) (w' : World) : Prop := ∃ a c, e = .returned (.tuple #[.slice a r.1.length c, .int .i64 r.2]) ∧ Ints (fun b => w.heap.size ≤ b) w' a c r.1 ∧ Below w.heap.size w w'
end Go.Proofs.YtljkojpooajlhaaGreatDoor

/- Lists of ways of a call's own: made, set; made lists of numbers. -/
namespace Go.Proofs.YtljkojpooajlhaaGreatDoor
open Go Go.RowKit Go.Maps

abbrev OwnW (w : World) (base : Nat) (v : Value) (l : Ways) : Prop := OwnL wayE (fun _ => True) w base 33 v l
theorem infoWay : (Tryz.prog.info? 33).map (fun i => (i.zero, i.size, i.bytes)) = some (some (.agg #[.int .i64 0, .slice none 0 0]), 2, 32) := by kernel_rfl
theorem flat2_set {v1 v2 : Value} : ∀ {xs : List (List Value)} (_ : ∀ x ∈ xs, x.length = 2) (j : Nat) (_ : j < xs.length), (xs.flatten.set (j * 2) v1).set (j * 2 + 1) v2 = (xs.set j [v1, v2]).flatten
  | [], _, j, hj => by simp at hj
  | x :: xs, h, 0, _ => by
    have hx := h x (by simp)
    match x, hx with
    | [p, q], _ => rfl
  | x :: xs, h, j + 1, hj => by
    have hx := h x (by simp)
    have ih := flat2_set (v1 := v1) (v2 := v2) (xs := xs) (fun y hy => h y (by simp [hy])) j (by simpa using hj)
    match x, hx with
    | [p, q], _ =>
      rw [List.flatten_cons, List.set_cons_succ, List.flatten_cons, ← ih]
      have e1 : (j + 1) * 2 = j * 2 + 2 := by omega
      rw [e1]; rfl
theorem OwnW.set {w : World} {base g n cap : Nat} {l : Ways} (h : OwnW w base (.slice (some ⟨g, 0, none⟩) n cap) l) (hn : n = l.length) {j : Nat} (hj : j < l.length) {x : Int × List Int} {S : Nat → Prop} {a : Option Addr} {c : Nat} (hx : inRange x.1) (hI : Ints S w a c x.2) (hS : ∀ b, S b → b ≠ g) :
    OwnW ((w.setCell ⟨g, j * 2, none⟩ (.int .i64 x.1)).setCell ⟨g, j * 2 + 1, none⟩ (.slice a x.2.length c)) base (.slice (some ⟨g, 0, none⟩) n cap) (l.set j x) ∧ w.grownBy ((w.setCell ⟨g, j * 2, none⟩ (.int .i64 x.1)).setCell ⟨g, j * 2 + 1, none⟩ (.slice a x.2.length c)) (some g) := by
  subst hn
  obtain ⟨xs, ho, hl, hR⟩ := h
  obtain ⟨h1, g1⟩ := ho.stored (j * 2) (.int .i64 x.1)
  obtain ⟨h2, g2⟩ := h1.stored (j * 2 + 1) (.slice a x.2.length c)
  have hg := gby_trans' g1 g2
  have hln : ∀ y ∈ xs, y.length = 2 := fun y hy => by
    obtain ⟨i, hi, rfl⟩ := List.getElem_of_mem hy
    exact wayE.len (hR i hi (by omega))
  rw [flat2_set hln j (by omega)] at h2
  have hA : Agree (Off (fun _ => True) (.slice (some ⟨g, 0, none⟩) l.length cap)) w ((w.setCell ⟨g, j * 2, none⟩ (.int .i64 x.1)).setCell ⟨g, j * 2 + 1, none⟩ (.slice a x.2.length c)) :=
    .of_grown hg (fun b hb e => hb.2 (by injection e with e; rw [e]; rfl))
  refine ⟨⟨xs.set j [.int .i64 x.1, .slice a x.2.length c], by rw [List.length_set]; exact h2, by rw [List.length_set, List.length_set]; exact hl, fun i hi1 hi2 => ?_⟩, hg⟩
  rw [List.length_set] at hi1 hi2
  rw [List.getElem_set, List.getElem_set]
  by_cases e : j = i
  · rw [if_pos e, if_pos e]
    exact ⟨[.int .i64 x.1], [.slice a x.2.length c], rfl, ⟨rfl, hx⟩, ⟨a, c, rfl, hI.mono (fun b _ hb => ⟨trivial, fun e => hS b hb (by simpa [Value.ownBlock] using e)⟩) (.of_grown hg (fun b hb e => hS b hb (Option.some.inj e)))⟩⟩
  · rw [if_neg e, if_neg e]
    exact wayE.mono (hR i hi1 hi2) (fun _ _ h => h) hA
theorem flat_rep2 (v1 v2 : Value) : ∀ n : Nat, (List.replicate n [v1, v2]).flatten = (List.range (n * 2)).map (fun i => if i % 2 = 0 then v1 else v2)
  | 0 => rfl
  | n + 1 => by
    rw [List.replicate_succ', List.flatten_append, flat_rep2 v1 v2 n, show (n + 1) * 2 = n * 2 + 1 + 1 by omega, List.range_succ, List.range_succ, List.map_append, List.map_append, List.append_assoc]
    congr 1
    simp [show n * 2 % 2 = 0 by omega, show (n * 2 + 1) % 2 = 1 by omega]
theorem makeWays {W : World} (n : Nat) (hn : n ≤ 1000) : (Instr.makeSlice 22 (.int .i64 (n : Int)) (.int .i64 (n : Int))).run Tryz.prog W = .ok (.slice (some ⟨W.heap.size, 0, none⟩) n n) (W.alloc (.cells (List.replicate n [Value.int .i64 0, .slice none 0 0]).flatten.toArray 33)) := by
  obtain ⟨i, hi, hz0, hz1, hz2⟩ := info_parts infoWay
  have := run_make (P := Tryz.prog) W 22 33 i (.agg #[.int .i64 0, .slice none 0 0]) Tryz.underlying22 hi hz0 .i64 .i64 n n (by omega) (by omega) (by rw [hz2]; omega) (by omega)
  rw [this, hz1, Int.toNat_natCast]
  have hm : madeCells (Value.agg #[.int .i64 0, .slice none 0 0]).cells (n * 2) = (List.replicate n [Value.int .i64 0, .slice none 0 0]).flatten.toArray := by
    rw [flat_rep2]
    apply Array.ext
    · simp [madeCells]
    · intro i h1 h2
      have : i % 2 = 0 ∨ i % 2 = 1 := by omega
      rcases this with e | e <;> simp [madeCells, Value.cells, e]
  rw [hm]
theorem OwnW.made (w : World) (n : Nat) (hn : n ≤ 1000) : OwnW (w.alloc (.cells (List.replicate n [Value.int .i64 0, .slice none 0 0]).flatten.toArray 33)) w.heap.size (.slice (some ⟨w.heap.size, 0, none⟩) n n) (List.replicate n (0, [])) := by
  have hfl : (List.replicate n [Value.int .i64 0, .slice none 0 0]).flatten.length = n * 2 := by rw [flat_rep2]; simp
  refine ⟨List.replicate n [.int .i64 0, .slice none 0 0], ⟨?_, .inr ⟨w.heap.size, n, _, ?_, Nat.le_refl _, heap_alloc_new w _, ?_, ?_, ?_, ?_⟩⟩, by simp, fun i h1 h2 => ?_⟩
  · rw [hfl]; simp [wayE, pairE, slE, intE]
  · rw [List.length_replicate]
  · rw [List.length_replicate]; exact Nat.le_refl _
  · have : (1000 : Nat) < maxLen := by decide
    omega
  · simp [hfl, wayE, pairE, slE, intE]
  · rw [List.length_replicate]; simp [wayE, pairE, slE, intE]; exact List.take_of_length_le (Nat.le_of_eq hfl)
  · rw [List.getElem_replicate, List.getElem_replicate]
    exact ⟨[.int .i64 0], [.slice none 0 0], rfl, ⟨rfl, by unfold inRange; decide⟩, ⟨none, 0, rfl, Sl.empty⟩⟩
theorem makeInts {W : World} (n : Nat) (hn : n ≤ 1000) : (Instr.makeSlice 31 (.int .i64 (n : Int)) (.int .i64 (n : Int))).run Tryz.prog W = .ok (.slice (some ⟨W.heap.size, 0, none⟩) n n) (W.alloc (.cells (Array.replicate n (Value.int .i64 0)) 3)) := by
  obtain ⟨i, hi, hz0, hz1, hz2⟩ := info_parts infoInt
  have := run_make (P := Tryz.prog) W 31 3 i (.int .i64 0) Tryz.underlying31 hi hz0 .i64 .i64 n n (by omega) (by omega) (by rw [hz2]; omega) (by omega)
  rw [this, hz1, Int.toNat_natCast, Nat.mul_one]
  have hm : madeCells (Value.int .i64 0).cells n = Array.replicate n (Value.int .i64 0) := by
    apply Array.ext
    · simp [madeCells]
    · intro i h1 h2; simp [madeCells, Value.cells, Nat.mod_one]
  rw [hm]
theorem OwnI.madeZ (w : World) (n : Nat) (hn : n ≤ 1000) : OwnI (w.alloc (.cells (Array.replicate n (Value.int .i64 0)) 3)) w.heap.size (.slice (some ⟨w.heap.size, 0, none⟩) n n) (List.replicate n 0) := by
  refine ⟨List.replicate n [.int .i64 0], ⟨?_, .inr ⟨w.heap.size, n, _, ?_, Nat.le_refl _, heap_alloc_new w _, ?_, ?_, ?_, ?_⟩⟩, by simp, fun i h1 h2 => ?_⟩
  · simp [intE]
  · rw [List.length_replicate]
  · rw [List.length_replicate]; exact Nat.le_refl _
  · have : (1000 : Nat) < maxLen := by decide
    omega
  · simp [intE]
  · simp [intE]
  · rw [List.getElem_replicate, List.getElem_replicate]
    exact ⟨rfl, by unfold inRange; decide⟩
theorem OwnW.cellW {w : World} {base g n cap : Nat} {l : Ways} (h : OwnW w base (.slice (some ⟨g, 0, none⟩) n cap) l) (hn : n = l.length) {j : Nat} (hj : j < l.length) : (∃ v, w.cell? ⟨g, j * 2, none⟩ = some v) ∧ (∃ v, w.cell? ⟨g, j * 2 + 1, none⟩ = some v) ∧ (∀ i, w.frozen? ⟨g, i, none⟩ = false) := by
  subst hn
  obtain ⟨xs, ho, hl, hR⟩ := h
  have hln : ∀ y ∈ xs, y.length = 2 := fun y hy => by
    obtain ⟨i, hi, rfl⟩ := List.getElem_of_mem hy
    exact wayE.len (hR i hi (by omega))
  have hfl : xs.flatten.length = xs.length * 2 := flatten_len hln
  exact ⟨⟨_, (ho.cellAt (j * 2) (by show j * 2 < l.length * 2; omega)).trans (List.getElem?_eq_getElem (by rw [hfl]; omega))⟩, ⟨_, (ho.cellAt (j * 2 + 1) (by show j * 2 + 1 < l.length * 2; omega)).trans (List.getElem?_eq_getElem (by rw [hfl]; omega))⟩, fun i => ho.frozenAt i⟩
def invE (a b : Sg) (d : Ways) : Ways × Int := if validD a b d = true then (if oneB a b d = true then (invD d b.length d.length, 0) else ([], 8)) else ([], 1)
def retWE (r : Ways × Int) (w : World) (e : Ending) (w' : World) : Prop := ∃ a c, e = .returned (.tuple #[.slice a r.1.length c, .int .i64 r.2]) ∧ WaysL (fun _ => True) w' a c r.1 ∧ Below w.heap.size w w'
def ivRel (d : Ways) (n g : Nat) (w : World) (i : Value) (wr : World) : Prop := ∃ k : Nat, i = .int .i64 k ∧ k ≤ d.length ∧ OwnW wr w.heap.size (.slice (some ⟨g, 0, none⟩) n n) (invD d n k) ∧ Below w.heap.size w wr
def iaRel (A : List Int) (g : Nat) (W1 : World) (i : Value) (wr : World) : Prop := ∃ q : Nat, i = .int .i64 q ∧ q ≤ A.length ∧ OwnI wr W1.heap.size (.slice (some ⟨g, 0, none⟩) A.length A.length) (invA A A.length q) ∧ Below W1.heap.size W1 wr
end Go.Proofs.YtljkojpooajlhaaGreatDoor

/- Walks: lemmaryref03.order, Valid, Same; few, small of the laws on tongues. -/
namespace Go.Proofs.YtljkojpooajlhaaGreatDoor
open Go Go.RowKit Go.Maps

theorem r3within_any (n lo hi : Int) (w : World) :
    Calls Tryz.prog 18 #[.int .i64 n, .int .i64 lo, .int .i64 hi] w fun e w' => e = .returned (.bool (decide (lo ≤ n) && decide (n ≤ hi))) ∧ w = w' := by
  go_enter Tryz.func18, Tryz.ntmps18
  go_wp2
  all_goals go_ret
  all_goals exact ⟨ret_bool (by simp; omega), rfl⟩
def roRel (l : List Int) (w : World) (i : Value) (wr : World) : Prop := ∃ k : Nat, i = .int .i64 k ∧ k ≤ l.length ∧ (∀ j : Nat, j < k → (j : Int) ∈ l) ∧ w = wr
theorem rorder_any {S : Nat → Prop} (a : Option Addr) (c : Nat) (l : List Int) (w : World) (h : Ints S w a c l) :
    Calls Tryz.prog 27 #[.slice a l.length c] w fun e w' => e = .returned (.bool (ordB l)) ∧ w = w' := by
  have m := h.le
  have cH := Lib.hid (fun x => Has_any a c l x w h)
  clear h
  go_enter Tryz.func27, Tryz.ntmps27
  go_wp2_with fail
  go_loopw [3] (fun i wr => roRel l w i wr) (fun i _ => l.length - (intOf i).toNat)
  case atStart => exact ⟨0, rfl, Nat.zero_le _, fun j h => by omega, rfl⟩
  case round =>
    obtain ⟨k, rfl, hk, hall, rfl⟩ := hrel
    have hallH := Lib.hid hall
    clear hall
    by_cases hlt : k < l.length
    · have cc := cH.out (k : Int)
      by_cases hm : (k : Int) ∈ l
      · rw [decide_eq_true hm] at cc
        have hmH := Lib.hid hm
        have ccH := Lib.hid cc
        clear hm cc
        go_wp2_with fail
        (with_reducible refine ccH.out.mono ?_)
        rintro e w1 ⟨rfl, rfl⟩
        go_wp2_with fail
        go_roundw
        case rel => exact ⟨k + 1, by go_num, by omega, fun j hj => by
          by_cases e : j = k
          · rw [e]; exact hmH.out
          · exact hallH.out j (by omega), rfl⟩
        case measure => simp [intOf]; omega
      · rw [decide_eq_false hm] at cc
        have hf : ordB l = false := by
          rw [Bool.eq_false_iff]
          intro e
          exact hm (ordB_iff.1 e k hlt)
        have hfH := Lib.hid hf
        have ccH := Lib.hid cc
        clear hm cc hf
        go_wp2_with fail
        (with_reducible refine ccH.out.mono ?_)
        rintro e w1 ⟨rfl, rfl⟩
        go_wp2_with fail
        go_ret
        rw [hfH.out]
        exact ⟨rfl, rfl⟩
    · have ht : ordB l = true := ordB_iff.2 (fun i hi => hallH.out i (by omega))
      have htH := Lib.hid ht
      clear ht
      go_wp2_with fail
      go_ret
      rw [htH.out]
      exact ⟨rfl, rfl⟩
def vrRel (a b : Sg) (d : Ways) (w : World) (i : Value) (wr : World) : Prop := ∃ k : Nat, i = .int .i64 k ∧ k ≤ d.length ∧ wysOk a b d k = true ∧ Drew w wr
theorem drew_trans3 {a b c : World} (h : Drew a b) (k : Drew b c) : Drew a c := by obtain ⟨n, rfl⟩ := h; obtain ⟨m, rfl⟩ := k; exact Drew.mk2 _ _ _
def smRel (d e : Ways) (w : World) (i : Value) (wr : World) : Prop := ∃ k : Nat, i = .int .i64 k ∧ k ≤ d.length ∧ d.take k = e.take k ∧ Drew w wr
theorem take_oneW {d e : Ways} {k : Nat} (h1 : k < d.length) (h2 : k < e.length) (ht : d.take k = e.take k) (hx : d[k] = e[k]) : d.take (k + 1) = e.take (k + 1) := by
  rw [List.take_succ_eq_append_getElem h1, List.take_succ_eq_append_getElem h2, ht, hx]
set_option maxRecDepth 20000 in
set_option maxHeartbeats 2000000 in
theorem rSame3_any {S1 S2 : Nat → Prop} (a1 a2 : Option Addr) (c1 c2 : Nat) (d e : Ways) (w : World) (h1 : WaysL S1 w a1 c1 d) (h2 : WaysL S2 w a2 c2 e) :
    Calls Tryz.prog 8 #[.slice a1 d.length c1, .slice a2 e.length c2] w fun r w' => r = .returned (.bool (decide (d = e))) ∧ Drew w w' := by
  have m1 := h1.le
  have m2 := h2.le
  by_cases hl : d.length = e.length
  case neg =>
    have hn : ((d.length : Int) != (e.length : Int)) = true := by simp; omega
    have hf : decide (d = e) = false := decide_eq_false (fun h => hl (by rw [h]))
    rw [hf]
    clear h1 h2 hl hf
    go_enter Tryz.func8, Tryz.ntmps8
    go_wp2_with fail
    go_ret
    exact ⟨rfl, .refl _⟩
  have hn : ((d.length : Int) != (e.length : Int)) = false := by simp; omega
  have h1H := Lib.hid h1
  have h2H := Lib.hid h2
  have hlH := Lib.hid hl
  clear h1 h2 hl
  go_enter Tryz.func8, Tryz.ntmps8
  go_wp2_with fail
  go_loopw [5] (fun i wr => smRel d e w i wr) (fun i _ => d.length - (intOf i).toNat)
  case atStart => exact ⟨0, rfl, Nat.zero_le _, rfl, .refl _⟩
  case round =>
    obtain ⟨k, rfl, hk, ht, hB⟩ := hrel
    by_cases hlt : k < d.length
    · have hlt2 : k < e.length := by have := hlH.out; omega
      obtain ⟨b3, o3, ak, ck, rfl, -, qt, qa, -, hIk⟩ := (h1H.out.drew hB).way k hlt
      obtain ⟨b4, o4, al, cl, rfl, -, rt, ra, -, hIl⟩ := (h2H.out.drew hB).way k hlt2
      have hstep := take_oneW hlt hlt2 ht
      have hne : d[k] ≠ e[k] → decide (d = e) = false := fun h => decide_eq_false (fun he => h (by subst he; rfl))
      obtain ⟨x, hxk⟩ : ∃ x, d[k] = x := ⟨_, rfl⟩
      obtain ⟨y, hyk⟩ : ∃ x, e[k] = x := ⟨_, rfl⟩
      rw [hxk] at qt qa hIk hstep hne
      rw [hyk] at rt ra hIl hstep hne
      obtain ⟨T, A⟩ := x
      obtain ⟨U, C⟩ := y
      dsimp only at qt qa hIk rt ra hIl
      have mA := hIk.le
      have mC := hIl.le
      have hBH := Lib.hid hB
      by_cases hTU : T = U
      case neg =>
        have hb : (T != U) = true := by simpa using hTU
        have hf := Lib.hid (hne (fun h => hTU (Prod.mk.inj h).1))
        clear hB ht hIk hIl hstep hne hxk hyk hTU qa ra
        go_wp2_with fail
        go_quiet (fail)
        all_goals go_wp2_with fail
        all_goals go_ret
        rw [hf.out]
        exact ⟨rfl, drew_trans3 hBH.out (Drew.mk _ _)⟩
      have hb : (T != U) = false := by simpa using hTU
      have cs : ∀ m, Calls Tryz.prog 19 #[.slice ak A.length ck, .slice al C.length cl] (wr.drewN m) fun e w' => e = .returned (.bool (decide (A = C))) ∧ Drew (wr.drewN m) w' := fun m => SameInts_any ak al ck cl A C (wr.drewN m) (hIk.drewN m) (hIl.drewN m)
      by_cases hAC : A = C
      case neg =>
        simp only [decide_eq_false hAC] at cs
        have csH := Lib.hid cs
        have hf := Lib.hid (hne (fun h => hAC (Prod.mk.inj h).2))
        clear hB ht hIk hIl hstep hne hxk hyk hTU hAC cs
        go_wp2_with fail
        go_quiet ((go_at_call 19; exact quiet_drew (csH.out _)))
        all_goals go_wp2_with fail
        all_goals go_ret
        rw [hf.out]
        exact ⟨rfl, drew_trans3 hBH.out (Drew.mk _ _)⟩
      simp only [decide_eq_true hAC] at cs
      have csH := Lib.hid cs
      have hf := Lib.hid (hstep (by rw [hTU, hAC]))
      clear hB ht hIk hIl hstep hne hxk hyk hTU hAC cs
      go_wp2_with fail
      go_quiet ((go_at_call 19; exact quiet_drew (csH.out _)))
      all_goals go_wp2_with fail
      go_roundw
      case rel => exact ⟨k + 1, by go_num, by omega, hf.out, drew_trans3 hBH.out (Drew.mk _ _)⟩
      case measure => simp [intOf]; omega
    · have hkk : k = d.length := by omega
      subst hkk
      rw [List.take_length, hlH.out, List.take_length] at ht
      have hf : decide (d = e) = true := decide_eq_true ht
      have hfH := Lib.hid hf
      have hBH := Lib.hid hB
      clear hB ht hf
      go_wp2_with fail
      go_ret
      rw [hfH.out]
      exact ⟨rfl, hBH.out⟩
end Go.Proofs.YtljkojpooajlhaaGreatDoor

/- Walks: tongue.carried, Carried. -/
namespace Go.Proofs.YtljkojpooajlhaaGreatDoor
open Go Go.RowKit Go.Maps

/-- a term carried, with its error -/
def crdE (a b : Sg) (d : Ways) (t : List Int) : List Int × Int := if (validD a b d && okT a t) = true then (carT a d t, 0) else ([], 1)
end Go.Proofs.YtljkojpooajlhaaGreatDoor

/- Walks: the dictionary that changes nothing, of both sides; ways appended. -/
namespace Go.Proofs.YtljkojpooajlhaaGreatDoor
open Go Go.RowKit Go.Maps

theorem OwnW.pushU {w wr W : World} {out : Value} {l l' : Ways} (ho : OwnW wr w.heap.size out l) (hB : Below w.heap.size w wr) (hb : Below wr.heap.size wr W) {x : Int × List Int} {S1 : Nat → Prop} {a : Option Addr} {c : Nat} (hx : inRange x.1) (hI : Ints S1 W a c x.2) (hS : ∀ b, S1 b → wr.heap.size ≤ b) (hl' : l' = l ++ [x]) (hl : l.length ≤ 100000) :
    ∃ v' w', RowKit.Hid ((Builtin.append_ #[22, 22] 22 #[out, .slice (some ⟨W.heap.size, 0, none⟩) 1 1]).run Tryz.prog (W.alloc (.cells #[.int .i64 x.1, .slice a x.2.length c] 33)) = .ok v' w') ∧ RowKit.Hid (OwnW w' w.heap.size v' l') ∧ RowKit.Hid (Below w.heap.size w w') := by
  have hB2 := bcall hB hb
  have ho1 := OwnL.call ho hb
  obtain ⟨v', w', hrun, ho', hg, -⟩ := ho1.push (P := Tryz.prog) (t := 22) (ty := 22) Tryz.underlying22 infoWay rfl (vs := [.int .i64 x.1, .slice a x.2.length c]) (x := x)
    ⟨[.int .i64 x.1], [.slice a x.2.length c], rfl, ⟨rfl, hx⟩, ⟨a, c, rfl, hI.mono (fun b _ hb => ⟨trivial, fun e => by
      have := (OwnL.lt ho b e.symm).2
      have := hS b hb
      omega⟩) (.refl _ _)⟩⟩ (by omega) (by unfold big; omega) hB2.size
  exact ⟨v', w', Lib.hid hrun, Lib.hid (by rw [hl']; exact ho'), Lib.hid (hB2.grown hg hB2.size (fun k e => (ho1.lt k e).1))⟩
def retWs (w : World) (l : Ways) (e : Ending) (w' : World) : Prop := ∃ v, e = .returned v ∧ OwnW w' w.heap.size v l ∧ Below w.heap.size w w'
def itsE (s : Sg) : Ways × Int := if okSign s = true then (itsD s s.length, 0) else ([], 1)
theorem itsD_len (s : Sg) : ∀ k, (itsD s k).length = k
  | 0 => rfl
  | k + 1 => by rw [itsD, List.length_append, itsD_len s k]; rfl
theorem arAt_nat {s : Sg} (hs : okSign s = true) {k : Nat} (hk : k < s.length) : ∃ n : Nat, s[k].2 = (n : Int) ∧ n ≤ 3 ∧ (arAt s k).toNat = n ∧ arAt s k = n := by
  obtain ⟨h1, h2⟩ := ar_at hs (n := (k : Int)) (by omega) (by omega)
  have h3 := (arC_ok hs h2).2
  have e : s[k].2 = arAt s (k : Int) := by unfold arAt; rw [Int.toNat_natCast, List.getD_eq_getElem?_getD, List.getElem?_eq_getElem hk]; rfl
  exact ⟨ar s k, by rw [e, h1], h3, by omega, h1.symm⟩
def itRel (s : Sg) (w : World) (out i : Value) (wr : World) : Prop := ∃ k : Nat, i = .int .i64 k ∧ k ≤ s.length ∧ OwnW wr w.heap.size out (itsD s k) ∧ Below w.heap.size w wr
end Go.Proofs.YtljkojpooajlhaaGreatDoor

/- Walks: tongue.composed, Composed. -/
namespace Go.Proofs.YtljkojpooajlhaaGreatDoor
open Go Go.RowKit Go.Maps

/-- a way in a variable -/
def WyBox (w : World) (b : Nat) (T : Int) (v : Value) : Prop := w.heap[b]? = some (.cells #[.int .i64 T, v] 33 (0, 0))
section
variable {w w' : World} {b : Nat} {T : Int} {v : Value}
theorem WyBox.c0 (h : WyBox w b T v) : w.cell? ⟨b, 0, none⟩ = some (.int .i64 T) := by simp [World.cell?, show w.heap[b]? = _ from h]
theorem WyBox.c1 (h : WyBox w b T v) : w.cell? ⟨b, 1, none⟩ = some v := by simp [World.cell?, show w.heap[b]? = _ from h]
theorem WyBox.f1 (h : WyBox w b T v) : w.frozen? ⟨b, 1, none⟩ = false := by simp [World.frozen?, show w.heap[b]? = _ from h]
theorem WyBox.lt (h : WyBox w b T v) : b < w.heap.size := (Array.getElem?_eq_some_iff.1 h).1
theorem WyBox.set (h : WyBox w b T v) (u : Value) : WyBox (w.setCell ⟨b, 1, none⟩ u) b T u := by
  unfold WyBox
  simp [World.setCell, Array.getElem?_modify, show w.heap[b]? = _ from h]
theorem WyBox.kept {r : Option Nat} (h : WyBox w b T v) (hg : w.grownBy w' r) (hr : r ≠ some b) : WyBox w' b T v := (hg.block b h.lt (fun e => hr e.symm)).trans h
theorem WyBox.new (w : World) (T : Int) (v : Value) : WyBox (w.alloc (.cells #[.int .i64 T, v] 33)) w.heap.size T v := heap_alloc_new w _
theorem gby_setTo (w : World) (b o : Nat) (v : Value) : w.grownBy (w.setCell ⟨b, o, none⟩ v) (some b) :=
  ⟨rfl, rfl, rfl, by simp [World.setCell], fun k _ hk => Below.heap_setCell _ _ _ _ (fun e => hk (by simp [e]))⟩
end
/-- a number more in the way of a variable -/
theorem WyBox.push {W1 wr : World} {bx : Nat} {T : Int} {v : Value} {l l' : List Int} (hx : bx = W1.heap.size) (hb : WyBox wr bx T v) (ho : OwnI wr (bx + 1) v l) (hB : Below bx W1 wr) {x : Int} (hr : inRange x) (hl' : l' = l ++ [x]) (hl : l.length ≤ 1000000) :
    ∃ v' w', RowKit.Hid ((Builtin.append_ #[31, 31] 31 #[v, .slice (some ⟨wr.heap.size, 0, none⟩) 1 1]).run Tryz.prog (wr.drew.alloc (.cells #[.int .i64 x] 3)) = .ok v' w') ∧ RowKit.Hid (w'.cell? ⟨bx, 1, none⟩ = some v) ∧ RowKit.Hid (w'.frozen? ⟨bx, 1, none⟩ = false) ∧
      RowKit.Hid (WyBox (w'.setCell ⟨bx, 1, none⟩ v') bx T v' ∧ OwnI (w'.setCell ⟨bx, 1, none⟩ v') (bx + 1) v' l' ∧ Below bx W1 (w'.setCell ⟨bx, 1, none⟩ v')) := by
  have hd : Below wr.heap.size wr wr.drew := Below.drew (.refl _ _)
  have hB1 : Below bx W1 wr.drew := Below.drew hB
  have ho1 : OwnI wr.drew (bx + 1) v l := OwnL.call ho hd
  have hb1 : WyBox wr.drew bx T v := hb
  have hlt := hb.lt
  obtain ⟨v', w', hrun, ho', hg, -⟩ := ho1.push (P := Tryz.prog) (t := 31) (ty := 31) Tryz.underlying31 infoInt rfl (vs := [.int .i64 x]) (x := x) ⟨rfl, hr⟩ (by omega) (by unfold big; omega) (by show bx + 1 ≤ wr.heap.size; omega)
  have hb2 : WyBox w' bx T v := hb1.kept hg (fun e => by have := (OwnL.lt ho1 bx e).1; omega)
  have hg2 := gby_setTo w' bx 1 v'
  refine ⟨v', w', Lib.hid hrun, Lib.hid hb2.c1, Lib.hid hb2.f1, Lib.hid ⟨hb2.set v', ?_, ?_⟩⟩
  · rw [hl']
    exact OwnL.grown ho' hg2 (fun k e => by have := (OwnL.lt ho' k e).1; intro h; injection h with h; omega) (fun b hb _ => hb.elim)
  · have hsz : bx ≤ wr.drew.heap.size := by show bx ≤ wr.heap.size; omega
    have h1 : Below bx W1 w' := hB1.grown hg hsz (fun k e => by have := (OwnL.lt ho1 k e).1; omega)
    exact h1.grown hg2 (Nat.le_of_lt hb2.lt) (fun k e => by injection e with e; omega)
/-- what composing asks -/
def Fits (d e : Ways) : Prop := d.length ≤ 1000 ∧ ∀ k (hk : k < d.length), 0 ≤ d[k].1 ∧ ∃ h : d[k].1.toNat < e.length, d[k].2.length ≤ 1000 ∧ e[d[k].1.toNat].2.length = d[k].2.length ∧ ∀ x ∈ e[d[k].1.toNat].2, 0 ≤ x ∧ x < d[k].2.length
theorem fits_valid {a b c : Sg} {d e : Ways} (hd : validD a b d = true) (he : validD b c e = true) : Fits d e := by
  obtain ⟨g1, -, g3, -⟩ := validD_parts hd
  obtain ⟨h1, -, h3, -⟩ := validD_parts he
  have hl := okSign_len g1
  refine ⟨by omega, fun k hk => ?_⟩
  have hx := validD_at hd (i := k) (by omega)
  rw [List.getD_eq_getElem?_getD, List.getElem?_eq_getElem hk, Option.getD_some] at hx
  obtain ⟨x1, x2, x3, x4, x5⟩ := hx
  have hy := validD_way he x1 x2
  have hlt : d[k].1.toNat < e.length := by omega
  rw [List.getD_eq_getElem?_getD, List.getElem?_eq_getElem hlt, Option.getD_some] at hy
  obtain ⟨y1, y2, y3, y4, y5⟩ := hy
  obtain ⟨n, e1, e2, e3, e4⟩ := arAt_nat g1 (k := k) (by omega)
  refine ⟨x1, hlt, by omega, by omega, fun x hx => ?_⟩
  have := mem_ascL.1 (y5.mem_iff.1 hx)
  omega
theorem compA_len (x l : List Int) : ∀ k, (compA x l k).length = k
  | 0 => rfl
  | k + 1 => by rw [compA, List.length_append, compA_len x l k]; rfl
def cmRel (d e : Ways) (w : World) (out i : Value) (wr : World) : Prop := ∃ k : Nat, i = .int .i64 k ∧ k ≤ d.length ∧ OwnW wr w.heap.size out (compD d e k) ∧ Below w.heap.size w wr
def caRel (A L : List Int) (T : Int) (W1 : World) (i : Value) (wr : World) : Prop := ∃ (q : Nat) (a : Option Addr) (c : Nat), i = .int .i64 q ∧ q ≤ L.length ∧ WyBox wr W1.heap.size T (.slice a q c) ∧ OwnI wr (W1.heap.size + 1) (.slice a q c) (compA A L q) ∧ Below W1.heap.size W1 wr
def cmpE (a b c : Sg) (d e : Ways) : Ways × Int := if (validD a b d && validD b c e) = true then (compD d e d.length, 0) else ([], 1)
end Go.Proofs.YtljkojpooajlhaaGreatDoor
