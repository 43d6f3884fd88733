/- The proof of a statement, some of its texts joined in build order: part T. -/
import Derived.Test.YtfcbdlfanmddbaaGreatDoorMsA
import Derived.Test.YtfcbdlfanmddbaaGreatDoorBld
import Derived.BigQuiet
/- A tree's text read back: what the read proof has and says. No program is named. -/
namespace Go.Proofs.YtfcbdlfanmddbaaGreatDoor

def insT : List Stp → Tr → List Stp × Nat
  | p, .g n => addP p (1, (n : Int), 0)
  | p, .d a b => addP (insT (insT p a).1 b).1 (2, ((insT p a).2 : Int), ((insT (insT p a).1 b).2 : Int))
theorem untR_cite {G : Int} {n : Nat} (hn : (n : Int) < G) (h100 : n < 100) (r : List UInt8) (st : List (Option Nat)) (p : List Stp) :
    untR G ((Tr.g n).text ++ r) st p none = untR G r (closeP st (addP p (1, (n : Int), 0)).1 (addP p (1, (n : Int), 0)).2).1 (closeP st (addP p (1, (n : Int), 0)).1 (addP p (1, (n : Int), 0)).2).2.1 (closeP st (addP p (1, (n : Int), 0)).1 (addP p (1, (n : Int), 0)).2).2.2 := by
  obtain ⟨h1, h2, h3⟩ := num_digs h100
  rw [Tr.text, digs, List.cons_append, List.cons_append, List.cons_append, List.nil_append, untR_g, if_pos ⟨h1, h2, by rw [h3]; exact hn⟩, h3]
theorem untR_text {G : Int} : ∀ (t : Tr), (∀ n ∈ t.leaves, (n : Int) < G ∧ n < 100) → ∀ (r : List UInt8) (st : List (Option Nat)) (p : List Stp),
    untR G (t.text ++ r) st p none = untR G r (closeP st (insT p t).1 (insT p t).2).1 (closeP st (insT p t).1 (insT p t).2).2.1 (closeP st (insT p t).1 (insT p t).2).2.2
  | .g n, h, r, st, p => untR_cite (h n (by simp [Tr.leaves])).1 (h n (by simp [Tr.leaves])).2 r st p
  | .d a b, h, r, st, p => by
    rw [Tr.text, List.cons_append, untR_D, List.append_assoc, untR_text a (fun n hn => h n (by simp [Tr.leaves, hn])), closeP]
    simp only
    rw [untR_text b (fun n hn => h n (by simp [Tr.leaves, hn])), closeP]
    rfl
structure InsT (G : Int) (p : List Stp) (t : Tr) (p' : List Stp) (k : Nat) : Prop where
  nd : p'.Nodup
  ok : okSteps G 0 p' = true
  pre : p <+: p'
  lt : k < p'.length
  tr : (trees p').getD k (.g 0) = t
  all : ∀ u ∈ trees p', u ∈ trees p ∨ u ∈ t.subs
  new : t ∉ trees p → k + 1 = p'.length
theorem Tr.subs_le {u : Tr} : ∀ {t : Tr}, u ∈ t.subs → u.text.length ≤ t.text.length
  | .g n, h => by rw [Tr.subs, List.mem_singleton] at h; rw [h]; exact Nat.le_refl _
  | .d a b, h => by
    rw [Tr.subs, List.mem_cons, List.mem_append] at h
    rcases h with h | h | h
    · rw [h]; exact Nat.le_refl _
    · have := Tr.subs_le h; simp only [Tr.text, List.length_cons, List.length_append]; omega
    · have := Tr.subs_le h; simp only [Tr.text, List.length_cons, List.length_append]; omega
theorem pre_trees {p p' : List Stp} (h : p <+: p') : ∃ us, trees p' = trees p ++ us := by
  obtain ⟨q, rfl⟩ := h
  exact trees_more q p
theorem insT_spec {G : Int} : ∀ (t : Tr) (p : List Stp), (∀ n ∈ t.leaves, (n : Int) < G) → p.Nodup → okSteps G 0 p = true → InsT G p t (insT p t).1 (insT p t).2
  | .g n, p, h, nd, ok => by
    have hS := addP_spec nd ok (right_cite (i := p.length) (h n (by simp [Tr.leaves])))
    have htr := hS.tr
    rw [trS_cite] at htr
    exact ⟨hS.nd, hS.ok, hS.pre, hS.lt, htr, fun u hu => by
      rcases hS.all u hu with k | k
      · exact .inl k
      · rw [trS_cite] at k; exact .inr (by rw [k]; simp [Tr.subs]), fun hn => hS.new fun hm => hn (by have := mem_trees ok hm; rwa [trS_cite] at this)⟩
  | .d a b, p, h, nd, ok => by
    have ha := insT_spec a p (fun n hn => h n (by simp [Tr.leaves, hn])) nd ok
    have hb := insT_spec b (insT p a).1 (fun n hn => h n (by simp [Tr.leaves, hn])) ha.nd ha.ok
    rw [insT]
    have hka : (insT p a).2 < (insT (insT p a).1 b).1.length := Nat.lt_of_lt_of_le ha.lt hb.pre.length_le
    have hS := addP_spec hb.nd hb.ok (right_det (G := G) hka hb.lt)
    obtain ⟨us, hus⟩ := pre_trees hb.pre
    have hta : (trees (insT (insT p a).1 b).1).getD (insT p a).2 (.g 0) = a := by
      rw [hus, getD_more _ (by rw [trees_len]; exact ha.lt)]; exact ha.tr
    have hx : trS (trees (insT (insT p a).1 b).1) (2, ((insT p a).2 : Int), ((insT (insT p a).1 b).2 : Int)) = .d a b := by rw [trS_det, hta, hb.tr]
    have htr := hS.tr
    rw [hx] at htr
    refine ⟨hS.nd, hS.ok, ha.pre.trans (hb.pre.trans hS.pre), hS.lt, htr, fun u hu => ?_, fun hn => hS.new fun hm => ?_⟩
    rotate_left
    · have hm := mem_trees hb.ok hm
      rw [hx] at hm
      rcases hb.all _ hm with k | k
      · rcases ha.all _ k with k | k
        · exact hn k
        · have := Tr.subs_le k; simp only [Tr.text, List.length_cons, List.length_append] at this; omega
      · have := Tr.subs_le k; simp only [Tr.text, List.length_cons, List.length_append] at this; omega
    rcases hS.all u hu with k | k
    · rcases hb.all u k with k | k
      · rcases ha.all u k with k | k
        · exact .inl k
        · right; simp [Tr.subs, k]
      · right; simp [Tr.subs, k]
    · rw [hx] at k; right; rw [k]; exact Tr.sub_self _

/-- the tree's leaves are givens -/
theorem leaves_ok {G : Int} {p : List Stp} (h : okSteps G 0 p = true) : ∀ (k : Nat) (_ : k < p.length), ∀ n ∈ ((trees p).getD k (.g 0)).leaves, (n : Int) < G := by
  intro k
  induction k using Nat.strongRecOn with
  | _ k ih =>
    intro hk n hn
    rw [trees_at h k hk] at hn
    have hr := okS_get p 0 k hk h
    rw [Nat.zero_add] at hr
    unfold trS at hn
    by_cases h2 : p[k].1 = 2
    · obtain ⟨-, d1, d2, d3, d4⟩ := rightB_detach hr (by omega)
      rw [if_pos h2, Tr.leaves, List.mem_append] at hn
      rcases hn with hn | hn
      · exact ih _ (by omega) (by omega) n hn
      · exact ih _ (by omega) (by omega) n hn
    · have h1 : p[k].1 = 1 := by
        rcases Classical.em (p[k].1 = 1) with e | e
        · exact e
        · exact (h2 (rightB_detach hr e).1).elim
      obtain ⟨c1, c2, -⟩ := rightB_cite hr h1
      rw [if_neg h2, Tr.leaves, List.mem_singleton] at hn
      subst hn; omega
/-- which steps are needed by the step k -/
inductive Nd (p : List Stp) : Nat → Nat → Prop where
  | self (k : Nat) : Nd p k k
  | a {k j : Nat} (hk : k < p.length) (h2 : p[k].1 = 2) (h : Nd p p[k].2.1.toNat j) : Nd p k j
  | b {k j : Nat} (hk : k < p.length) (h2 : p[k].1 = 2) (h : Nd p p[k].2.2.toNat j) : Nd p k j
/-- each part of a step's tree is the tree of a step that it needs -/
theorem subs_nd {G : Int} {p : List Stp} (h : okSteps G 0 p = true) : ∀ (k : Nat) (_ : k < p.length), ∀ u ∈ ((trees p).getD k (.g 0)).subs, ∃ j, ∃ _ : j < p.length, Nd p k j ∧ (trees p).getD j (.g 0) = u := by
  intro k
  induction k using Nat.strongRecOn with
  | _ k ih =>
    intro hk u hu
    have ht := trees_at h k hk
    have hr := okS_get p 0 k hk h
    rw [Nat.zero_add] at hr
    unfold trS at ht
    by_cases h2 : p[k].1 = 2
    · obtain ⟨-, d1, d2, d3, d4⟩ := rightB_detach hr (by omega)
      rw [if_pos h2] at ht
      rw [ht, Tr.subs, List.mem_cons, List.mem_append] at hu
      rcases hu with hu | hu | hu
      · exact ⟨k, hk, .self k, by rw [hu, ht]⟩
      · obtain ⟨j, hj, n1, n2⟩ := ih _ (by omega) (by omega) u hu
        exact ⟨j, hj, .a hk h2 n1, n2⟩
      · obtain ⟨j, hj, n1, n2⟩ := ih _ (by omega) (by omega) u hu
        exact ⟨j, hj, .b hk h2 n1, n2⟩
    · rw [if_neg h2] at ht
      rw [ht, Tr.subs, List.mem_singleton] at hu
      exact ⟨k, hk, .self k, by rw [hu, ht]⟩

/-! ### what trees say -/
noncomputable def sayT (s : Sg) (g : List (List Int)) : Tr → List Int × Int
  | .g n => (canon (g.getD n []), 0)
  | .d a b => detE s (sayT s g a).1 (sayT s g b).1
theorem stepE_tree {s : Sg} {g l : List (List Int)} {ts : List Tr} {x : Stp} {G : Int} (hx : rightB G ts.length x = true) (hl : l = ts.map (fun t => (sayT s g t).1)) : stepE s g l x = sayT s g (trS ts x) := by
  unfold stepE trS
  by_cases h1 : x.1 = 1
  · rw [if_pos h1, if_neg (by omega)]; rfl
  · obtain ⟨h2, d1, d2, d3, d4⟩ := rightB_detach hx h1
    rw [if_neg h1, if_pos h2, sayT, hl]
    have e : ∀ n, n < ts.length → (ts.map (fun t => (sayT s g t).1)).getD n [] = (sayT s g (ts.getD n (.g 0))).1 := fun n hn => by
      rw [List.getD_eq_getElem?_getD, List.getD_eq_getElem?_getD, List.getElem?_map, List.getElem?_eq_getElem hn]; rfl
    rw [e _ (by omega), e _ (by omega)]
theorem trL_pre : ∀ (p : List Stp) (ts : List Tr), ts <+: trL p ts
  | [], _ => List.prefix_refl _
  | _ :: p, _ => (List.prefix_append _ _).trans (trL_pre p _)
theorem runL_of {s : Sg} {g : List (List Int)} {G : Int} : ∀ (p : List Stp) (ts : List Tr), okSteps G ts.length p = true → (∀ t ∈ trL p ts, (sayT s g t).2 = 0) → runL s g p (ts.map (fun t => (sayT s g t).1)) = ((trL p ts).map (fun t => (sayT s g t).1), 0)
  | [], ts, _, _ => rfl
  | x :: p, ts, h, ha => by
    simp only [okSteps, Bool.and_eq_true] at h
    have hx : (sayT s g (trS ts x)).2 = 0 := ha _ ((trL_pre p (ts ++ [trS ts x])).subset (by simp))
    rw [runL, trL, stepE_tree h.1 rfl, if_pos hx]
    have ih := runL_of p (ts ++ [trS ts x]) (by rw [List.length_append, List.length_singleton]; exact h.2) ha
    rw [List.map_append, List.map_singleton] at ih
    exact ih
theorem runL_all {s : Sg} {g : List (List Int)} {G : Int} : ∀ (p : List Stp) (ts : List Tr), okSteps G ts.length p = true → (∀ t ∈ ts, (sayT s g t).2 = 0) → (runL s g p (ts.map (fun t => (sayT s g t).1))).2 = 0 → ∀ t ∈ trL p ts, (sayT s g t).2 = 0
  | [], ts, _, ha, _ => ha
  | x :: p, ts, h, ha, hz => by
    simp only [okSteps, Bool.and_eq_true] at h
    rw [runL, stepE_tree h.1 rfl] at hz
    by_cases hx : (sayT s g (trS ts x)).2 = 0
    · rw [if_pos hx] at hz
      rw [trL]
      refine runL_all p (ts ++ [trS ts x]) (by rw [List.length_append, List.length_singleton]; exact h.2) (fun t ht => ?_) (by rw [List.map_append, List.map_singleton]; exact hz)
      rw [List.mem_append, List.mem_singleton] at ht
      rcases ht with ht | ht
      · exact ha t ht
      · rw [ht]; exact hx
    · rw [if_neg hx] at hz; exact (hx hz).elim
/-- different steps have different trees -/
theorem trees_inj {G : Int} {p : List Stp} (h : okSteps G 0 p = true) (nd : p.Nodup) : ∀ (i j : Nat) (_ : i < p.length) (_ : j < p.length), (trees p).getD i (.g 0) = (trees p).getD j (.g 0) → i = j := by
  intro i
  induction i using Nat.strongRecOn with
  | _ i ih =>
    intro j hi hj e
    rw [trees_at h i hi, trees_at h j hj] at e
    have hri := okS_get p 0 i hi h
    have hrj := okS_get p 0 j hj h
    rw [Nat.zero_add] at hri hrj
    have he : p[i] = p[j] := by
      unfold trS at e
      by_cases h2 : p[i].1 = 2
      · obtain ⟨-, d1, d2, d3, d4⟩ := rightB_detach hri (by omega)
        rw [if_pos h2] at e
        by_cases k2 : p[j].1 = 2
        · obtain ⟨-, e1, e2, e3, e4⟩ := rightB_detach hrj (by omega)
          rw [if_pos k2] at e
          simp only [Tr.d.injEq] at e
          have q1 := ih _ (by omega) _ (by omega) (by omega) e.1
          have q2 := ih _ (by omega) _ (by omega) (by omega) e.2
          exact Prod.ext (by omega) (Prod.ext (by omega) (by omega))
        · rw [if_neg k2] at e; cases e
      · rw [if_neg h2] at e
        by_cases k2 : p[j].1 = 2
        · rw [if_pos k2] at e; cases e
        · rw [if_neg k2] at e
          simp only [Tr.g.injEq] at e
          have h1 : p[i].1 = 1 := Classical.byContradiction fun k => h2 (rightB_detach hri k).1
          have k1 : p[j].1 = 1 := Classical.byContradiction fun k => k2 (rightB_detach hrj k).1
          obtain ⟨c1, -, c2⟩ := rightB_cite hri h1
          obtain ⟨c3, -, c4⟩ := rightB_cite hrj k1
          exact Prod.ext (by omega) (Prod.ext (by omega) (by omega))
    exact (List.getElem_inj nd).1 he
theorem trees_nodup {G : Int} {p : List Stp} (h : okSteps G 0 p = true) (nd : p.Nodup) : (trees p).Nodup := by
  unfold List.Nodup
  rw [List.pairwise_iff_getElem]
  intro i j hi hj hij e
  have hi' := hi
  have hj' := hj
  rw [trees_len] at hi' hj'
  have := trees_inj h nd i j hi' hj' (by rw [List.getD_eq_getElem?_getD, List.getD_eq_getElem?_getD, List.getElem?_eq_getElem hi, List.getElem?_eq_getElem hj, e])
  omega
theorem nodup_le {α : Type} [DecidableEq α] : ∀ {l m : List α}, l.Nodup → (∀ x ∈ l, x ∈ m) → l.length ≤ m.length
  | [], m, _, _ => Nat.zero_le _
  | x :: l, m, hn, hs => by
    rw [List.nodup_cons] at hn
    have hx := hs x (by simp)
    have ih := nodup_le (m := m.erase x) hn.2 (fun y hy => (List.mem_erase_of_ne (fun e => hn.1 (by rw [← e]; exact hy))).2 (hs y (by simp [hy])))
    rw [List.length_erase_of_mem hx] at ih
    have := List.length_pos_of_mem hx
    rw [List.length_cons]; omega
theorem last_tree {p : List Stp} (_ : 1 ≤ p.length) : (trees p).getLastD (.g 0) = (trees p).getD (p.length - 1) (.g 0) := by
  rw [List.getLastD_eq_getLast?, List.getLast?_eq_getElem?, trees_len, List.getD_eq_getElem?_getD]
/-- the text of a proof's tree, read back -/
theorem unt_tree {G : Int} {p : List Stp} (hG : G ≤ 100) (h : okSteps G 0 p = true) (h1 : 1 ≤ p.length) (h60 : p.length ≤ 60) :
    ∃ q, untR G ((trees p).getLastD (.g 0)).text [] [] none = (q, 0) ∧ q.Nodup ∧ okSteps G 0 q = true ∧ 1 ≤ q.length ∧ q.length ≤ 60 ∧ (trees q).getLastD (.g 0) = (trees p).getLastD (.g 0) ∧ ∀ u ∈ trees q, u ∈ ((trees p).getLastD (.g 0)).subs := by
  have hl := leaves_ok h (p.length - 1) (by omega)
  have hs := subs_nd h (p.length - 1) (by omega)
  rw [← last_tree h1] at hl hs
  generalize (trees p).getLastD (.g 0) = t at hl hs
  have hI := insT_spec (G := G) t [] hl .nil rfl
  have ht := untR_text (G := G) t (fun n hn => ⟨hl n hn, by have := hl n hn; omega⟩) [] [] []
  rw [List.append_nil, closeP, untR_end] at ht
  have hall : ∀ u ∈ trees (insT [] t).1, u ∈ t.subs := fun u hu => by
    rcases hI.all u hu with k | k
    · cases k
    · exact k
  have hlen : (insT [] t).1.length ≤ 60 := by
    open Classical in
    have := nodup_le (m := trees p) (trees_nodup hI.ok hI.nd) (fun u hu => by
      obtain ⟨j, hj, -, e⟩ := hs u (hall u hu)
      rw [← e, List.getD_eq_getElem?_getD, List.getElem?_eq_getElem (by rw [trees_len]; exact hj)]
      exact List.getElem_mem _)
    rw [trees_len, trees_len] at this; omega
  rw [if_pos hlen] at ht
  have hk := hI.new (by intro h; cases h)
  have h1' : 1 ≤ (insT [] t).1.length := by omega
  refine ⟨_, ht, hI.nd, hI.ok, h1', hlen, ?_, hall⟩
  rw [last_tree h1', ← hk, Nat.add_sub_cancel]; exact hI.tr
/-- a tree read back says what the proof says -/
theorem says_tree {s : Sg} {g : List (List Int)} {p q : List Stp} (hp : (saysE s g p).2 = 0) (hq : okSteps g.length 0 q = true) (h1 : 1 ≤ q.length) (h60 : q.length ≤ 60)
    (hl : (trees q).getLastD (.g 0) = (trees p).getLastD (.g 0)) (ha : ∀ u ∈ trees q, u ∈ ((trees p).getLastD (.g 0)).subs) : saysE s g q = saysE s g p := by
  unfold saysE at hp ⊢
  by_cases hx : askedB s g p = true
  · rw [if_pos hx] at hp ⊢
    by_cases hz : (runL s g p []).2 = 0
    · rw [if_pos hz]
      simp only [askedB, Bool.and_eq_true] at hx
      obtain ⟨ok, p1, p2⟩ := validP_parts hx.2
      have hq' : askedB s g q = true := by
        simp only [askedB, Bool.and_eq_true]
        refine ⟨hx.1, ?_⟩
        unfold validP
        rw [hq, decide_eq_true h1, decide_eq_true h60]; rfl
      have hall := runL_all (s := s) (g := g) p [] ok (fun t h => by cases h) hz
      have hp2 := runL_of (s := s) (g := g) p [] ok hall
      have hsub := subs_nd ok (p.length - 1) (by omega)
      rw [← last_tree p1] at hsub
      have hq2 := runL_of (s := s) (g := g) q [] hq (fun t ht => by
        obtain ⟨j, hj, -, e⟩ := hsub t (ha t ht)
        refine hall t ?_
        rw [← e, List.getD_eq_getElem?_getD]
        change (trees p)[j]?.getD (.g 0) ∈ trees p
        rw [List.getElem?_eq_getElem (by rw [trees_len]; exact hj)]
        exact List.getElem_mem _)
      rw [List.map_nil] at hp2 hq2
      rw [if_pos hq', hq2, hp2]
      simp only [if_true]
      have e : ∀ r : List Stp, 1 ≤ r.length → ((trL r []).map (fun t => (sayT s g t).1)).getLastD [] = (sayT s g ((trees r).getLastD (.g 0))).1 := fun r hr => by
        have hr' : 1 ≤ (trees r).length := by rw [trees_len]; exact hr
        change ((trees r).map (fun t => (sayT s g t).1)).getLastD [] = _
        rw [List.getLastD_eq_getLast?, List.getLastD_eq_getLast?, List.getLast?_map, List.getLast?_eq_getElem?, List.getElem?_eq_getElem (by omega)]
        rfl
      rw [e q h1, e p p1, hl]
    · rw [if_neg hz] at hp; exact (hz hp).elim
  · rw [if_neg hx] at hp; cases hp
/-- what Tree answers -/
def treeE (G : Int) (p : List Stp) : List UInt8 × Int :=
  if proofB G p = true then (if ((trees p).getLastD (.g 0)).text.length ≤ 65536 then (((trees p).getLastD (.g 0)).text, 0) else ([], 3)) else ([], 1)
/-- a text that is read is the tree of what is read -/
theorem tree_unt {G : Int} {t : ByteArray} {q : List Stp} (h : untE G t = (q, 0)) : treeE G q = (t.data.toList, 0) := by
  unfold untE at h
  by_cases hG : 0 ≤ G ∧ G ≤ 60
  · rw [if_pos hG] at h
    by_cases hs : t.size ≤ 65536
    · rw [if_pos hs] at h
      obtain ⟨k, hJ, h60⟩ := untR_ok _ _ _ _ _ _ (Nat.le_refl _) (.start G) h
      obtain ⟨-, k1, k2⟩ := hJ.whole k rfl
      have hp : proofB G q = true := by
        unfold proofB validP
        rw [decide_eq_true hG.1, decide_eq_true hG.2, hJ.ok, decide_eq_true h60, decide_eq_true (show 1 ≤ q.length by omega)]; rfl
      rw [List.nil_append] at k2
      have hl : (trees q).getLastD (.g 0) = (trees q).getD k (.g 0) := by rw [last_tree (by omega), show q.length - 1 = k by omega]
      unfold treeE
      rw [if_pos hp, hl, ← k2, if_pos (by rw [Array.length_toList]; exact hs)]
    · rw [if_neg hs] at h; cases h
  · rw [if_neg hG] at h; cases h
end Go.Proofs.YtfcbdlfanmddbaaGreatDoor

/- Walks: the closure of kernel.Tree, which writes a step's tree to a builder. -/
namespace Go.Proofs.YtfcbdlfanmddbaaGreatDoor
open Go Go.RowKit

theorem tabAt : ∃ g, Tryz.prog.globalNamed tabName = some g := Option.isSome_iff_exists.1 (by kernel_rfl)
theorem TabW.below {w w' : World} (h : TabW w) (hb : Below w.heap.size w w') : TabW w' := by
  obtain ⟨g, hgn⟩ := tabAt
  unfold TabW Lib.TabIs World.var? at h ⊢
  rw [hgn] at h ⊢
  simp only [Option.bind_some] at h ⊢
  have hlt : g < w.heap.size := by
    rcases Nat.lt_or_ge g w.heap.size with h' | h'
    · exact h'
    · rw [Array.getElem?_eq_none h'] at h; cases h
  rw [hb.block g hlt]
  exact h
theorem itoa3_digs : ∀ n : Nat, n < 60 → Lib.itoa ((100 + n : Nat) : Int) = 49 :: digs n := by
  intro n hn
  rw [Lib.itoa_nonneg]
  have h1 : ∀ u : Nat, u < 10 → Lib.decDigits u = [UInt8.ofNat (48 + u)] := fun u hu => by rw [Lib.decDigits, dif_pos hu]
  have h2 : ∀ u : Nat, ¬ u < 10 → Lib.decDigits u = Lib.decDigits (u / 10) ++ [UInt8.ofNat (48 + u % 10)] := fun u hu => by rw [Lib.decDigits, dif_neg hu]
  rw [h2 _ (by omega), h2 _ (by omega), h1 _ (by omega)]
  unfold digs
  have e1 : (100 + n) / 10 / 10 = 1 := by omega
  have e2 : (100 + n) / 10 % 10 = n / 10 := by omega
  have e3 : (100 + n) % 10 = n % 10 := by omega
  rw [e1, e2, e3]
  rfl
theorem cite_text (n : Nat) : (⟨(49 :: digs n).toArray⟩ : ByteArray).size = 3 := rfl
theorem cite_bytes (n : Nat) : ((⟨#[103]⟩ : ByteArray) ++ (⟨(49 :: digs n).toArray⟩ : ByteArray).extract 1 3).data.toList = 103 :: digs n := by
  rw [ByteArray.data_append, ByteArray.data_extract]
  simp [digs]

abbrev treeV (bs b bf : Nat) : Value := .func (.func 70) #[] #[.pointer (some ⟨bs, 0, none⟩), .pointer (some ⟨b, 0, none⟩), .pointer (some ⟨bf, 0, none⟩)]
structure TCx (wI W : World) (bs b bf : Nat) (l : List UInt8) : Prop where
  bel : Below wI.heap.size wI W
  fn : W.heap[bf]? = some (.cells #[treeV bs b bf] 84 (0, 0))
  bld : IsBld W wI.heap.size b l
section
variable {wI W W' : World} {bs b bf : Nat} {l l' : List UInt8}
theorem TCx.step (h : TCx wI W bs b bf l) (hbf : bf ≠ b) (h1 : IsBld W' wI.heap.size b l') (h2 : Below wI.heap.size W W') (h3 : KeepT b W W') : TCx wI W' bs b bf l' := ⟨h.bel.trans h2, h3 bf _ _ _ hbf (by decide) h.fn, h1⟩
theorem TCx.new (h : TCx wI W bs b bf l) (hb : Below W.heap.size W W') : TCx wI W' bs b bf l := ⟨bcall h.bel hb, (hb.block bf (Array.getElem?_eq_some_iff.1 h.fn).1).trans h.fn, h.bld.below hb⟩
theorem TCx.cell (h : TCx wI W bs b bf l) : W.cell? ⟨bf, 0, none⟩ = some (treeV bs b bf) := by rw [Lib.cell_of_heap h.fn]; rfl
end
theorem stp_cells' {W : World} {b : Nat} {x1 x2 x3 : Int} (h : W.heap[b]? = some (.cells #[.int .i64 x1, .int .i64 x2, .int .i64 x3] 79 (0, 0))) : W.cell? ⟨b, 0, none⟩ = some (.int .i64 x1) ∧ W.cell? ⟨b, 1, none⟩ = some (.int .i64 x2) ∧ W.cell? ⟨b, 2, none⟩ = some (.int .i64 x3) := by simp [World.cell?, h]
set_option maxRecDepth 100000 in
set_option maxHeartbeats 4000000 in
theorem treeRec_any {S : Nat → Prop} {G : Int} (wI : World) (a : Option Addr) (c : Nat) (p : List Stp) (bs b bf : Nat) (hS : Steps S wI a c p) (hbox : wI.cell? ⟨bs, 0, none⟩ = some (.slice a p.length c)) (htab : TabW wI) (ok : okSteps G 0 p = true) (hG : G ≤ 60) (hbf : bf ≠ b) :
    ∀ (i : Nat) (_ : i < p.length) (l : List UInt8) (W : World), TCx wI W bs b bf l → l.length + ((trees p).getD i (.g 0)).text.length ≤ 65536 →
      Calls Tryz.prog 70 #[.int .i64 i, .pointer (some ⟨bs, 0, none⟩), .pointer (some ⟨b, 0, none⟩), .pointer (some ⟨bf, 0, none⟩)] W fun e w' => e = .returned (.tuple #[]) ∧ IsBld w' wI.heap.size b (l ++ ((trees p).getD i (.g 0)).text) ∧ Below wI.heap.size W w' ∧ KeepT b W w' := by
  intro i
  induction i using Nat.strongRecOn with
  | ind i ih =>
  intro hi l W hT hlen
  have hSW := hS.below hT.bel
  have hl := hSW.le
  obtain ⟨bp, off, hae, -, r0, r1, r2⟩ := Sl.stp hSW i hi
  have hright := okS_get p 0 i hi ok
  rw [Nat.zero_add] at hright
  have htr := trees_at ok i hi
  rw [htr] at hlen ⊢
  subst hae
  obtain ⟨x, hxe⟩ : ∃ x, p[i] = x := ⟨_, rfl⟩
  rw [hxe] at r0 r1 r2 hright hlen ⊢
  obtain ⟨x1, x2, x3⟩ := x
  simp only at r0 r1 r2
  have qb := cell_later hT.bel hbox
  have hblt := hT.bld.lt
  have hWsz := hT.bel.size
  obtain ⟨W0, hW0⟩ : ∃ W0, W.alloc (.cells #[.int .i64 x1, .int .i64 x2, .int .i64 x3] 79) = W0 := ⟨_, rfl⟩
  have hb0 : Below W.heap.size W W0 := by rw [← hW0]; exact below1 W _
  have hX : W0.heap[W.heap.size]? = some (.cells #[.int .i64 x1, .int .i64 x2, .int .i64 x3] 79 (0, 0)) := by rw [← hW0]; exact heap_alloc_new W _
  have hbx : W.heap.size ≠ b := by omega
  have hT0 := hT.new hb0
  have hK0 : KeepT b W W0 := KeepT.of_below hb0
  have hB0 : Below wI.heap.size W W0 := hb0.mono hWsz
  obtain ⟨q1, q2, q3⟩ := stp_cells' hX
  by_cases h1 : x1 = 1
  · obtain ⟨c1, c2, c3⟩ := rightB_cite hright h1
    simp only at c1 c2
    subst h1
    obtain ⟨n, rfl⟩ : ∃ n : Nat, x2 = n := ⟨x2.toNat, by omega⟩
    have htx : (trS (trees p) (1, (n : Int), x3)).text = 103 :: digs n := by unfold trS; simp [Tr.text]
    rw [htx] at hlen ⊢
    have hlen' : l.length + 3 ≤ 65536 := by simpa [digs] using hlen
    have ht0 := TabW.below htab hT0.bel
    have v1 := Itoa_any (100 + n : Int) (by omega) (by omega) W0 ht0
    have hit : Lib.itoa (100 + (n : Int)) = 49 :: digs n := by rw [show (100 + n : Int) = ((100 + n : Nat) : Int) by omega]; exact itoa3_digs n (by omega)
    rw [hit] at v1
    obtain ⟨s, hs⟩ : ∃ s : ByteArray, (⟨(49 :: digs n).toArray⟩ : ByteArray) = s := ⟨_, rfl⟩
    have hss : s.size = 3 := by rw [← hs]; rfl
    have hsb : ((⟨#[103]⟩ : ByteArray) ++ s.extract 1 3).data.toList = 103 :: digs n := by rw [← hs]; exact cite_bytes n
    rw [hs] at v1
    have v1H := Lib.hid v1
    have e100 : IntKind.i64.wrap (100 + (n : Int)) = ((100 + n : Nat) : Int) := by rw [IntWalk.i64_in _ (by omega)]; omega
    have hT0H := Lib.hid hT0
    have hK0H := Lib.hid hK0
    have hB0H := Lib.hid hB0
    have hsbH := Lib.hid hsb
    clear ih hS hbox htab ok hT hSW hright htr hxe htx ht0 v1 hs hX hb0 hT0 hK0 hB0 hsb hlen hit
    go_enter Tryz.func70, Tryz.ntmps70
    go_wp2_with fail
    try rw [hW0]
    refine v1H.out.mono ?_
    rintro e w1 ⟨rfl, hb1⟩
    have hT1 := hT0H.out.new hb1
    have hT1H := Lib.hid hT1
    have hB1H := Lib.hid (hB0H.out.trans (hb1.mono hT0H.out.bel.size))
    have hK1H := Lib.hid (hK0H.out.trans (KeepT.of_below hb1))
    clear hT1 hT0H hB0H hK0H q1 q2 q3 hb1
    go_wp2_with fail
    refine (WriteString_any wI.heap.size b l _ w1 hT1H.out.bld (by rw [Lib.size_eq, hsbH.out]; show l.length + 3 ≤ _; omega) hT1H.out.bel.size).mono ?_
    rintro e w2 ⟨rfl, b1, b2, b3⟩
    rw [hsbH.out] at b1
    have b1H := Lib.hid b1
    have hB2H := Lib.hid (hB1H.out.trans b2)
    have hK2H := Lib.hid (hK1H.out.trans b3)
    clear b1 b2 b3 hT1H hB1H hK1H
    go_wp2_with fail
    go_end0
    exact ⟨rfl, b1H.out, hB2H.out, hK2H.out⟩
  · obtain ⟨d0, d1, d2, d3, d4⟩ := rightB_detach hright (by simpa using h1)
    simp only at d0 d1 d2 d3 d4
    subst d0
    obtain ⟨m, rfl⟩ : ∃ m : Nat, x2 = m := ⟨x2.toNat, by omega⟩
    obtain ⟨k, rfl⟩ : ∃ k : Nat, x3 = k := ⟨x3.toNat, by omega⟩
    have htx : (trS (trees p) (2, (m : Int), (k : Int))).text = 68 :: (((trees p).getD m (.g 0)).text ++ ((trees p).getD k (.g 0)).text) := by unfold trS; simp [Tr.text]
    rw [htx] at hlen ⊢
    obtain ⟨tm, htm⟩ : ∃ t, ((trees p).getD m (.g 0)).text = t := ⟨_, rfl⟩
    obtain ⟨tk, htk⟩ : ∃ t, ((trees p).getD k (.g 0)).text = t := ⟨_, rfl⟩
    have ih1 := ih m (by omega) (by omega) (l ++ [68])
    have ih2 := ih k (by omega) (by omega) (l ++ [68] ++ tm)
    rw [htm] at ih1 hlen ⊢
    rw [htk] at ih2 hlen ⊢
    simp only [List.length_cons, List.length_append, List.length_nil] at hlen ih1 ih2
    have ih1H := Lib.hid ih1
    have ih2H := Lib.hid ih2
    have hT0H := Lib.hid hT0
    have hK0H := Lib.hid hK0
    have hB0H := Lib.hid hB0
    have hXH := Lib.hid hX
    clear ih ih1 ih2 hS hbox htab ok hT hSW hright htr hxe htx htm htk hX hb0 hT0 hK0 hB0
    go_enter Tryz.func70, Tryz.ntmps70
    go_wp2_with fail
    try rw [hW0]
    refine (WriteString_any wI.heap.size b l _ W0 hT0H.out.bld (by show l.length + 1 ≤ _; omega) hT0H.out.bel.size).mono ?_
    rintro e w1 ⟨rfl, b1, b2, b3⟩
    have hT1 := hT0H.out.step hbf b1 b2 b3
    have hX1 := b3 _ _ _ _ hbx (by decide) hXH.out
    obtain ⟨s1, s2, s3⟩ := stp_cells' hX1
    have f1 := hT1.cell
    have hT1H := Lib.hid hT1
    have hX1H := Lib.hid hX1
    have hB1H := Lib.hid (hB0H.out.trans b2)
    have hK1H := Lib.hid (hK0H.out.trans b3)
    clear hT1 hX1 b1 b2 b3 hT0H hXH hB0H hK0H q1 q2 q3
    go_wp2_with fail
    refine (ih1H.out w1 hT1H.out (by omega)).mono ?_
    rintro e w2 ⟨rfl, b1, b2, b3⟩
    have hT2 := hT1H.out.step hbf b1 b2 b3
    have hX2 := b3 _ _ _ _ hbx (by decide) hX1H.out
    obtain ⟨u1, u2, u3⟩ := stp_cells' hX2
    have g1 := hT2.cell
    have hT2H := Lib.hid hT2
    have hB2H := Lib.hid (hB1H.out.trans b2)
    have hK2H := Lib.hid (hK1H.out.trans b3)
    clear hT2 hX2 b1 b2 b3 hT1H hX1H hB1H hK1H s1 s2 s3 f1
    go_wp2_with fail
    refine (ih2H.out w2 hT2H.out (by omega)).mono ?_
    rintro e w3 ⟨rfl, b1, b2, b3⟩
    have b1' : IsBld w3 wI.heap.size b (l ++ 68 :: (tm ++ tk)) := by
      have he : l ++ [68] ++ tm ++ tk = l ++ 68 :: (tm ++ tk) := by simp
      rw [← he]; exact b1
    have b1H := Lib.hid b1'
    have hB3H := Lib.hid (hB2H.out.trans b2)
    have hK3H := Lib.hid (hK2H.out.trans b3)
    clear b1 b1' b2 b3 hT2H hB2H hK2H u1 u2 u3 g1
    go_wp2_with fail
    go_end0
    exact ⟨rfl, b1H.out, hB3H.out, hK3H.out⟩
end Go.Proofs.YtfcbdlfanmddbaaGreatDoor

/- Walks: kernel.Tree. -/
namespace Go.Proofs.YtfcbdlfanmddbaaGreatDoor
open Go Go.RowKit

def retTx (r : List UInt8 × Int) (w : World) (e : Ending) (w' : World) : Prop := e = .returned (.tuple #[.string ⟨r.1.toArray⟩, .int .i64 r.2]) ∧ Below w.heap.size w w'
def minT (t : Tr) : Nat := min t.text.length 65537
def lensT (ts : List Tr) : List Int := ts.map fun t => (minT t : Int)
theorem minT_d (a b : Tr) : minT (.d a b) = min (1 + minT a + minT b) 65537 := by unfold minT; simp only [Tr.text, List.length_cons, List.length_append]; omega
theorem minT_g (n : Nat) : minT (.g n) = 3 := rfl
theorem minT_le (t : Tr) : minT t ≤ 65537 := Nat.min_le_right _ _
theorem lensT_len (ts : List Tr) (i : Nat) (h : i ≤ ts.length) : (lensT (ts.take i)).length = i := by unfold lensT; rw [List.length_map, List.length_take]; omega
theorem lensT_succ {ts : List Tr} {i : Nat} (h : i < ts.length) : lensT (ts.take (i + 1)) = lensT (ts.take i) ++ [(minT (ts.getD i (.g 0)) : Int)] := by
  unfold lensT
  rw [List.take_succ_eq_append_getElem h, List.map_append, List.getD_eq_getElem?_getD, List.getElem?_eq_getElem h]
  rfl
theorem lensT_get {ts : List Tr} {i m : Nat} (h : i ≤ ts.length) (hm : m < i) (hl : m < (lensT (ts.take i)).length) : (lensT (ts.take i))[m] = (minT (ts.getD m (.g 0)) : Int) := by
  have e : (lensT (ts.take i))[m]? = some (minT (ts.getD m (.g 0)) : Int) := by
    unfold lensT
    rw [List.getElem?_map, List.getElem?_take_of_lt hm, List.getD_eq_getElem?_getD, List.getElem?_eq_getElem (by omega)]
    rfl
  rw [List.getElem?_eq_getElem hl] at e
  exact Option.some.inj e
def treI (p : List Stp) (w1 : World) (vT vL iV : Value) (wr : World) : Prop :=
  ∃ i : Nat, iV = .int .i64 i ∧ i ≤ p.length ∧ OwnI wr w1.heap.size vL (lensT ((trees p).take i)) ∧ Below w1.heap.size w1 wr ∧ (∀ j, i = j + 1 → vT = .int .i64 (minT ((trees p).getD j (.g 0)) : Nat))
theorem proofB_parts {G : Int} {p : List Stp} (h : proofB G p = true) : 0 ≤ G ∧ G ≤ 60 ∧ 1 ≤ p.length ∧ p.length ≤ 60 ∧ okSteps G 0 p = true := by
  simp only [proofB, validP, Bool.and_eq_true, decide_eq_true_eq] at h
  exact ⟨h.1.1, h.1.2, h.2.2.1, h.2.2.2, h.2.1⟩
set_option maxRecDepth 100000 in
set_option maxHeartbeats 4000000 in
theorem Tree_any {S : Nat → Prop} (G : Int) (a : Option Addr) (c : Nat) (p : List Stp) (w : World) (h : Steps S w a c p) (htab : TabW w) :
    Calls Tryz.prog 30 #[.int .i64 G, .slice a p.length c] w (retTx (treeE G p) w) := by
  obtain ⟨Wb, hWb⟩ : ∃ W, w.alloc (.cells #[.slice a p.length c] 25) = W := ⟨_, rfl⟩
  have hb0 : Below w.heap.size w Wb := by rw [← hWb]; exact below1 w _
  have hX : Wb.heap[w.heap.size]? = some (.cells #[.slice a p.length c] 25 (0, 0)) := by rw [← hWb]; exact heap_alloc_new w _
  have hq : Wb.cell? ⟨w.heap.size, 0, none⟩ = some (.slice a p.length c) := by rw [Lib.cell_of_heap hX]; rfl
  have v1 := ValidProof_any G a c p Wb (h.below hb0)
  have hb0H := Lib.hid hb0
  cases hv : proofB G p with
  | false =>
    rw [hv] at v1
    have v1H := Lib.hid v1
    have hrH := Lib.hid (show treeE G p = ([], 1) by unfold treeE; rw [hv]; rfl)
    clear v1 h hX hv hb0 htab
    go_enter Tryz.func30, Tryz.ntmps30
    go_wp2_with fail
    try rw [hWb]
    refine v1H.out.mono ?_
    rintro e w1 ⟨rfl, hb1⟩
    go_wp2_with fail
    go_ret2
    rw [hrH.out]
    exact ⟨rfl, bcall hb0H.out hb1⟩
  | true =>
    rw [hv] at v1
    obtain ⟨g0, g1, p1, p2, ok⟩ := proofB_parts hv
    have hl := trees_len p
    have hrH := Lib.hid (show treeE G p = if ((trees p).getD (p.length - 1) (.g 0)).text.length ≤ 65536 then (((trees p).getD (p.length - 1) (.g 0)).text, 0) else ([], 3) by unfold treeE; rw [hv, if_pos rfl, last_tree p1])
    have v1H := Lib.hid v1
    have hH := Lib.hid h
    have htabH := Lib.hid htab
    have okH := Lib.hid ok
    have hlH := Lib.hid hl
    clear v1 h hX hv hb0 htab ok hl
    go_enter Tryz.func30, Tryz.ntmps30
    go_wp2_with fail
    try rw [hWb]
    refine v1H.out.mono ?_
    rintro e w1 ⟨rfl, hb1⟩
    have hq1 := cell_later hb1 hq
    have hb01H := Lib.hid (bcall hb0H.out hb1)
    have hq1H := Lib.hid hq1
    clear hb1 hq hWb hb0H v1H
    go_wp2_with fail
    go_loopw [6, 7, 18] (fun vT vL iV wr => treI p w1 vT vL iV wr) (fun _ _ iV _ => p.length - (intOf iV).toNat)
    case atStart => exact ⟨0, rfl, Nat.zero_le _, .nil _ _ _ _ _, Below.refl _ _, fun j h => by omega⟩
    case round =>
      obtain ⟨i, rfl, hi, hO, hB, hT⟩ := hrel
      by_cases hlt : i < p.length
      · have ok := okH.out
        have hl := hlH.out
        have hS := (hH.out.below hb01H.out).below hB
        obtain ⟨bp, off, hae, -, r0, r1, r2⟩ := Sl.stp hS i hlt
        have hright := okS_get p 0 i hlt ok
        rw [Nat.zero_add] at hright
        have htr := trees_at ok i hlt
        have hsucc := lensT_succ (ts := trees p) (i := i) (by omega)
        obtain ⟨x, hxe⟩ : ∃ x, p[i] = x := ⟨_, rfl⟩
        rw [hxe] at r0 r1 r2 hright htr
        obtain ⟨x1, x2, x3⟩ := x
        simp only at r0 r1 r2
        obtain ⟨W0, hW0⟩ : ∃ W0, wr.alloc (.cells #[.int .i64 x1, .int .i64 x2, .int .i64 x3] 79) = W0 := ⟨_, rfl⟩
        have hb2 : Below wr.heap.size wr W0 := by rw [← hW0]; exact below1 wr _
        have hX : W0.heap[wr.heap.size]? = some (.cells #[.int .i64 x1, .int .i64 x2, .int .i64 x3] 79 (0, 0)) := by rw [← hW0]; exact heap_alloc_new wr _
        obtain ⟨q1, q2, q3⟩ := stp_cells' hX
        have hO0 := OwnL.call hO hb2
        have hlen := lensT_len (trees p) i (by omega)
        have hB0 := bcall hB hb2
        have hpush : ∀ (W : World) (y : Int), Below W0.heap.size W0 W → y = (minT ((trees p).getD i (.g 0)) : Nat) → ∃ v' W', RowKit.Hid ((Builtin.append_ #[33, 33] 33 #[u7, .slice (some ⟨W.heap.size, 0, none⟩) 1 1]).run Tryz.prog (W.alloc (.cells #[.int .i64 y] 3)) = .ok v' W') ∧ RowKit.Hid (treI p w1 (.int .i64 y) v' (.int .i64 ((i : Int) + 1)) W') := by
          intro W y hW hy
          have hyr : inRange y := by have := minT_le ((trees p).getD i (.g 0)); unfold inRange; omega
          obtain ⟨v', W', hrun, ho, hg, -⟩ := OwnL.push (P := Tryz.prog) (t := 33) (ty := 33) (OwnL.call hO0 hW) Tryz.underlying33 infoInt rfl (vs := [.int .i64 y]) (x := y) ⟨rfl, hyr⟩ (by omega) (by unfold big; omega) (by have := hB0.size; have := hW.size; omega)
          subst hy
          rw [← hsucc] at ho
          refine ⟨v', W', Lib.hid hrun, Lib.hid ⟨i + 1, by go_num, by omega, ho, (bcall hB0 hW).grown hg (by have := hB0.size; have := hW.size; omega) (fun k e => (OwnL.lt hO0 k e).1), fun j hj => ?_⟩⟩
          obtain rfl : j = i := by omega
          rfl
        have hpushH := Lib.hid hpush
        subst hae
        by_cases h1 : x1 = 1
        · subst h1
          have hy : (3 : Int) = (minT ((trees p).getD i (.g 0)) : Nat) := by rw [htr]; unfold trS; simp [minT_g]
          obtain ⟨v', W', k1, k2⟩ := hpush W0 3 (Below.refl _ _) hy
          have rrun := k1.out
          clear hpush hpushH hO hB hT hS hright htr hsucc hxe hb2 hX hO0 hB0 k1 hy
          go_wp2_with (at_builtin; refine wpList_append_run rfl _ _ _ rfl rfl rfl rrun ?_)
          all_goals go_roundw
          all_goals first | exact k2.out | (simp [intOf]; omega)
        · obtain ⟨d0, d1, d2, d3, d4⟩ := rightB_detach hright (by simpa using h1)
          simp only at d0 d1 d2 d3 d4
          subst d0
          obtain ⟨m, rfl⟩ : ∃ m : Nat, x2 = m := ⟨x2.toNat, by omega⟩
          obtain ⟨k, rfl⟩ : ∃ k : Nat, x3 = k := ⟨x3.toNat, by omega⟩
          obtain ⟨aL, cL, hvL, hI⟩ := OwnI.ints hO0
          obtain ⟨bl, ol, ha1, -, z1, -⟩ := hI.int m (by omega)
          obtain ⟨bl2, ol2, ha2, -, z2, -⟩ := hI.int k (by omega)
          subst ha1
          cases ha2
          rw [lensT_get (by omega) (by omega)] at z1 z2
          rw [hlen] at hvL
          have hy : ((min (1 + minT ((trees p).getD m (.g 0)) + minT ((trees p).getD k (.g 0))) 65537 : Nat) : Int) = (minT ((trees p).getD i (.g 0)) : Nat) := by
            rw [htr]
            unfold trS
            rw [if_pos rfl, minT_d]
            rfl
          obtain ⟨A, hA⟩ : ∃ A, minT ((trees p).getD m (.g 0)) = A := ⟨_, rfl⟩
          obtain ⟨B, hB'⟩ : ∃ B, minT ((trees p).getD k (.g 0)) = B := ⟨_, rfl⟩
          have hA1 := minT_le ((trees p).getD m (.g 0))
          have hB1 := minT_le ((trees p).getD k (.g 0))
          rw [hA] at z1 hy hA1
          rw [hB'] at z2 hy hB1
          have hyH := Lib.hid hy
          subst hvL
          clear hpush hO hB hT hS hright htr hsucc hxe hb2 hX hO0 hB0 hy hA hB' hI hlen h1
          go_wp2_with fail
          try rw [hW0]
          go_quiet (fail)
          obtain ⟨W5, hW5⟩ : ∃ W, W0.drewN nq = W := ⟨_, rfl⟩
          have hb5 : Below W0.heap.size W0 W5 := by rw [← hW5]; exact below_drewN (Below.refl _ _) nq
          rw [hW5]
          obtain ⟨v', W', k1, k2⟩ := hpushH.out W5 (min (1 + (A : Int) + (B : Int)) 65537) hb5 (by rw [← hyH.out]; omega)
          have rrun := k1.out
          clear hpushH hb5 hW5 k1 z1 z2 q1 q2 q3
          go_wp2_with (at_builtin; refine wpList_append_run rfl _ _ _ rfl rfl rfl rrun ?_)
          all_goals go_roundw
          all_goals first | exact k2.out | (simp [intOf]; omega)
      · obtain rfl : i = p.length := by omega
        obtain ⟨n, hn⟩ : ∃ n, p.length = n + 1 := ⟨p.length - 1, by omega⟩
        have hTn := hT n hn
        subst hTn
        have hrr := hrH.out
        rw [hn, Nat.add_sub_cancel] at hrr
        obtain ⟨tr, htr⟩ : ∃ tr, (trees p).getD n (.g 0) = tr := ⟨_, rfl⟩
        rw [htr] at hrr ⊢
        have hBH := Lib.hid hB
        by_cases hsm : tr.text.length ≤ 65536
        · rw [if_pos hsm] at hrr
          have hm : minT tr = tr.text.length := by unfold minT; omega
          rw [hm]
          have hrrH := Lib.hid hrr
          have eL : IntKind.i64.wrap (((n + 1 : Nat) : Int) - 1) = ((n : Nat) : Int) := by rw [IntWalk.i64_in _ (by omega)]; omega
          have hqL := cell_later hB hq1H.out
          have hsm' : ¬ (65536 < (tr.text.length : Int)) := by omega
          obtain ⟨W1, hW1⟩ : ∃ W, (wr.alloc (.cells #[.pointer none, .slice none 0 0] 83)).alloc (.cells #[treeV w.heap.size wr.heap.size (wr.heap.size + 1)] 84) = W := ⟨_, rfl⟩
          have hb2 : Below wr.heap.size wr W1 := by rw [← hW1]; exact below2 wr _ _
          have hfn : W1.heap[wr.heap.size + 1]? = some (.cells #[treeV w.heap.size wr.heap.size (wr.heap.size + 1)] 84 (0, 0)) := by
            rw [← hW1]
            have := heap_alloc_new (wr.alloc (.cells #[.pointer none, .slice none 0 0] 83)) (.cells #[treeV w.heap.size wr.heap.size (wr.heap.size + 1)] 84)
            rw [World.size_alloc] at this
            exact this
          have hbl : IsBld W1 wr.heap.size wr.heap.size [] := by rw [← hW1]; exact (IsBld.new wr).below (below1 _ _)
          have hTC : TCx wr W1 w.heap.size wr.heap.size (wr.heap.size + 1) [] := ⟨hb2, hfn, hbl⟩
          have htabR := (htabH.out.below hb01H.out).below hB
          have hrec := treeRec_any wr a c p w.heap.size wr.heap.size (wr.heap.size + 1) ((hH.out.below hb01H.out).below hB) hqL htabR okH.out g1 (by omega) n (by omega) [] W1 hTC (by rw [htr]; simpa using hsm)
          rw [htr, List.nil_append] at hrec
          have hq2 : W1.cell? ⟨w.heap.size, 0, none⟩ = some (.slice a (n + 1) c) := by rw [← hn]; exact cell_later hb2 hqL
          have hf2 : W1.cell? ⟨wr.heap.size + 1, 0, none⟩ = some (treeV w.heap.size wr.heap.size (wr.heap.size + 1)) := by rw [Lib.cell_of_heap hfn]; rfl
          have hq2a : ((wr.alloc (.cells #[.pointer none, .slice none 0 0] 83)).alloc (.cells #[treeV w.heap.size wr.heap.size (wr.heap.size + 1)] 84)).cell? ⟨w.heap.size, 0, none⟩ = some (.slice a (n + 1) c) := by rw [hW1]; exact hq2
          have hqw : wr.cell? ⟨w.heap.size, 0, none⟩ = some (.slice a (n + 1) c) := by rw [← hn]; exact hqL
          have hlt1 : w.heap.size < wr.heap.size := World.block_lt_of_cell? _ _ hqw
          have hlt2 : w.heap.size ≠ wr.heap.size := Nat.ne_of_lt hlt1
          have hlt3 : w.heap.size ≠ wr.heap.size + 1 := by omega
          have hn60 : n ≤ 60 := by omega
          have hrecH := Lib.hid hrec
          have hb2H := Lib.hid hb2
          clear hrr hT hO hB hm hrec hb2 hfn hbl hTC htabR hqL hn
          go_wp2_with fail
          try rw [hW1]
          refine hrecH.out.mono ?_
          rintro e w2 ⟨rfl, b1, b2, b3⟩
          have b1H := Lib.hid b1
          have b4H := Lib.hid (hb2H.out.trans b2)
          clear b1 b2 b3 hW1 hq2a hq2 hf2
          go_wp2_with fail
          refine (String_any wr.heap.size wr.heap.size tr.text w2 b1H.out b4H.out.size).mono ?_
          rintro e w3 ⟨rfl, b5⟩
          have b5H := Lib.hid (b4H.out.trans b5)
          clear b5
          go_wp2_with fail
          all_goals go_ret2
          all_goals rw [hrrH.out]
          all_goals exact ⟨rfl, bcall hb01H.out (bcall hBH.out b5H.out)⟩
        · rw [if_neg hsm] at hrr
          have hm : minT tr = 65537 := by unfold minT; omega
          rw [hm]
          have hrrH := Lib.hid hrr
          clear hrr hT hO hB hm htr
          go_wp2_with fail
          all_goals go_ret2
          all_goals rw [hrrH.out]
          all_goals exact ⟨rfl, bcall hb01H.out hBH.out⟩
end Go.Proofs.YtfcbdlfanmddbaaGreatDoor

/- Walks: lemmaryref04.sums with the lengths of texts. -/
namespace Go.Proofs.YtfcbdlfanmddbaaGreatDoor
open Go Go.RowKit

def sumI (p : List Stp) (w : World) (vL iV : Value) (wr : World) : Prop :=
  ∃ i : Nat, iV = .int .i64 i ∧ i ≤ p.length ∧ OwnI wr w.heap.size vL (lensT ((trees p).take i)) ∧ Below w.heap.size w wr
set_option maxRecDepth 100000 in
set_option maxHeartbeats 4000000 in
theorem sums_any {S : Nat → Prop} {G : Int} (a : Option Addr) (c : Nat) (p : List Stp) (w : World) (h : Steps S w a c p) (ok : okSteps G 0 p = true) (p2 : p.length ≤ 60) :
    Calls Tryz.prog 74 #[.slice a p.length c, .int .i64 3, .int .i64 65536] w (retOwn w (lensT (trees p))) := by
  have hl := trees_len p
  have hH := Lib.hid h
  have okH := Lib.hid ok
  have hlH := Lib.hid hl
  clear h ok hl
  go_enter Tryz.func74, Tryz.ntmps74
  go_wp2_with fail
  go_loopw [7, 8] (fun vL iV wr => sumI p w vL iV wr) (fun _ iV _ => p.length - (intOf iV).toNat)
  case atStart => exact ⟨0, rfl, Nat.zero_le _, .nil _ _ _ _ _, Below.refl _ _⟩
  case round =>
    obtain ⟨i, rfl, hi, hO, hB⟩ := hrel
    by_cases hlt : i < p.length
    · have ok := okH.out
      have hl := hlH.out
      have hS := hH.out.below hB
      obtain ⟨bp, off, hae, -, r0, r1, r2⟩ := Sl.stp hS i hlt
      have hright := okS_get p 0 i hlt ok
      rw [Nat.zero_add] at hright
      have htr := trees_at ok i hlt
      have hsucc := lensT_succ (ts := trees p) (i := i) (by omega)
      obtain ⟨x, hxe⟩ : ∃ x, p[i] = x := ⟨_, rfl⟩
      rw [hxe] at r0 r1 r2 hright htr
      obtain ⟨x1, x2, x3⟩ := x
      simp only at r0 r1 r2
      have hlen := lensT_len (trees p) i (by omega)
      have hpush : ∀ (W : World) (y : Int), Below wr.heap.size wr W → y = (minT ((trees p).getD i (.g 0)) : Nat) → ∃ v' W', RowKit.Hid ((Builtin.append_ #[33, 33] 33 #[u7, .slice (some ⟨W.heap.size, 0, none⟩) 1 1]).run Tryz.prog (W.alloc (.cells #[.int .i64 y] 3)) = .ok v' W') ∧ RowKit.Hid (sumI p w v' (.int .i64 ((i : Int) + 1)) W') := by
        intro W y hW hy
        have hyr : inRange y := by have := minT_le ((trees p).getD i (.g 0)); unfold inRange; omega
        obtain ⟨v', W', hrun, ho, hg, -⟩ := OwnL.push (P := Tryz.prog) (t := 33) (ty := 33) (OwnL.call hO hW) Tryz.underlying33 infoInt rfl (vs := [.int .i64 y]) (x := y) ⟨rfl, hyr⟩ (by omega) (by unfold big; omega) (by have := hB.size; have := hW.size; omega)
        subst hy
        rw [← hsucc] at ho
        exact ⟨v', W', Lib.hid hrun, Lib.hid ⟨i + 1, by go_num, by omega, ho, (bcall hB hW).grown hg (by have := hB.size; have := hW.size; omega) (fun k e => (OwnL.lt hO k e).1)⟩⟩
      have hpushH := Lib.hid hpush
      subst hae
      by_cases h1 : x1 = 1
      · subst h1
        have hy : (3 : Int) = (minT ((trees p).getD i (.g 0)) : Nat) := by rw [htr]; unfold trS; simp [minT_g]
        obtain ⟨v', W', k1, k2⟩ := hpush wr 3 (Below.refl _ _) hy
        have rrun := k1.out
        clear hpush hpushH hO hB hS hright htr hsucc hxe k1 hy
        go_wp2_with (at_builtin; refine wpList_append_run rfl _ _ _ rfl rfl rfl rrun ?_)
        all_goals go_roundw
        all_goals first | exact k2.out | (simp [intOf]; omega)
      · obtain ⟨d0, d1, d2, d3, d4⟩ := rightB_detach hright (by simpa using h1)
        simp only at d0 d1 d2 d3 d4
        subst d0
        obtain ⟨m, rfl⟩ : ∃ m : Nat, x2 = m := ⟨x2.toNat, by omega⟩
        obtain ⟨k, rfl⟩ : ∃ k : Nat, x3 = k := ⟨x3.toNat, by omega⟩
        obtain ⟨aL, cL, hvL, hI⟩ := OwnI.ints hO
        obtain ⟨bl, ol, ha1, -, z1, -⟩ := hI.int m (by omega)
        obtain ⟨bl2, ol2, ha2, -, z2, -⟩ := hI.int k (by omega)
        subst ha1
        cases ha2
        rw [lensT_get (by omega) (by omega)] at z1 z2
        rw [hlen] at hvL
        have hy : ((min (1 + minT ((trees p).getD m (.g 0)) + minT ((trees p).getD k (.g 0))) 65537 : Nat) : Int) = (minT ((trees p).getD i (.g 0)) : Nat) := by
          rw [htr]
          unfold trS
          rw [if_pos rfl, minT_d]
          rfl
        obtain ⟨A, hA⟩ : ∃ A, minT ((trees p).getD m (.g 0)) = A := ⟨_, rfl⟩
        obtain ⟨B, hB'⟩ : ∃ B, minT ((trees p).getD k (.g 0)) = B := ⟨_, rfl⟩
        have hA1 := minT_le ((trees p).getD m (.g 0))
        have hB1 := minT_le ((trees p).getD k (.g 0))
        rw [hA] at z1 hy hA1
        rw [hB'] at z2 hy hB1
        have hyH := Lib.hid hy
        subst hvL
        clear hpush hO hB hS hright htr hsucc hxe hy hA hB' hI hlen h1
        go_wp2_with fail
        go_quiet (fail)
        obtain ⟨W5, hW5⟩ : ∃ W, wr.drewN nq = W := ⟨_, rfl⟩
        have hb5 : Below wr.heap.size wr W5 := by rw [← hW5]; exact below_drewN (Below.refl _ _) nq
        rw [hW5]
        by_cases hbig : 65536 < (A : Int) + (B : Int) + 1
        · obtain ⟨v', W', k1, k2⟩ := hpushH.out W5 65537 hb5 (by rw [← hyH.out]; omega)
          have rrun := k1.out
          clear hpushH hb5 hW5 k1 z1 z2
          go_wp2_with (at_builtin; refine wpList_append_run rfl _ _ _ rfl rfl rfl rrun ?_)
          all_goals go_roundw
          all_goals first | exact k2.out | (simp [intOf]; omega)
        · obtain ⟨v', W', k1, k2⟩ := hpushH.out W5 ((A : Int) + (B : Int) + 1) hb5 (by rw [← hyH.out]; omega)
          have rrun := k1.out
          clear hpushH hb5 hW5 k1 z1 z2
          go_wp2_with (at_builtin; refine wpList_append_run rfl _ _ _ rfl rfl rfl rrun ?_)
          all_goals go_roundw
          all_goals first | exact k2.out | (simp [intOf]; omega)
    · obtain rfl : i = p.length := by omega
      have hfin : (trees p).take p.length = trees p := by rw [← hlH.out]; exact List.take_length
      rw [hfin] at hO
      have hOH := Lib.hid hO
      have hBH := Lib.hid hB
      clear hO hB hfin
      go_wp2_with fail
      all_goals go_ret
      all_goals exact ⟨_, rfl, hOH.out, hBH.out⟩
end Go.Proofs.YtfcbdlfanmddbaaGreatDoor
