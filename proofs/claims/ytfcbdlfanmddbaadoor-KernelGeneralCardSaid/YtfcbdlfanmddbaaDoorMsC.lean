/- The proof of a statement, some of its texts joined in build order: part C. -/
import Derived.Test.YtfcbdlfanmddbaaDoorMsB
import Derived.Test.YtfcbdlfanmddbaaDoorWalkM
import Derived.Test.YtfcbdlfanmddbaaDoorWalkF
/- Detachment and proofs step by step, in plain words. No program is named. -/
namespace Go.Proofs.YtfcbdlfanmddbaaDoor

abbrev Stp := Int × Int × Int
/-- the detachment of a major and a minor -/
noncomputable def detE (s : Sg) (m n : List Int) : List Int × Int :=
  if okT s m = true ∧ okT s n = true then (if m.headD 0 = 0 then uniE s ((argsT s m).getD 0 []) (apartT n) ((argsT s m).getD 1 []) else ([], 10)) else ([], 1)
theorem ar_zero {s : Sg} (hok : okSign s = true) : ar s 0 = 2 := by
  have hl := (okSign_len hok).1
  unfold okSign at hok
  simp only [Bool.and_eq_true, decide_eq_true_eq] at hok
  unfold ar arC
  rw [if_neg (by omega), if_pos ⟨by omega, by omega⟩]
  have := hok.2
  simp only [Int.toNat_zero] at *
  rw [this]; rfl
theorem halves {s : Sg} {m : List Int} (h : okT s m = true) (h0 : m.headD 0 = 0) : ∃ A B, argsT s m = [A, B] ∧ m = 0 :: (A ++ B) ∧ okT s A = true ∧ okT s B = true := by
  obtain ⟨h1, h2, h3⟩ := argsT_spec h
  rw [h0] at h1 h2
  rw [ar_zero (okT_parts h).1] at h1
  obtain ⟨L, hL⟩ : ∃ L, argsT s m = L := ⟨_, rfl⟩
  rw [hL] at h1 h2 h3
  match L, h1 with
  | [A, B], _ =>
    refine ⟨A, B, hL, ?_, h3 A (by simp), h3 B (by simp)⟩
    rw [h2]; simp
theorem halves_of {s : Sg} {m A B : List Int} (h : okT s m = true) (e : m = 0 :: (A ++ B)) (hA : W1 s A) : argsT s m = [A, B] ∧ okT s A = true ∧ okT s B = true := by
  obtain ⟨A', B', h1, h2, h3, h4⟩ := halves h (by rw [e]; rfl)
  rw [e] at h2
  obtain ⟨e1, e2⟩ := W1.uniq hA (okT_w1 h3) (List.cons.inj h2).2
  subst e1 e2
  exact ⟨h1, h3, h4⟩
theorem detE_at {s : Sg} {m n A B : List Int} (h : okT s m = true) (hn : okT s n = true) (e : m = 0 :: (A ++ B)) (hA : W1 s A) : detE s m n = uniE s A (apartT n) B := by
  unfold detE
  rw [if_pos ⟨h, hn⟩, if_pos (by rw [e]; rfl), (halves_of h e hA).1]; rfl
theorem detE_state {s : Sg} {m n : List Int} (h : okT s m = true) (hn : okT s n = true) (h0 : m.headD 0 ≠ 0) : detE s m n = ([], 10) := by
  unfold detE
  rw [if_pos ⟨h, hn⟩, if_neg h0]
theorem det_cases {s : Sg} {m n : List Int} (h : okT s m = true) (hn : okT s n = true) :
    (m.headD 0 ≠ 0 ∧ detE s m n = ([], 10)) ∨ ∃ A B, argsT s m = [A, B] ∧ m = 0 :: (A ++ B) ∧ okT s A = true ∧ okT s B = true ∧
      ((∃ θ, IsMgu s A (apartT n) θ ∧ detE s m n = madeE θ B ∧ uniB s A (apartT n) = true) ∨ ((∀ η, Wsub s η → ap η A ≠ ap η (apartT n)) ∧ detE s m n = ([], 8) ∧ uniB s A (apartT n) = false)) := by
  by_cases h0 : m.headD 0 = 0
  · obtain ⟨A, B, h1, h2, h3, h4⟩ := halves h h0
    refine .inr ⟨A, B, h1, h2, h3, h4, ?_⟩
    rw [detE_at h hn h2 (okT_w1 h3)]
    rcases uni_cases (okT_parts h).1 (okT_w1 h3) (apartT_w (okT_w1 hn)) (okT_Rg h3) (apartT_rg hn) with ⟨θ, hθ⟩ | ⟨k1, k2, k3⟩
    · exact .inl ⟨θ, hθ, uniE_some hθ B, uniB_some hθ⟩
    · exact .inr ⟨k1, k3 B, k2⟩
  · exact .inl ⟨h0, detE_state h hn h0⟩
theorem det_ok {s : Sg} {m n : List Int} (h : (detE s m n).2 = 0) : okT s m = true ∧ okT s n = true ∧ okT s (detE s m n).1 = true := by
  by_cases hk : okT s m = true ∧ okT s n = true
  · refine ⟨hk.1, hk.2, ?_⟩
    rcases det_cases hk.1 hk.2 with ⟨-, e⟩ | ⟨A, B, -, -, -, hB, (⟨θ, hθ, e, -⟩ | ⟨-, e, -⟩)⟩
    · rw [e] at h; cases h
    · rw [e] at h ⊢; exact (madeE_ok (okT_parts hk.1).1 hθ.th (okT_w1 hB) h).1
    · rw [e] at h; cases h
  · unfold detE at h; rw [if_neg hk] at h; cases h
theorem det_err {s : Sg} {m n : List Int} (hm : okT s m = true) (hn : okT s n = true) : (detE s m n).2 = 0 ∨ ((detE s m n).1 = [] ∧ ((detE s m n).2 = 4 ∨ (detE s m n).2 = 8 ∨ (detE s m n).2 = 10)) := by
  rcases det_cases hm hn with ⟨-, e⟩ | ⟨A, B, -, -, -, hB, (⟨θ, hθ, e, -⟩ | ⟨-, e, -⟩)⟩
  · rw [e]; exact .inr ⟨rfl, .inr (.inr rfl)⟩
  · rw [e]; unfold madeE; split
    · exact .inl rfl
    · exact .inr ⟨rfl, .inl rfl⟩
  · rw [e]; exact .inr ⟨rfl, .inr (.inl rfl)⟩
/-- b is an instance of a -/
def Ins (s : Sg) (a b : List Int) : Prop := ∃ η, Wsub s η ∧ ap η a = b
theorem Ins.canon {s : Sg} {a b : List Int} (h : Ins s a b) : Ins s (canon a) (canon b) := by
  obtain ⟨η, hw, he⟩ := h
  obtain ⟨τ, ht, hb⟩ := canon_back (s := s) a
  refine ⟨fun n => ap (fun n => [canonW (varsC b) n]) (ap η (τ n)), fun n hn => ((ht n hn).ap hw).ap (fun m hm => W1.var (canonW_lt hm)), ?_⟩
  rw [← ap_ap (fun n => ap η (τ n)), ← ap_ap τ η, hb, he, ← canon_ap]
/-- more general ones say more -/
theorem det_mono {s : Sg} {M N M' N' : List Int} (hM : okT s M = true) (hN : okT s N = true) (iM : Ins s M M') (iN : Ins s N N') (h : (detE s M' N').2 = 0) :
    (detE s M N).2 = 4 ∨ (detE s M N).2 = 10 ∨ ((detE s M N).2 = 0 ∧ Ins s (detE s M N).1 (detE s M' N').1) := by
  obtain ⟨hM', hN', -⟩ := det_ok h
  obtain ⟨η, hη, rfl⟩ := iM
  obtain ⟨ζ, hζ, rfl⟩ := iN
  rcases det_cases hM hN with ⟨-, e⟩ | ⟨A, B, -, eM, hA, hB, hU⟩
  · rw [e]; exact .inr (.inl rfl)
  · have eM' : ap η M = 0 :: (ap η A ++ ap η B) := by rw [eM, ap_pos (by decide), ap_append]
    have hd := detE_at hM' hN' eM' ((okT_w1 hA).ap hη)
    have hok := (okT_parts hM).1
    have hA' := (halves_of hM' eM' ((okT_w1 hA).ap hη)).2.1
    have hB' := (halves_of hM' eM' ((okT_w1 hA).ap hη)).2.2
    rcases uni_cases hok (okT_w1 hA') (apartT_w (okT_w1 hN')) (okT_Rg hA') (apartT_rg hN') with ⟨θ', hθ'⟩ | ⟨-, -, k3⟩
    · rw [hd, uniE_some hθ'] at h ⊢
      have hξ : Wsub s (fun n => if n < -12 then ap θ' (apartT (ζ (n + 12))) else ap θ' (η n)) := fun n hn => by
        show W1 s (if n < -12 then ap θ' (apartT (ζ (n + 12))) else ap θ' (η n))
        split
        · exact (apartT_w (hζ _ (by omega))).ap hθ'.th
        · exact (hη n hn).ap hθ'.th
      have low : ∀ t : List Int, okT s t = true → ap (fun n => if n < -12 then ap θ' (apartT (ζ (n + 12))) else ap θ' (η n)) t = ap θ' (ap η t) := fun t ht => by
        rw [ap_ap]
        refine ap_congr (fun n hn h0 => if_neg ?_)
        have := okT_rg ht n hn h0; omega
      have hi : ap (fun n => if n < -12 then ap θ' (apartT (ζ (n + 12))) else ap θ' (η n)) (apartT N) = ap θ' (apartT (ap ζ N)) := by
        rw [ap_apart, apartT_eq (ap ζ N), ap_ap ζ, ap_ap]
        refine ap_congr (fun n hn h0 => ?_)
        rw [if_pos (by omega), show n - 12 + 12 = n by omega, apartT_eq]
      have heq := (low A hA).trans (hθ'.eq.trans hi.symm)
      rcases hU with ⟨θ, hθ, e, -⟩ | ⟨k1, -, -⟩
      · rw [e]
        by_cases hz : (madeE θ B).2 = 0
        · refine .inr (.inr ⟨hz, ?_⟩)
          rw [(madeE_ok hok hθ.th (okT_w1 hB) hz).2, (madeE_ok hok hθ'.th (okT_w1 hB') h).2]
          refine Ins.canon ⟨_, hξ, ?_⟩
          rw [hθ.most hξ heq B, low B hB]
        · refine .inl ?_
          unfold madeE at hz ⊢
          split
          · rename_i hc; rw [if_pos hc] at hz; exact (hz rfl).elim
          · rfl
      · exact (k1 _ hξ heq).elim
    · rw [hd, k3] at h; cases h

/-! ### proofs -/
def rightB (G : Int) (n : Nat) (x : Stp) : Bool := (decide (x.1 = 1) && (decide (0 ≤ x.2.1) && decide (x.2.1 ≤ G - 1)) && decide (x.2.2 = 0)) || (decide (x.1 = 2) && (decide (0 ≤ x.2.1) && decide (x.2.1 ≤ (n : Int) - 1)) && (decide (0 ≤ x.2.2) && decide (x.2.2 ≤ (n : Int) - 1)))
def okSteps (G : Int) : Nat → List Stp → Bool
  | _, [] => true
  | n, x :: p => rightB G n x && okSteps G (n + 1) p
def validP (G : Int) (p : List Stp) : Bool := okSteps G 0 p && (decide (1 ≤ p.length) && decide (p.length ≤ 60))
def proofB (G : Int) (p : List Stp) : Bool := (decide (0 ≤ G) && decide (G ≤ 60)) && validP G p
def givensB (s : Sg) (g : List (List Int)) : Bool := okSign s && decide (g.length ≤ 60) && g.all (okT s)
noncomputable def stepE (s : Sg) (g l : List (List Int)) (x : Stp) : List Int × Int :=
  if x.1 = 1 then (canon (g.getD x.2.1.toNat []), 0) else detE s (l.getD x.2.1.toNat []) (l.getD x.2.2.toNat [])
noncomputable def runL (s : Sg) (g : List (List Int)) : List Stp → List (List Int) → List (List Int) × Int
  | [], l => (l, 0)
  | x :: p, l => if (stepE s g l x).2 = 0 then runL s g p (l ++ [(stepE s g l x).1]) else (l, (stepE s g l x).2)
def askedB (s : Sg) (g : List (List Int)) (p : List Stp) : Bool := givensB s g && validP g.length p
noncomputable def runR (s : Sg) (g : List (List Int)) (p : List Stp) : List (List Int) × Int × Int :=
  if askedB s g p = true then (if (runL s g p []).2 = 0 then ((runL s g p []).1, -1, 0) else ((runL s g p []).1, ((runL s g p []).1.length : Int), (runL s g p []).2)) else ([], 0, 1)
noncomputable def saysE (s : Sg) (g : List (List Int)) (p : List Stp) : List Int × Int :=
  if askedB s g p = true then (if (runL s g p []).2 = 0 then ((runL s g p []).1.getLastD [], 0) else ([], (runL s g p []).2)) else ([], 1)
theorem rightB_cite {G : Int} {n : Nat} {x : Stp} (h : rightB G n x = true) (h1 : x.1 = 1) : 0 ≤ x.2.1 ∧ x.2.1 < G ∧ x.2.2 = 0 := by
  simp only [rightB, Bool.or_eq_true, Bool.and_eq_true, decide_eq_true_eq] at h; omega
theorem rightB_detach {G : Int} {n : Nat} {x : Stp} (h : rightB G n x = true) (h1 : x.1 ≠ 1) : x.1 = 2 ∧ 0 ≤ x.2.1 ∧ x.2.1 < n ∧ 0 ≤ x.2.2 ∧ x.2.2 < n := by
  simp only [rightB, Bool.or_eq_true, Bool.and_eq_true, decide_eq_true_eq] at h; omega
theorem givensB_parts {s : Sg} {g : List (List Int)} (h : givensB s g = true) : okSign s = true ∧ g.length ≤ 60 ∧ ∀ t ∈ g, okT s t = true := by
  simp only [givensB, Bool.and_eq_true, decide_eq_true_eq, List.all_eq_true] at h
  exact ⟨h.1.1, h.1.2, h.2⟩
theorem getD_mem {α : Type} {l : List α} {n : Nat} (d : α) (h : n < l.length) : l.getD n d ∈ l := by
  rw [List.getD_eq_getElem?_getD, List.getElem?_eq_getElem h]; exact List.getElem_mem h
/-- what a right step says is valid -/
theorem step_okT {s : Sg} {g l : List (List Int)} {x : Stp} (hg : ∀ t ∈ g, okT s t = true) (hr : rightB g.length l.length x = true) (h : (stepE s g l x).2 = 0) : okT s (stepE s g l x).1 = true := by
  unfold stepE at h ⊢
  by_cases h1 : x.1 = 1
  · rw [if_pos h1]
    obtain ⟨g1, g2, -⟩ := rightB_cite hr h1
    exact okT_canon (hg _ (getD_mem [] (by omega)))
  · rw [if_neg h1] at h ⊢
    exact (det_ok h).2.2
theorem runL_okT {s : Sg} {g : List (List Int)} (hg : ∀ t ∈ g, okT s t = true) : ∀ (p : List Stp) (l : List (List Int)), (∀ t ∈ l, okT s t = true) → okSteps g.length l.length p = true → (∀ t ∈ (runL s g p l).1, okT s t = true) ∧ ((runL s g p l).2 = 0 → (runL s g p l).1.length = l.length + p.length) ∧ (runL s g p l).1.length ≤ l.length + p.length
  | [], l, hl, _ => ⟨hl, fun _ => rfl, Nat.le_refl _⟩
  | x :: p, l, hl, ho => by
    simp only [okSteps, Bool.and_eq_true] at ho
    rw [runL]
    split
    · rename_i hz
      have hx := step_okT hg ho.1 hz
      have hl' : ∀ t ∈ l ++ [(stepE s g l x).1], okT s t = true := fun t ht => by
        rcases List.mem_append.1 ht with h | h
        · exact hl t h
        · rw [List.mem_singleton] at h; rw [h]; exact hx
      have ih := runL_okT hg p (l ++ [(stepE s g l x).1]) hl' (by rw [List.length_append, List.length_singleton]; exact ho.2)
      rw [List.length_append, List.length_singleton] at ih
      refine ⟨ih.1, fun h => ?_, ?_⟩
      · rw [ih.2.1 h, List.length_cons]; omega
      · rw [List.length_cons]; omega
    · rename_i hz
      exact ⟨hl, fun h => (hz h).elim, by simp⟩
theorem runL_append {s : Sg} {g : List (List Int)} : ∀ (p q : List Stp) (l : List (List Int)), runL s g (p ++ q) l = if (runL s g p l).2 = 0 then runL s g q (runL s g p l).1 else runL s g p l
  | [], q, l => by simp [runL]
  | x :: p, q, l => by
    rw [List.cons_append, runL, runL]
    split
    · exact runL_append p q _
    · rfl
theorem runL_more {s : Sg} {g : List (List Int)} : ∀ (p : List Stp) (l : List (List Int)), l <+: (runL s g p l).1
  | [], l => List.prefix_refl _
  | x :: p, l => by
    rw [runL]
    split
    · exact (List.prefix_append _ _).trans (runL_more p _)
    · exact List.prefix_refl _
/-- P4.3 -/
theorem run_mono {s : Sg} {g g' : List (List Int)} (hg : ∀ t ∈ g, okT s t = true) (hg' : ∀ t ∈ g', okT s t = true) (hlen : g.length = g'.length) (hi : ∀ i, i < g.length → Ins s (g.getD i []) (g'.getD i [])) :
    ∀ (p : List Stp) (l l' : List (List Int)), (∀ t ∈ l, okT s t = true) → (∀ t ∈ l', okT s t = true) → l.length = l'.length → (∀ i, i < l.length → Ins s (l.getD i []) (l'.getD i [])) → okSteps g.length l.length p = true → (runL s g' p l').2 = 0 →
      (runL s g p l).2 = 4 ∨ (runL s g p l).2 = 10 ∨ ((runL s g p l).2 = 0 ∧ (runL s g p l).1.length = (runL s g' p l').1.length ∧ ∀ i, i < (runL s g p l).1.length → Ins s ((runL s g p l).1.getD i []) ((runL s g' p l').1.getD i []))
  | [], l, l', hl, hl', hll, hii, _, _ => .inr (.inr ⟨rfl, hll, hii⟩)
  | x :: p, l, l', hl, hl', hll, hii, ho, hz => by
    simp only [okSteps, Bool.and_eq_true] at ho
    rw [runL] at hz
    by_cases hx' : (stepE s g' l' x).2 = 0
    · rw [if_pos hx'] at hz
      have hs : (stepE s g l x).2 = 4 ∨ (stepE s g l x).2 = 10 ∨ ((stepE s g l x).2 = 0 ∧ Ins s (stepE s g l x).1 (stepE s g' l' x).1) := by
        unfold stepE at hx' ⊢
        by_cases h1 : x.1 = 1
        · simp only [if_pos h1]
          obtain ⟨g1, g2, -⟩ := rightB_cite ho.1 h1
          exact .inr (.inr ⟨trivial, (hi _ (by omega)).canon⟩)
        · simp only [if_neg h1] at hx' ⊢
          obtain ⟨-, d1, d2, d3, d4⟩ := rightB_detach ho.1 h1
          exact det_mono (hl _ (getD_mem [] (by omega))) (hl _ (getD_mem [] (by omega))) (hii _ (by omega)) (hii _ (by omega)) hx'
      rw [runL, runL, if_pos hx']
      rcases hs with h | h | ⟨h, hI⟩
      · rw [if_neg (by omega)]; exact .inl h
      · rw [if_neg (by omega)]; exact .inr (.inl h)
      · rw [if_pos h]
        have o1 := step_okT hg ho.1 h
        have o2 := step_okT hg' (by rw [← hlen, ← hll]; exact ho.1) hx'
        refine run_mono hg hg' hlen hi p _ _ (fun t ht => ?_) (fun t ht => ?_) (by simp [hll]) (fun i hil => ?_) (by rw [List.length_append, List.length_singleton]; exact ho.2) hz
        · rcases List.mem_append.1 ht with k | k
          · exact hl t k
          · rw [List.mem_singleton] at k; rw [k]; exact o1
        · rcases List.mem_append.1 ht with k | k
          · exact hl' t k
          · rw [List.mem_singleton] at k; rw [k]; exact o2
        · rw [List.length_append, List.length_singleton] at hil
          by_cases hlt : i < l.length
          · rw [List.getD_eq_getElem?_getD, List.getD_eq_getElem?_getD, List.getElem?_append_left hlt, List.getElem?_append_left (by omega), ← List.getD_eq_getElem?_getD, ← List.getD_eq_getElem?_getD]
            exact hii i hlt
          · obtain rfl : i = l.length := by omega
            rw [List.getD_eq_getElem?_getD, List.getD_eq_getElem?_getD, List.getElem?_append_right (Nat.le_refl _), List.getElem?_append_right (by omega), hll]
            simpa using hI
    · rw [if_neg hx'] at hz; exact (hx' hz).elim
end Go.Proofs.YtfcbdlfanmddbaaDoor

/- Proofs joined and moved, in plain words. No program is named. -/
namespace Go.Proofs.YtfcbdlfanmddbaaDoor

def shS (k : Nat) (x : Stp) : Stp := if x.1 = 2 then (x.1, x.2.1 + k, x.2.2 + k) else x
def mvS (to : List Int) (x : Stp) : Stp := if x.1 = 1 then (x.1, to.getD x.2.1.toNat 0, x.2.2) else x
def joinedL (p q : List Stp) : List Stp := p ++ q.map (shS p.length) ++ [(2, (p.length : Int) - 1, (p.length : Int) + q.length - 1)]
def joinedE (G : Int) (p q : List Stp) : List Stp × Int := if proofB G p = true ∧ proofB G q = true then (if p.length + q.length + 1 ≤ 60 then (joinedL p q, 0) else ([], 4)) else ([], 1)
def movedE (G : Int) (p : List Stp) (to : List Int) (count : Int) : List Stp × Int :=
  if proofB G p = true then (if (to.length : Int) = G then (if (decide (0 ≤ count) && decide (count ≤ 60) && to.all (fun n => decide (0 ≤ n) && decide (n ≤ count - 1))) = true then (p.map (mvS to), 0) else ([], 7)) else ([], 9)) else ([], 1)

theorem okSteps_append {G : Int} : ∀ (p q : List Stp) (n : Nat), okSteps G n (p ++ q) = (okSteps G n p && okSteps G (n + p.length) q)
  | [], q, n => by simp [okSteps]
  | x :: p, q, n => by
    rw [List.cons_append, okSteps, okSteps, okSteps_append p q (n + 1), Bool.and_assoc, List.length_cons, show n + 1 + p.length = n + (p.length + 1) by omega]
theorem rightB_sh {G : Int} {n k : Nat} {x : Stp} (h : rightB G n x = true) : rightB G (n + k) (shS k x) = true := by
  unfold shS
  by_cases h2 : x.1 = 2
  · rw [if_pos h2]
    obtain ⟨-, d1, d2, d3, d4⟩ := rightB_detach h (by omega)
    simp only [rightB, Bool.or_eq_true, Bool.and_eq_true, decide_eq_true_eq]
    right
    exact ⟨⟨h2, by omega, by omega⟩, by omega, by omega⟩
  · rw [if_neg h2]
    have h1 : x.1 = 1 := by
      simp only [rightB, Bool.or_eq_true, Bool.and_eq_true, decide_eq_true_eq] at h; omega
    obtain ⟨g1, g2, g3⟩ := rightB_cite h h1
    simp only [rightB, Bool.or_eq_true, Bool.and_eq_true, decide_eq_true_eq]
    left
    exact ⟨⟨h1, by omega, by omega⟩, g3⟩
theorem okSteps_sh {G : Int} {k : Nat} : ∀ (q : List Stp) (n : Nat), okSteps G n q = true → okSteps G (n + k) (q.map (shS k)) = true
  | [], _, _ => rfl
  | x :: q, n, h => by
    simp only [okSteps, Bool.and_eq_true] at h
    rw [List.map_cons, okSteps, Bool.and_eq_true, show n + k + 1 = n + 1 + k by omega]
    exact ⟨rightB_sh h.1, okSteps_sh q (n + 1) h.2⟩
theorem joined_ok {G : Int} {p q : List Stp} (hp : validP G p = true) (hq : validP G q = true) (hl : p.length + q.length + 1 ≤ 60) : validP G (joinedL p q) = true := by
  simp only [validP, Bool.and_eq_true, decide_eq_true_eq] at hp hq ⊢
  refine ⟨?_, ?_, ?_⟩
  · unfold joinedL
    rw [okSteps_append, okSteps_append, Bool.and_eq_true, Bool.and_eq_true]
    refine ⟨⟨hp.1, okSteps_sh q 0 hq.1⟩, ?_⟩
    simp only [okSteps, rightB, Bool.or_eq_true, Bool.and_eq_true, decide_eq_true_eq, List.length_append, List.length_map, and_true]
    right
    exact ⟨⟨trivial, by omega, by omega⟩, by omega, by omega⟩
  · unfold joinedL; simp; omega
  · unfold joinedL; simp; omega
theorem getD_app {α : Type} {l m : List α} (d : α) (n : Nat) : (l ++ m).getD (l.length + n) d = m.getD n d := by
  rw [List.getD_eq_getElem?_getD, List.getElem?_append_right (by omega), List.getD_eq_getElem?_getD]; congr 2; omega
theorem run_sh {s : Sg} {g lp : List (List Int)} : ∀ (q : List Stp) (l : List (List Int)), okSteps g.length l.length q = true → runL s g (q.map (shS lp.length)) (lp ++ l) = (lp ++ (runL s g q l).1, (runL s g q l).2)
  | [], l, _ => rfl
  | x :: q, l, h => by
    simp only [okSteps, Bool.and_eq_true] at h
    have hs : stepE s g (lp ++ l) (shS lp.length x) = stepE s g l x := by
      by_cases h1 : x.1 = 1
      · have e1 : shS lp.length x = x := by unfold shS; exact if_neg (by omega)
        rw [e1]
        unfold stepE
        rw [if_pos h1, if_pos h1]
      · obtain ⟨h2, d1, d2, d3, d4⟩ := rightB_detach h.1 h1
        have e1 : shS lp.length x = (x.1, x.2.1 + lp.length, x.2.2 + lp.length) := by unfold shS; exact if_pos h2
        rw [e1]
        unfold stepE
        simp only
        rw [if_neg h1, if_neg h1, show (x.2.1 + (lp.length : Int)).toNat = lp.length + x.2.1.toNat by omega, show (x.2.2 + (lp.length : Int)).toNat = lp.length + x.2.2.toNat by omega, getD_app, getD_app]
    rw [List.map_cons, runL, runL, hs]
    split
    · have := run_sh (s := s) (g := g) (lp := lp) q (l ++ [(stepE s g l x).1]) (by rw [List.length_append, List.length_singleton]; exact h.2)
      rw [← List.append_assoc] at this
      exact this
    · rfl
theorem validP_parts {G : Int} {p : List Stp} (h : validP G p = true) : okSteps G 0 p = true ∧ 1 ≤ p.length ∧ p.length ≤ 60 := by
  simp only [validP, Bool.and_eq_true, decide_eq_true_eq] at h; exact h
theorem askedB_parts {s : Sg} {g : List (List Int)} {p : List Stp} (h : askedB s g p = true) : givensB s g = true ∧ validP g.length p = true := by
  simpa only [askedB, Bool.and_eq_true] using h
theorem says_ok {s : Sg} {g : List (List Int)} {p : List Stp} (h : (saysE s g p).2 = 0) : askedB s g p = true ∧ (runL s g p []).2 = 0 ∧ (saysE s g p).1 = (runL s g p []).1.getLastD [] ∧ (runL s g p []).1.length = p.length ∧ okT s (saysE s g p).1 = true := by
  unfold saysE at h ⊢
  by_cases ha : askedB s g p = true
  · rw [if_pos ha] at h ⊢
    by_cases hz : (runL s g p []).2 = 0
    · rw [if_pos hz] at h ⊢
      obtain ⟨hg, hv⟩ := askedB_parts ha
      have h3 := (givensB_parts hg).2.2
      have hr := runL_okT h3 p [] (by simp) (validP_parts hv).1
      have hlen := hr.2.1 hz
      simp only [List.length_nil, Nat.zero_add] at hlen
      refine ⟨ha, hz, rfl, hlen, hr.1 _ ?_⟩
      have := (validP_parts hv).2.1
      rw [List.getLastD_eq_getLast?]
      cases hh : (runL s g p []).1.getLast? with
      | none => rw [List.getLast?_eq_none_iff] at hh; rw [hh] at hlen; simp at hlen; omega
      | some y => exact List.mem_of_getLast? hh
    · rw [if_neg hz] at h; exact (hz h).elim
  · rw [if_neg ha] at h; cases h
theorem lastD_getD {l : List (List Int)} : l.getD (l.length - 1) [] = l.getLastD [] := by
  rw [List.getLastD_eq_getLast?, List.getLast?_eq_getElem?, List.getD_eq_getElem?_getD]
/-- joined proofs say the detachment of what both say -/
theorem says_joined {s : Sg} {g : List (List Int)} {p q : List Stp} (hp : (saysE s g p).2 = 0) (hq : (saysE s g q).2 = 0) (hl : p.length + q.length + 1 ≤ 60) : saysE s g (joinedL p q) = detE s (saysE s g p).1 (saysE s g q).1 := by
  obtain ⟨a1, a2, a3, a4, a5⟩ := says_ok hp
  obtain ⟨b1, b2, b3, b4, b5⟩ := says_ok hq
  obtain ⟨hg, vp⟩ := askedB_parts a1
  obtain ⟨-, vq⟩ := askedB_parts b1
  have hask : askedB s g (joinedL p q) = true := by unfold askedB; rw [hg, joined_ok vp vq hl]; rfl
  rw [a3, b3]
  rw [a3] at a5
  rw [b3] at b5
  have hpl := (validP_parts vp).2.1
  have hql := (validP_parts vq).2.1
  obtain ⟨LP, hLP⟩ : ∃ L, (runL s g p []).1 = L := ⟨_, rfl⟩
  obtain ⟨LQ, hLQ⟩ : ∃ L, (runL s g q []).1 = L := ⟨_, rfl⟩
  rw [hLP] at a4 a5 ⊢
  rw [hLQ] at b4 b5 ⊢
  have hrun : runL s g (p ++ q.map (shS p.length)) [] = (LP ++ LQ, 0) := by
    rw [runL_append, if_pos a2, hLP]
    have := run_sh (s := s) (g := g) (lp := LP) q [] (validP_parts vq).1
    rw [List.append_nil, a4, hLQ, b2] at this
    exact this
  have hstep : stepE s g (LP ++ LQ) (2, (p.length : Int) - 1, (p.length : Int) + q.length - 1) = detE s (LP.getLastD []) (LQ.getLastD []) := by
    unfold stepE
    rw [if_neg (fun h => by cases h)]
    simp only
    rw [show ((p.length : Int) - 1).toNat = p.length - 1 by omega, show ((p.length : Int) + q.length - 1).toNat = LP.length + (q.length - 1) by omega, getD_app, ← lastD_getD, ← lastD_getD (l := LQ), a4, b4]
    congr 1
    rw [List.getD_eq_getElem?_getD, List.getElem?_append_left (by omega), ← List.getD_eq_getElem?_getD]
  have hd := det_err a5 b5
  unfold saysE
  rw [if_pos hask]
  unfold joinedL
  rw [runL_append, hrun, if_pos rfl]
  simp only [runL, hstep]
  rcases hd with h | ⟨h1, h2⟩
  · rw [if_pos h]
    simp only [if_true]
    rw [List.getLastD_concat, ← h]
  · have : ¬ (detE s (LP.getLastD []) (LQ.getLastD [])).2 = 0 := by omega
    rw [if_neg this]
    simp only
    rw [if_neg this]
    exact Prod.ext h1.symm rfl
/-- moved proofs say of the moved givens what the proofs say -/
theorem run_moved {s : Sg} {g : List (List Int)} {to : List Int} : ∀ (p : List Stp) (l : List (List Int)), okSteps to.length l.length p = true → runL s (to.map (fun n => g.getD n.toNat [])) p l = runL s g (p.map (mvS to)) l
  | [], l, _ => rfl
  | x :: p, l, h => by
    simp only [okSteps, Bool.and_eq_true] at h
    have hs : stepE s (to.map (fun n => g.getD n.toNat [])) l x = stepE s g l (mvS to x) := by
      by_cases h1 : x.1 = 1
      · obtain ⟨g1, g2, -⟩ := rightB_cite h.1 h1
        have e1 : mvS to x = (x.1, to.getD x.2.1.toNat 0, x.2.2) := by unfold mvS; exact if_pos h1
        rw [e1]
        unfold stepE
        simp only [if_pos h1]
        rw [List.getD_eq_getElem?_getD, List.getElem?_map, List.getD_eq_getElem?_getD (l := to), List.getElem?_eq_getElem (by omega)]
        rfl
      · have e1 : mvS to x = x := by unfold mvS; exact if_neg h1
        rw [e1]
        unfold stepE
        rw [if_neg h1, if_neg h1]
    rw [List.map_cons, runL, runL, hs]
    split
    · exact run_moved p _ (by rw [List.length_append, List.length_singleton]; exact h.2)
    · rfl
theorem moved_ok {G : Int} {to : List Int} {count : Int} (hG : (to.length : Int) = G) (hto : ∀ n ∈ to, 0 ≤ n ∧ n ≤ count - 1) : ∀ (p : List Stp) (n : Nat), okSteps G n p = true → okSteps count n (p.map (mvS to)) = true
  | [], _, _ => rfl
  | x :: p, n, h => by
    simp only [okSteps, Bool.and_eq_true] at h
    rw [List.map_cons, okSteps, Bool.and_eq_true]
    refine ⟨?_, moved_ok hG hto p (n + 1) h.2⟩
    unfold mvS
    by_cases h1 : x.1 = 1
    · obtain ⟨g1, g2, g3⟩ := rightB_cite h.1 h1
      rw [if_pos h1]
      have := hto (to.getD x.2.1.toNat 0) (getD_mem 0 (by omega))
      simp only [rightB, Bool.or_eq_true, Bool.and_eq_true, decide_eq_true_eq]
      left
      exact ⟨⟨h1, by omega, by omega⟩, g3⟩
    · obtain ⟨h2, d1, d2, d3, d4⟩ := rightB_detach h.1 h1
      rw [if_neg h1]
      simp only [rightB, Bool.or_eq_true, Bool.and_eq_true, decide_eq_true_eq]
      right
      exact ⟨⟨h2, by omega, by omega⟩, by omega, by omega⟩
theorem says_moved {s : Sg} {g : List (List Int)} {p : List Stp} {to : List Int} (hg : givensB s g = true) (hto : ∀ n ∈ to, 0 ≤ n ∧ n < g.length) (hp : proofB to.length p = true) :
    saysE s (to.map (fun n => g.getD n.toNat [])) p = saysE s g (p.map (mvS to)) := by
  obtain ⟨g1, g2, g3⟩ := givensB_parts hg
  have hp' := hp
  simp only [proofB, Bool.and_eq_true, decide_eq_true_eq] at hp'
  obtain ⟨⟨-, h60⟩, hv⟩ := hp'
  have a1 : askedB s (to.map (fun n => g.getD n.toNat [])) p = true := by
    unfold askedB givensB
    simp only [Bool.and_eq_true, decide_eq_true_eq, List.all_eq_true, List.length_map]
    refine ⟨⟨⟨g1, by omega⟩, fun t ht => ?_⟩, hv⟩
    obtain ⟨n, hn, rfl⟩ := List.mem_map.1 ht
    have := hto n hn
    exact g3 _ (getD_mem [] (by omega))
  have a2 : askedB s g (p.map (mvS to)) = true := by
    unfold askedB
    rw [hg, Bool.true_and]
    unfold validP
    have := moved_ok rfl (fun n hn => by have := hto n hn; exact ⟨this.1, by omega⟩) p 0 (validP_parts hv).1 (count := (g.length : Int))
    rw [this, List.length_map]
    have h2 := (validP_parts hv).2
    simp only [Bool.true_and, Bool.and_eq_true, decide_eq_true_eq]
    exact h2
  unfold saysE
  rw [if_pos a1, if_pos a2, run_moved p [] (validP_parts hv).1]
end Go.Proofs.YtfcbdlfanmddbaaDoor

/- Walks of package kernel: steps in memory; right, valid, ValidGivens, asked. -/
namespace Go.Proofs.YtfcbdlfanmddbaaDoor
open Go Go.RowKit Go.Maps

/-- struct { Kind, A, B int } -/
def stpE : Enc Stp := pairE intE (pairE intE intE)
abbrev Steps := Sl stpE
abbrev stpV (x : Stp) : Value := .agg #[.int .i64 x.1, .int .i64 x.2.1, .int .i64 x.2.2]
def stpR (x : Stp) : Prop := inRange x.1 ∧ inRange x.2.1 ∧ inRange x.2.2
theorem Sl.stp {S : Nat → Prop} {w : World} {a : Option Addr} {c : Nat} {l : List Stp} (h : Steps S w a c l) (i : Nat) (hi : i < l.length) :
    ∃ b off, a = some ⟨b, off, none⟩ ∧ S b ∧ w.cell? ⟨b, off + i * 3, none⟩ = some (.int .i64 l[i].1) ∧ w.cell? ⟨b, off + i * 3 + 1, none⟩ = some (.int .i64 l[i].2.1) ∧ w.cell? ⟨b, off + i * 3 + 2, none⟩ = some (.int .i64 l[i].2.2) ∧ stpR l[i] := by
  obtain ⟨b, off, ha, hb, _, vs, _, hv, hr⟩ := h.at1 i hi
  obtain ⟨us, ts, rfl, ⟨rfl, h1⟩, us', ts', rfl, ⟨rfl, h2⟩, ⟨rfl, h3⟩⟩ := hr
  have h0 := hv 0 (by simp)
  have h4 := hv 1 (by simp)
  have h5 := hv 2 (by simp)
  simp [stpE, pairE, intE] at h0 h4 h5
  exact ⟨b, off, ha, hb, h0, h4, h5, h1, h2, h3⟩

theorem kwithin_any (n lo hi : Int) (w : World) :
    Calls Tryd.prog 25 #[.int .i64 n, .int .i64 lo, .int .i64 hi] w fun e w' => e = .returned (.bool (decide (lo ≤ n) && decide (n ≤ hi))) ∧ w = w' := by
  go_enter Tryd.func25, Tryd.ntmps25
  go_wp2
  all_goals go_ret
  all_goals exact ⟨ret_bool (by simp; omega), rfl⟩

set_option maxHeartbeats 1000000 in
theorem right_any (G : Int) (n : Nat) (x : Stp) (w : World) (h0 : 0 ≤ G) (h1 : G ≤ 1000000) (hn : n ≤ 9223372036854775807) :
    Calls Tryd.prog 70 #[.int .i64 G, .int .i64 n, stpV x] w fun e w' => e = .returned (.bool (rightB G n x)) ∧ Below w.heap.size w w' := by
  obtain ⟨k, A, B⟩ := x
  have e1 : IntKind.i64.wrap (G - 1) = G - 1 := IntWalk.i64_in _ (by omega)
  have e2 : IntKind.i64.wrap ((n : Int) - 1) = (n : Int) - 1 := IntWalk.i64_in _ (by omega)
  have hb := below1 w (.cells #[.int .i64 k, .int .i64 A, .int .i64 B] 63)
  have c1 := fun W => kwithin_any A 0 (G - 1) W
  have c2 := fun W => kwithin_any A 0 ((n : Int) - 1) W
  have c3 := fun W => kwithin_any B 0 ((n : Int) - 1) W
  by_cases hk1 : k = 1
  · subst hk1
    have hR : rightB G n (1, A, B) = ((decide (0 ≤ A) && decide (A ≤ G - 1)) && decide (B = 0)) := by simp [rightB]
    obtain ⟨y, hy⟩ : ∃ y, (decide (0 ≤ A) && decide (A ≤ G - 1)) = y := ⟨_, rfl⟩
    rw [hy] at c1 hR
    have c1H := Lib.hid c1
    have hRH := Lib.hid hR
    clear c1 c2 c3 hR hy
    cases y with
    | false =>
      go_enter Tryd.func70, Tryd.ntmps70
      go_wp2_with (go_at_call 25; refine (c1H.out _).mono ?_; rintro e w1 ⟨rfl, rfl⟩)
      go_ret
      exact ⟨by rw [hRH.out]; rfl, hb⟩
    | true =>
      by_cases hB : B = 0
      · subst hB
        go_enter Tryd.func70, Tryd.ntmps70
        go_wp2_with (go_at_call 25; refine (c1H.out _).mono ?_; rintro e w1 ⟨rfl, rfl⟩)
        go_ret
        exact ⟨by rw [hRH.out]; rfl, hb⟩
      · have hBb : (B == 0) = false := by simpa using hB
        go_enter Tryd.func70, Tryd.ntmps70
        go_wp2_with (go_at_call 25; refine (c1H.out _).mono ?_; rintro e w1 ⟨rfl, rfl⟩)
        go_ret
        exact ⟨by rw [hRH.out, decide_eq_false hB]; rfl, hb⟩
  · have hk1b : (k == 1) = false := by simpa using hk1
    by_cases hk2 : k = 2
    · subst hk2
      have hR : rightB G n (2, A, B) = ((decide (0 ≤ A) && decide (A ≤ (n : Int) - 1)) && (decide (0 ≤ B) && decide (B ≤ (n : Int) - 1))) := by simp [rightB]
      obtain ⟨y, hy⟩ : ∃ y, (decide (0 ≤ A) && decide (A ≤ (n : Int) - 1)) = y := ⟨_, rfl⟩
      obtain ⟨z, hz⟩ : ∃ y, (decide (0 ≤ B) && decide (B ≤ (n : Int) - 1)) = y := ⟨_, rfl⟩
      rw [hy] at c2 hR
      rw [hz] at c3 hR
      have c2H := Lib.hid c2
      have c3H := Lib.hid c3
      have hRH := Lib.hid hR
      clear c1 c2 c3 hR hy hz hk1b
      cases y with
      | false =>
        go_enter Tryd.func70, Tryd.ntmps70
        go_wp2_with fail
        refine (c2H.out _).mono ?_
        rintro e w1 ⟨rfl, rfl⟩
        go_wp2_with fail
        go_ret
        exact ⟨by rw [hRH.out]; rfl, hb⟩
      | true =>
        go_enter Tryd.func70, Tryd.ntmps70
        go_wp2_with fail
        refine (c2H.out _).mono ?_
        rintro e w1 ⟨rfl, rfl⟩
        go_wp2_with fail
        refine (c3H.out _).mono ?_
        rintro e w1 ⟨rfl, rfl⟩
        go_wp2_with fail
        go_ret
        exact ⟨by rw [hRH.out]; rfl, hb⟩
    · have hk2b : (k == 2) = false := by simpa using hk2
      have hR : rightB G n (k, A, B) = false := by simp [rightB, hk1, hk2]
      go_enter Tryd.func70, Tryd.ntmps70
      go_wp2_with fail
      go_ret
      exact ⟨by rw [hR]; rfl, hb⟩
theorem okSteps_snoc {G : Int} : ∀ (p : List Stp) (n : Nat) (x : Stp), okSteps G n (p ++ [x]) = (okSteps G n p && rightB G (n + p.length) x)
  | [], n, x => by simp [okSteps]
  | y :: p, n, x => by
    rw [List.cons_append, okSteps, okSteps, okSteps_snoc p (n + 1) x, Bool.and_assoc, List.length_cons, show n + 1 + p.length = n + (p.length + 1) by omega]
theorem okSteps_take {G : Int} : ∀ (p : List Stp) (n k : Nat), okSteps G n p = true → okSteps G n (p.take k) = true
  | [], _, _, _ => by simp [okSteps]
  | x :: p, n, 0, _ => rfl
  | x :: p, n, k + 1, h => by
    simp only [okSteps, Bool.and_eq_true] at h
    rw [List.take_succ_cons, okSteps, Bool.and_eq_true]
    exact ⟨h.1, okSteps_take p (n + 1) k h.2⟩
set_option maxHeartbeats 1000000 in
theorem kvalid_any {S : Nat → Prop} (G : Int) (a : Option Addr) (c : Nat) (p : List Stp) (w : World) (h : Steps S w a c p) (h0 : 0 ≤ G) (h1 : G ≤ 1000000) :
    Calls Tryd.prog 56 #[.int .i64 G, .slice a p.length c] w fun e w' => e = .returned (.bool (validP G p)) ∧ Below w.heap.size w w' := by
  have m := h.le
  go_enter Tryd.func56, Tryd.ntmps56
  go_wp2_with fail
  go_loopw [9] (fun i wr => ∃ k : Nat, k ≤ p.length ∧ i = .int .i64 k ∧ okSteps G 0 (p.take k) = true ∧ Below w.heap.size w wr) (fun i _ => p.length - (intOf i).toNat)
  case atStart => exact ⟨0, Nat.zero_le _, rfl, rfl, .refl _ _⟩
  case round =>
    obtain ⟨k, hk, rfl, hall, hB⟩ := hrel
    by_cases hlt : k < p.length
    · obtain ⟨b, o, rfl, -, q0, q1, q2, hr⟩ := (h.below hB).stp k hlt
      have hstep := okSteps_snoc (G := G) (p.take k) 0 p[k]
      rw [List.length_take, Nat.min_eq_left (by omega), Nat.zero_add, ← List.take_succ_eq_append_getElem hlt, hall, Bool.true_and] at hstep
      have cr := fun W => right_any G k p[k] W h0 h1 (by omega)
      obtain ⟨x, hx⟩ : ∃ x, p[k] = x := ⟨_, rfl⟩
      obtain ⟨y, hy⟩ : ∃ y, rightB G k p[k] = y := ⟨_, rfl⟩
      rw [hy] at hstep cr
      rw [hx] at cr q0 q1 q2
      obtain ⟨x1, x2, x3⟩ := x
      simp only at q0 q1 q2
      have hb2 := fun W => below1 W (.cells #[.int .i64 x1, .int .i64 x2, .int .i64 x3] 63)
      have crH := Lib.hid cr
      have hstH := Lib.hid hstep
      have hBH := Lib.hid hB
      clear cr hstep hB hall hx hy h
      cases y with
      | true =>
        go_wp2_with (go_at_call 70; refine (crH.out _).mono ?_; rintro e w1 ⟨rfl, hb⟩)
        go_roundw
        case rel => exact ⟨k + 1, by omega, by go_num, hstH.out, bcall hBH.out (bcall (hb2 _) hb)⟩
        case measure => simp [intOf]; omega
      | false =>
        go_wp2_with (go_at_call 70; refine (crH.out _).mono ?_; rintro e w1 ⟨rfl, hb⟩)
        go_ret
        have hf : validP G p = false := by
          unfold validP
          cases ho : okSteps G 0 p with
          | false => rfl
          | true => have := okSteps_take p 0 (k + 1) ho; rw [hstH.out] at this; cases this
        exact ⟨ret_bool hf.symm, bcall hBH.out (bcall (hb2 _) hb)⟩
    · rw [List.take_of_length_le (by omega)] at hall
      have cw := fun W => kwithin_any (p.length : Int) 1 60 W
      have hf : (decide ((1 : Int) ≤ p.length) && decide ((p.length : Int) ≤ 60)) = validP G p := by
        unfold validP
        rw [hall, Bool.true_and, Bool.eq_iff_iff]
        simp only [Bool.and_eq_true, decide_eq_true_eq]
        omega
      rw [hf] at cw
      have cwH := Lib.hid cw
      clear hall cw hf
      go_wp2_with (go_at_call 25; refine (cwH.out _).mono ?_; rintro e w1 ⟨rfl, rfl⟩)
      go_ret
      exact ⟨rfl, hB⟩

set_option maxHeartbeats 1000000 in
theorem IndexVG_any {S1 S2 : Nat → Prop} (a1 a2 : Option Addr) (c1 c2 : Nat) (s : Sg) (L : List (List Int)) (bx : Nat) (w : World) (h1 : Sign S1 w a1 c1 s) (h2 : Terms S2 w a2 c2 L) (hq : w.cell? ⟨bx, 0, none⟩ = some (.slice a1 s.length c1)) :
    Calls Tryd.prog 80 #[.slice a2 L.length c2, .func (.func 69) #[] #[.pointer (some ⟨bx, 0, none⟩)]] w (idxTPost s L w) := by
  have m2 := h2.le
  have hbx : bx < w.heap.size := World.block_lt_of_cell? w _ hq
  go_enter Tryd.func80, Tryd.ntmps80
  go_wp2_with fail
  go_loopw [8] (fun i wr => ∃ k : Nat, k ≤ L.length ∧ i = .int .i64 k ∧ (L.take k).all (okT s) = true ∧ Below w.heap.size w wr) (fun i _ => L.length - (intOf i).toNat)
  case atStart => exact ⟨0, Nat.zero_le _, rfl, rfl, .refl _ _⟩
  case round =>
    obtain ⟨k, hk, rfl, hall, hB⟩ := hrel
    by_cases hlt : k < L.length
    · obtain ⟨b, o, a', c', rfl, -, q, hI⟩ := h2.sub k hlt
      have q' := (hB.cell (p := ⟨b, o + k, none⟩) (World.block_lt_of_cell? _ _ q)).trans q
      have hq' := (hB.cell (p := ⟨bx, 0, none⟩) hbx).trans hq
      have v1 := Valid_any a1 a' c1 c' s L[k] wr (h1.below hB) (hI.below hB)
      obtain ⟨x, hx⟩ : ∃ x, okT s L[k] = x := ⟨_, rfl⟩
      rw [hx] at v1
      have cf : Calls Tryd.prog 69 #[.slice a' L[k].length c', .pointer (some ⟨bx, 0, none⟩)] wr fun e w' => e = .returned (.bool (!x)) ∧ Below wr.heap.size wr w' := by
        have v1H := Lib.hid v1
        clear v1 hI h1 h2 hx hB hall q hq
        go_enter Tryd.func69, Tryd.ntmps69
        go_wp2_with (go_at_call 14; refine v1H.out.mono ?_; rintro e w1 ⟨rfl, hb⟩)
        go_ret
        exact ⟨rfl, hb⟩
      have cfH := Lib.hid cf
      have hallH := Lib.hid hall
      have hxH := Lib.hid hx
      have hBH := Lib.hid hB
      clear v1 cf hall hI h1 h2 hx hB q hq
      cases x with
      | true =>
        go_wp2_with (go_at_call 69; refine cfH.out.mono ?_; rintro e w1 ⟨rfl, hb⟩)
        go_roundw
        case rel => exact ⟨k + 1, by omega, by go_num, by rw [List.take_succ_eq_append_getElem hlt, List.all_append, hallH.out]; simp [hxH.out], hBH.out.trans (hb.mono hBH.out.size)⟩
        case measure => simp [intOf]; omega
      | false =>
        go_wp2_with (go_at_call 69; refine cfH.out.mono ?_; rintro e w1 ⟨rfl, hb⟩)
        go_ret
        have hf : L.all (okT s) = false := by rw [List.all_eq_false]; exact ⟨L[k], List.getElem_mem hlt, by rw [hxH.out]; simp⟩
        exact ⟨k, rfl, by omega, by rw [hf]; simp, hBH.out.trans (hb.mono hBH.out.size)⟩
    · rw [List.take_of_length_le (by omega)] at hall
      have hallH := Lib.hid hall
      clear hall
      go_wp2_with fail
      go_ret
      exact ⟨-1, rfl, by omega, by rw [hallH.out]; rfl, hB⟩
set_option maxHeartbeats 1000000 in
theorem ContainsVG_any {S1 S2 : Nat → Prop} (a1 a2 : Option Addr) (c1 c2 : Nat) (s : Sg) (L : List (List Int)) (bx : Nat) (w : World) (h1 : Sign S1 w a1 c1 s) (h2 : Terms S2 w a2 c2 L) (hq : w.cell? ⟨bx, 0, none⟩ = some (.slice a1 s.length c1)) :
    Calls Tryd.prog 68 #[.slice a2 L.length c2, .func (.func 69) #[] #[.pointer (some ⟨bx, 0, none⟩)]] w fun e w' => e = .returned (.bool (!(L.all (okT s)))) ∧ Below w.heap.size w w' := by
  have ci := IndexVG_any a1 a2 c1 c2 s L bx w h1 h2 hq
  have ciH := Lib.hid ci
  clear ci h1 h2 hq
  go_enter Tryd.func68, Tryd.ntmps68
  go_wp2_with (go_at_call 80; refine ciH.out.mono ?_; rintro e w' ⟨n, rfl, hn, hn2, hb⟩; have hn2H := Lib.hid hn2; clear hn2)
  go_ret
  exact ⟨ret_bool hn2H.out, hb⟩
set_option maxHeartbeats 1000000 in
theorem ValidGivens_any {S1 S2 : Nat → Prop} (a1 a2 : Option Addr) (c1 c2 : Nat) (s : Sg) (L : List (List Int)) (w : World) (h1 : Sign S1 w a1 c1 s) (h2 : Terms S2 w a2 c2 L) :
    Calls Tryd.prog 55 #[.slice a1 s.length c1, .slice a2 L.length c2] w fun e w' => e = .returned (.bool (givensB s L)) ∧ Below w.heap.size w w' := by
  have m2 := h2.le
  have hb0 := below1 w (.cells #[.slice a1 s.length c1] 23)
  have q0 : (w.alloc (.cells #[.slice a1 s.length c1] 23)).cell? ⟨w.heap.size, 0, none⟩ = some (.slice a1 s.length c1) := by go_simp
  have v1 := ValidSign_any a1 c1 s (w.alloc (.cells #[.slice a1 s.length c1] 23)) (h1.below hb0)
  have v2 := fun W (hb : Below w.heap.size w W) hq => ContainsVG_any a1 a2 c1 c2 s L w.heap.size W (h1.below hb) (h2.below hb) hq
  have hg : givensB s L = (okSign s && decide (L.length ≤ 60) && L.all (okT s)) := rfl
  obtain ⟨x, hx⟩ : ∃ x, okSign s = x := ⟨_, rfl⟩
  obtain ⟨y, hy⟩ : ∃ x, L.all (okT s) = x := ⟨_, rfl⟩
  rw [hx] at v1 hg
  rw [hy] at v2 hg
  have v1H := Lib.hid v1
  have v2H := Lib.hid v2
  have hgH := Lib.hid hg
  have hb0H := Lib.hid hb0
  clear v1 v2 h1 h2 hx hy hg hb0
  cases x with
  | false =>
    go_enter Tryd.func55, Tryd.ntmps55
    go_wp2_with fail
    refine v1H.out.mono ?_
    rintro e w1 ⟨rfl, hb1⟩
    go_wp2_with fail
    go_ret
    exact ⟨by rw [hgH.out]; rfl, bcall hb0H.out hb1⟩
  | true =>
    by_cases h60 : L.length ≤ 60
    · have hd : decide ((L.length : Int) ≤ 60) = true := by simp; omega
      go_enter Tryd.func55, Tryd.ntmps55
      go_wp2_with fail
      refine v1H.out.mono ?_
      rintro e w1 ⟨rfl, hb1⟩
      have q1 := cell_later hb1 q0
      have hb1 := bcall hb0H.out hb1
      go_wp2_with fail
      refine (v2H.out _ hb1 q1).mono ?_
      rintro e w2 ⟨rfl, hb2⟩
      go_wp2_with fail
      go_ret
      exact ⟨by rw [hgH.out, decide_eq_true h60]; simp, bcall hb1 hb2⟩
    · have hd : decide ((L.length : Int) ≤ 60) = false := by simp; omega
      go_enter Tryd.func55, Tryd.ntmps55
      go_wp2_with fail
      refine v1H.out.mono ?_
      rintro e w1 ⟨rfl, hb1⟩
      go_wp2_with fail
      go_ret
      exact ⟨by rw [hgH.out, decide_eq_false h60]; rfl, bcall hb0H.out hb1⟩
set_option maxHeartbeats 1000000 in
theorem asked_any {S1 S2 S3 : Nat → Prop} (a1 a2 a3 : Option Addr) (c1 c2 c3 : Nat) (s : Sg) (L : List (List Int)) (p : List Stp) (w : World) (h1 : Sign S1 w a1 c1 s) (h2 : Terms S2 w a2 c2 L) (h3 : Steps S3 w a3 c3 p) :
    Calls Tryd.prog 43 #[.slice a1 s.length c1, .slice a2 L.length c2, .slice a3 p.length c3] w fun e w' => e = .returned (.bool (askedB s L p)) ∧ Below w.heap.size w w' := by
  have m2 := h2.le
  have m3 := h3.le
  have v1 := ValidGivens_any a1 a2 c1 c2 s L w h1 h2
  have v2 : L.length ≤ 60 → ∀ W, Below w.heap.size w W → _ := fun hl W hb => kvalid_any (L.length : Int) a3 c3 p W (h3.below hb) (by omega) (by omega)
  have hg : askedB s L p = (givensB s L && validP L.length p) := rfl
  have hl : givensB s L = true → L.length ≤ 60 := fun h => (givensB_parts h).2.1
  obtain ⟨x, hx⟩ : ∃ x, givensB s L = x := ⟨_, rfl⟩
  rw [hx] at v1 hg hl
  have v1H := Lib.hid v1
  have v2H := Lib.hid v2
  have hgH := Lib.hid hg
  have hlH := Lib.hid hl
  clear v1 v2 h1 h2 h3 hx hg hl
  cases x with
  | false =>
    go_enter Tryd.func43, Tryd.ntmps43
    go_wp2_with fail
    refine v1H.out.mono ?_
    rintro e w1 ⟨rfl, hb1⟩
    go_wp2_with fail
    go_ret
    exact ⟨by rw [hgH.out]; rfl, hb1⟩
  | true =>
    go_enter Tryd.func43, Tryd.ntmps43
    go_wp2_with fail
    refine v1H.out.mono ?_
    rintro e w1 ⟨rfl, hb1⟩
    go_wp2_with fail
    refine (v2H.out (hlH.out trivial) _ hb1).mono ?_
    rintro e w2 ⟨rfl, hb2⟩
    go_wp2_with fail
    go_ret
    exact ⟨by rw [hgH.out]; simp, bcall hb1 hb2⟩
end Go.Proofs.YtfcbdlfanmddbaaDoor

/- Walks of package kernel: halves, Detach, Detaches. -/
namespace Go.Proofs.YtfcbdlfanmddbaaDoor
open Go Go.RowKit Go.Maps

def halvesRet (w : World) (A B : List Int) (e : Ending) (w' : World) : Prop :=
  ∃ a4 c4 a5 c5, e = .returned (.tuple #[.slice a4 A.length c4, .slice a5 B.length c5, .bool true]) ∧ Ints (fun _ => True) w' a4 c4 A ∧ Ints (fun _ => True) w' a5 c5 B ∧ Below w.heap.size w w'
set_option maxHeartbeats 1000000 in
theorem halves_yes {S1 S2 : Nat → Prop} (a1 a2 : Option Addr) (c1 c2 : Nat) (s : Sg) (m A B : List Int) (w : World) (h1 : Sign S1 w a1 c1 s) (h2 : Ints S2 w a2 c2 m) (hm : okT s m = true) (hL : argsT s m = [A, B]) (h0 : m.headD 0 = 0) :
    Calls Tryd.prog 21 #[.slice a1 s.length c1, .slice a2 m.length c2] w (halvesRet w A B) := by
  have m2 := h2.le
  have lm := (okT_parts hm).2.1
  obtain ⟨b, o, rfl, -, q, -⟩ := h2.int 0 (by omega)
  have hg : m[0] = m.headD 0 := by cases m with | nil => simp at lm | cons _ _ => rfl
  rw [hg, h0, Nat.add_zero] at q
  have ca := Args_any a1 (some ⟨b, o, none⟩) c1 c2 s m w h1 h2
  rw [argsE_ok hm, hL] at ca
  have caH := Lib.hid ca
  clear ca h1 h2 hm hL h0 hg
  go_enter Tryd.func21, Tryd.ntmps21
  go_wp2_with fail
  refine caH.out.mono ?_
  rintro e w1 ⟨v, rfl, ho, hb⟩
  obtain ⟨a, c, rfl, hT⟩ := ho.sl
  obtain ⟨b1, o1, a4, c4, rfl, -, q1, hA⟩ := hT.sub 0 (by simp)
  obtain ⟨b2, o2, a5, c5, he, -, q2, hB⟩ := hT.sub 1 (by simp)
  simp only [Option.some.injEq, Addr.mk.injEq, and_true] at he
  obtain ⟨rfl, rfl⟩ := he
  simp only [List.getElem_cons_zero, List.getElem_cons_succ] at q1 q2 hA hB
  rw [Nat.add_zero] at q1
  have hAH := Lib.hid hA.any
  have hBH := Lib.hid hB.any
  clear ho hT hA hB caH q
  go_wp2_with fail
  go_quiet (fail)
  all_goals go_wp2_with fail
  go_ret3
  exact ⟨_, _, _, _, rfl, hAH.out.drewN _, hBH.out.drewN _, below_drewN hb _⟩
set_option maxHeartbeats 1000000 in
theorem halves_no {S2 : Nat → Prop} (v : Value) (a2 : Option Addr) (c2 : Nat) (m : List Int) (w : World) (h2 : Ints S2 w a2 c2 m) (lm : 1 ≤ m.length) (h0 : m.headD 0 ≠ 0) :
    Calls Tryd.prog 21 #[v, .slice a2 m.length c2] w fun e w' => e = .returned (.tuple #[.slice none 0 0, .slice none 0 0, .bool false]) ∧ w = w' := by
  have m2 := h2.le
  obtain ⟨b, o, rfl, -, q, -⟩ := h2.int 0 (by omega)
  have hg : m[0] = m.headD 0 := by cases m with | nil => simp at lm | cons _ _ => rfl
  rw [hg, Nat.add_zero] at q
  have hne : (m.headD 0 != 0) = true := by simpa using h0
  obtain ⟨x, hx⟩ : ∃ x, m.headD 0 = x := ⟨_, rfl⟩
  rw [hx] at q hne
  clear h2 hg h0 hx
  go_enter Tryd.func21, Tryd.ntmps21
  go_wp2_with fail
  go_ret3
  exact ⟨rfl, rfl⟩
set_option maxHeartbeats 2000000 in
theorem Detached_any {S1 S2 S3 S4 : Nat → Prop} (a1 a2 a3 a4 : Option Addr) (c1 c2 c3 c4 : Nat) (s : Sg) (a t b : List Int) (w : World) (h1 : Sign S1 w a1 c1 s) (h2 : Ints S2 w a2 c2 a) (h3 : Ints S3 w a3 c3 t) (h4 : Ints S4 w a4 c4 b) (ha : okT s a = true) (hb : okT s b = true) :
    Calls Tryd.prog 22 #[.slice a1 s.length c1, .slice a2 a.length c2, .slice a3 t.length c3, .slice a4 b.length c4] w (retE (uniE s a (apartT b) t) w) := by
  have m2 := h2.le
  have m3 := h3.le
  have m4 := h4.le
  have v4 := apart_any a4 c4 b w h4 (by have := (okT_parts hb).2.2.1; unfold lim; omega) (okT_ne hb) (okT_rg hb)
  have v3 := fun W (hbl : Below w.heap.size w W) T a5 c5 (hi : Ints T W a5 c5 (apartT b)) => solved_any a1 a2 a5 c1 c2 c5 s a (apartT b) W (h1.below hbl) (h2.below hbl) hi (okT_parts ha).1 (okT_w1 ha) (apartT_w (okT_w1 hb)) (okT_Rg ha) (apartT_rg hb) (by have := (okT_parts ha).2.2.1; omega) (by rw [apartT_len]; have := (okT_parts hb).2.2.1; omega)
  have v5 : ∀ W, Below w.heap.size w W → T0 W a3 c3 t := fun W hb => (h3.below hb).lt.weak (fun _ h => h.2)
  have hal := apartT_len b
  have v3H := Lib.hid v3
  have v4H := Lib.hid v4
  have v5H := Lib.hid v5
  have halH := Lib.hid hal
  clear v3 v4 v5 h1 h2 h3 h4 hal ha hb
  go_enter Tryd.func22, Tryd.ntmps22
  go_wp2_with fail
  refine v4H.out.mono ?_
  rintro e w3 ⟨v, rfl, ho, hb3⟩
  obtain ⟨a5, c5, rfl, hI⟩ := OwnI.ints ho
  clear ho
  go_wp2_with fail
  refine (v3H.out _ hb3 _ _ _ hI).mono ?_
  rintro e w4 ⟨xb, mb, r, rfl, hb4, hf, ht⟩
  clear hI
  cases r with
  | false =>
    have hmH := Lib.hid (uniE_none (hf rfl) t)
    have hb5 := bcall hb3 hb4
    clear hf ht hb3 hb4
    go_wp2_with fail
    go_ret2
    exact ⟨_, by rw [hmH.out]; rfl, by rw [hmH.out]; exact .nil _ _ _ _ _, hb5⟩
  | true =>
    obtain ⟨B, θ, ρ, n, g1, g2, g3, g4⟩ := ht rfl
    have hmH := Lib.hid (uniE_some g3 t)
    have cm := made_any g4 g1 (v5H.out _ hb3)
    have hb5 := bcall hb3 hb4
    have cmH := Lib.hid cm
    clear hf ht hb3 hb4 cm g1 g2 g3 g4
    go_wp2_with fail
    refine cmH.out.mono ?_
    rintro e w5 ⟨v, rfl, ho, hb6⟩
    have hoH := Lib.hid (OwnL.baseMono (base' := w.heap.size) ho hb5.size)
    clear ho cmH
    go_wp2_with fail
    go_ret2
    exact ⟨_, by rw [hmH.out]; rfl, by rw [hmH.out]; exact hoH.out, bcall hb5 hb6⟩
set_option maxHeartbeats 2000000 in
theorem Detach_any {S1 S2 S3 : Nat → Prop} (a1 a2 a3 : Option Addr) (c1 c2 c3 : Nat) (s : Sg) (m n : List Int) (w : World) (h1 : Sign S1 w a1 c1 s) (h2 : Ints S2 w a2 c2 m) (h3 : Ints S3 w a3 c3 n) :
    Calls Tryd.prog 9 #[.slice a1 s.length c1, .slice a2 m.length c2, .slice a3 n.length c3] w (retE (detE s m n) w) := by
  have m2 := h2.le
  have m3 := h3.le
  have v1 := Valid_any a1 a2 c1 c2 s m w h1 h2
  have v2 := fun W (hb : Below w.heap.size w W) => Valid_any a1 a3 c1 c3 s n W (h1.below hb) (h3.below hb)
  obtain ⟨x, hx⟩ : ∃ x, okT s m = x := ⟨_, rfl⟩
  obtain ⟨y, hy⟩ : ∃ x, okT s n = x := ⟨_, rfl⟩
  rw [hx] at v1
  rw [hy] at v2
  have v1H := Lib.hid v1
  have v2H := Lib.hid v2
  clear v1 v2
  cases x with
  | false =>
    have hmH := Lib.hid (show detE s m n = ([], 1) by unfold detE; rw [if_neg (by rw [hx]; simp)])
    clear hx hy h1 h2 h3
    go_enter Tryd.func9, Tryd.ntmps9
    go_wp2_with (go_at_call 14; refine v1H.out.mono ?_; rintro e w1 ⟨rfl, hb1⟩)
    go_ret2
    exact ⟨_, by rw [hmH.out]; rfl, by rw [hmH.out]; exact .nil _ _ _ _ _, hb1⟩
  | true =>
  cases y with
  | false =>
    have hmH := Lib.hid (show detE s m n = ([], 1) by unfold detE; rw [if_neg (by rw [hy]; simp)])
    clear hx hy h1 h2 h3
    go_enter Tryd.func9, Tryd.ntmps9
    go_wp2_with fail
    refine v1H.out.mono ?_
    rintro e w1 ⟨rfl, hb1⟩
    go_wp2_with fail
    refine (v2H.out _ hb1).mono ?_
    rintro e w2 ⟨rfl, hb2⟩
    go_wp2_with fail
    go_ret2
    exact ⟨_, by rw [hmH.out]; rfl, by rw [hmH.out]; exact .nil _ _ _ _ _, bcall hb1 hb2⟩
  | true =>
    by_cases h0 : m.headD 0 = 0
    · obtain ⟨A, B, e1, e2, oA, oB⟩ := halves hx h0
      have hmH := Lib.hid (detE_at hx hy e2 (okT_w1 oA))
      have ch := fun W (hb : Below w.heap.size w W) => halves_yes a1 a2 c1 c2 s m A B W (h1.below hb) (h2.below hb) hx e1 h0
      have cd := fun W (hb : Below w.heap.size w W) a4 c4 a5 c5 (hA : Ints (fun _ => True) W a4 c4 A) (hB : Ints (fun _ => True) W a5 c5 B) => Detached_any a1 a4 a5 a3 c1 c4 c5 c3 s A B n W (h1.below hb) hA hB (h3.below hb) oA hy
      have chH := Lib.hid ch
      have cdH := Lib.hid cd
      clear ch cd hx hy h1 h2 h3 e1 e2 oA oB h0
      go_enter Tryd.func9, Tryd.ntmps9
      go_wp2_with fail
      refine v1H.out.mono ?_
      rintro e w1 ⟨rfl, hb1⟩
      go_wp2_with fail
      refine (v2H.out _ hb1).mono ?_
      rintro e w2 ⟨rfl, hb2⟩
      have hb2 := bcall hb1 hb2
      clear hb1
      go_wp2_with fail
      refine (chH.out _ hb2).mono ?_
      rintro e w3 ⟨a4, c4, a5, c5, rfl, hA, hB, hb3⟩
      have hb3 := bcall hb2 hb3
      clear hb2
      have cd := cdH.out _ hb3 _ _ _ _ hA hB
      have cdK := Lib.hid cd
      have lA := hA.le
      have lB := hB.le
      clear cd hA hB
      go_wp2_with fail
      refine cdK.out.mono ?_
      rintro e w4 ⟨v, rfl, ho, hb4⟩
      have hoH := Lib.hid (OwnL.baseMono (base' := w.heap.size) ho hb3.size)
      clear ho cdK
      go_wp2_with fail
      go_ret2
      exact ⟨_, by rw [hmH.out]; rfl, by rw [hmH.out]; exact hoH.out, bcall hb3 hb4⟩
    · have hmH := Lib.hid (detE_state hx hy h0)
      have ch := fun W (hb : Below w.heap.size w W) => halves_no (.slice a1 s.length c1) a2 c2 m W (h2.below hb) (okT_parts hx).2.1 h0
      have chH := Lib.hid ch
      clear ch hx hy h1 h2 h3 h0
      go_enter Tryd.func9, Tryd.ntmps9
      go_wp2_with fail
      refine v1H.out.mono ?_
      rintro e w1 ⟨rfl, hb1⟩
      go_wp2_with fail
      refine (v2H.out _ hb1).mono ?_
      rintro e w2 ⟨rfl, hb2⟩
      have hb2 := bcall hb1 hb2
      clear hb1
      go_wp2_with fail
      refine (chH.out _ hb2).mono ?_
      rintro e w3 ⟨rfl, rfl⟩
      go_wp2_with fail
      go_ret2
      exact ⟨_, by rw [hmH.out]; rfl, by rw [hmH.out]; exact .nil _ _ _ _ _, hb2⟩
end Go.Proofs.YtfcbdlfanmddbaaDoor

/- Walks: kernel.Detaches. -/
namespace Go.Proofs.YtfcbdlfanmddbaaDoor
open Go Go.RowKit Go.Maps

noncomputable def detsB (s : Sg) (m n : List Int) : Bool := okT s m && (okT s n && (decide (m.headD 0 = 0) && uniB s ((argsT s m).headD []) (apartT n)))
set_option maxHeartbeats 2000000 in
theorem Detaches_any {S1 S2 S3 : Nat → Prop} (a1 a2 a3 : Option Addr) (c1 c2 c3 : Nat) (s : Sg) (m n : List Int) (w : World) (h1 : Sign S1 w a1 c1 s) (h2 : Ints S2 w a2 c2 m) (h3 : Ints S3 w a3 c3 n) :
    Calls Tryd.prog 10 #[.slice a1 s.length c1, .slice a2 m.length c2, .slice a3 n.length c3] w fun e w' => e = .returned (.bool (detsB s m n)) ∧ Below w.heap.size w w' := by
  have m2 := h2.le
  have m3 := h3.le
  have v1 := Valid_any a1 a2 c1 c2 s m w h1 h2
  have v2 := fun W (hb : Below w.heap.size w W) => Valid_any a1 a3 c1 c3 s n W (h1.below hb) (h3.below hb)
  obtain ⟨x, hx⟩ : ∃ x, okT s m = x := ⟨_, rfl⟩
  obtain ⟨y, hy⟩ : ∃ x, okT s n = x := ⟨_, rfl⟩
  rw [hx] at v1
  rw [hy] at v2
  have v1H := Lib.hid v1
  have v2H := Lib.hid v2
  clear v1 v2
  cases x with
  | false =>
    have hmH := Lib.hid (show detsB s m n = false by unfold detsB; rw [hx]; rfl)
    clear hx hy h1 h2 h3
    go_enter Tryd.func10, Tryd.ntmps10
    go_wp2_with fail
    refine v1H.out.mono ?_
    rintro e w1 ⟨rfl, hb1⟩
    go_wp2_with fail
    go_ret
    exact ⟨ret_bool hmH.out.symm, hb1⟩
  | true =>
  cases y with
  | false =>
    have hmH := Lib.hid (show detsB s m n = false by unfold detsB; rw [hx, hy]; rfl)
    clear hx hy h1 h2 h3
    go_enter Tryd.func10, Tryd.ntmps10
    go_wp2_with fail
    refine v1H.out.mono ?_
    rintro e w1 ⟨rfl, hb1⟩
    go_wp2_with fail
    refine (v2H.out _ hb1).mono ?_
    rintro e w2 ⟨rfl, hb2⟩
    go_wp2_with fail
    go_ret
    exact ⟨ret_bool hmH.out.symm, bcall hb1 hb2⟩
  | true =>
    by_cases h0 : m.headD 0 = 0
    · obtain ⟨A, B, e1, e2, oA, oB⟩ := halves hx h0
      have hmH := Lib.hid (show detsB s m n = meetB s A n by unfold detsB meetB; rw [hx, hy, decide_eq_true h0, e1, oA]; rfl)
      have ch := fun W (hb : Below w.heap.size w W) => halves_yes a1 a2 c1 c2 s m A B W (h1.below hb) (h2.below hb) hx e1 h0
      have cd := fun W (hb : Below w.heap.size w W) a4 c4 (hA : Ints (fun _ => True) W a4 c4 A) => Meets_any a1 a4 a3 c1 c4 c3 s A n W (h1.below hb) hA (h3.below hb)
      have chH := Lib.hid ch
      have cdH := Lib.hid cd
      clear ch cd hx hy h1 h2 h3 e1 e2 oA oB h0
      go_enter Tryd.func10, Tryd.ntmps10
      go_wp2_with fail
      refine v1H.out.mono ?_
      rintro e w1 ⟨rfl, hb1⟩
      go_wp2_with fail
      refine (v2H.out _ hb1).mono ?_
      rintro e w2 ⟨rfl, hb2⟩
      have hb2 := bcall hb1 hb2
      clear hb1
      go_wp2_with fail
      refine (chH.out _ hb2).mono ?_
      rintro e w3 ⟨a4, c4, a5, c5, rfl, hA, hB, hb3⟩
      have hb3 := bcall hb2 hb3
      clear hb2
      have cd := cdH.out _ hb3 _ _ hA
      have cdK := Lib.hid cd
      have lA := hA.le
      have lB := hB.le
      clear cd hA hB
      go_wp2_with fail
      refine cdK.out.mono ?_
      rintro e w4 ⟨rfl, hb4⟩
      go_wp2_with fail
      go_ret
      exact ⟨ret_bool hmH.out.symm, bcall hb3 hb4⟩
    · have hmH := Lib.hid (show detsB s m n = false by unfold detsB; rw [hx, hy, decide_eq_false h0]; rfl)
      have ch := fun W (hb : Below w.heap.size w W) => halves_no (.slice a1 s.length c1) a2 c2 m W (h2.below hb) (okT_parts hx).2.1 h0
      have chH := Lib.hid ch
      clear ch hx hy h1 h2 h3 h0
      go_enter Tryd.func10, Tryd.ntmps10
      go_wp2_with fail
      refine v1H.out.mono ?_
      rintro e w1 ⟨rfl, hb1⟩
      go_wp2_with fail
      refine (v2H.out _ hb1).mono ?_
      rintro e w2 ⟨rfl, hb2⟩
      have hb2 := bcall hb1 hb2
      clear hb1
      go_wp2_with fail
      refine (chH.out _ hb2).mono ?_
      rintro e w3 ⟨rfl, rfl⟩
      go_wp2_with fail
      go_ret
      exact ⟨ret_bool hmH.out.symm, hb2⟩
end Go.Proofs.YtfcbdlfanmddbaaDoor

/- Walks: ValidProof (both), SameSteps. -/
namespace Go.Proofs.YtfcbdlfanmddbaaDoor
open Go Go.RowKit Go.Maps

end Go.Proofs.YtfcbdlfanmddbaaDoor

/- Walks: a copy of a list of steps. -/
namespace Go.Proofs.YtfcbdlfanmddbaaDoor
open Go Go.RowKit Go.Maps

abbrev OwnSt (w : World) (base : Nat) (v : Value) (l : List Stp) : Prop := OwnL stpE (fun _ => False) w base 63 v l
def retSt (w : World) (l : List Stp) (e : Ending) (w' : World) : Prop := ∃ v, e = .returned v ∧ OwnSt w' w.heap.size v l ∧ Below w.heap.size w w'
def retStE (r : List Stp × Int) (w : World) (e : Ending) (w' : World) : Prop := ∃ v, e = .returned (.tuple #[v, .int .i64 r.2]) ∧ OwnSt w' w.heap.size v r.1 ∧ Below w.heap.size w w'
theorem infoStp : (Tryd.prog.info? 63).map (fun i => (i.zero, i.size, i.bytes)) = some (some (.agg #[.int .i64 0, .int .i64 0, .int .i64 0]), 3, 24) := by kernel_rfl
theorem OwnSt.steps {w : World} {base : Nat} {v : Value} {l : List Stp} (h : OwnSt w base v l) : ∃ a c, v = .slice a l.length c ∧ Steps (fun b => base ≤ b) w a c l := h.slB (fun _ h => h.elim)
end Go.Proofs.YtfcbdlfanmddbaaDoor

/- Walks: kernel.Joined. -/
namespace Go.Proofs.YtfcbdlfanmddbaaDoor
open Go Go.RowKit Go.Maps

theorem stp_R {S : Nat → Prop} {w : World} {y : Stp} (h : stpR y) : stpE.R S w [.int .i64 y.1, .int .i64 y.2.1, .int .i64 y.2.2] y := ⟨[_], [_, _], rfl, ⟨rfl, h.1⟩, [_], [_], rfl, ⟨rfl, h.2.1⟩, rfl, h.2.2⟩
theorem okSteps_at {G : Int} {q : List Stp} (h : okSteps G 0 q = true) (k : Nat) (hk : k < q.length) : rightB G k q[k] = true := by
  have h1 := okSteps_take q 0 (k + 1) h
  rw [List.take_succ_eq_append_getElem hk, okSteps_snoc, Bool.and_eq_true, List.length_take, Nat.min_eq_left (by omega), Nat.zero_add] at h1
  exact h1.2
def jrel (p q : List Stp) (w : World) (v i : Value) (wr : World) : Prop := ∃ k : Nat, k ≤ q.length ∧ i = .int .i64 k ∧ OwnSt wr w.heap.size v (p ++ (q.take k).map (shS p.length)) ∧ Below w.heap.size w wr
end Go.Proofs.YtfcbdlfanmddbaaDoor
