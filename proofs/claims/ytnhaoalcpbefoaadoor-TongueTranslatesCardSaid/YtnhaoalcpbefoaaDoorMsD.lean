/- The proof of a statement, some of its texts joined in build order: part D. -/
import Derived.Test.YtnhaoalcpbefoaaDoorMsB
import Derived.Test.YtnhaoalcpbefoaaDoorMathTok2
import Derived.Test.YtnhaoalcpbefoaaDoorMsC
import Derived.Lib.OthersKept
import Derived.Lib.SlicesCompact
import Derived.Test.YtnhaoalcpbefoaaDoorShSort
import Derived.Test.YtnhaoalcpbefoaaDoorWalkF
import Derived.Lib.OwnBridge
import Derived.Shelf.Slices.CompactI
import Derived.Shelf.Sort.Plain
import Derived.Shelf.Slices.In.SortNone
import Derived.Test.YtnhaoalcpbefoaaDoorMathWays2
import Derived.Test.YtnhaoalcpbefoaaDoorWalkD
import Derived.Test.YtnhaoalcpbefoaaDoorMsM
import Derived.Test.YtnhaoalcpbefoaaDoorShCut
import Derived.Test.YtnhaoalcpbefoaaDoorShAtoi
import Derived.Test.YtnhaoalcpbefoaaDoorVMap
/- Detachment and proofs step by step, in plain words. No program is named. -/
namespace Go.Proofs.YtnhaoalcpbefoaaDoor

abbrev Stp := Int × Int × Int
/-- the detachment of a major and a minor -/
noncomputable def detE (s : Sg) (m n : List Int) : List Int × Int :=
  if okT s m = true ∧ okT s n = true then (if m.headD 0 = 0 then uniE s ((argsT s m).getD 0 []) (apartT n) ((argsT s m).getD 1 []) else ([], 10)) else ([], 1)
theorem ar_zero {s : Sg} (hok : okSign s = true) : ar s 0 = 2 := by
  have hl := (okSign_len hok).1
  unfold okSign at hok
  simp only [Bool.and_eq_true, decide_eq_true_eq] at hok
  unfold ar arC
  rw [if_neg (by omega), if_pos ⟨by omega, by omega⟩]
  have := hok.2
  simp only [Int.toNat_zero] at *
  rw [this]; rfl
theorem halves {s : Sg} {m : List Int} (h : okT s m = true) (h0 : m.headD 0 = 0) : ∃ A B, argsT s m = [A, B] ∧ m = 0 :: (A ++ B) ∧ okT s A = true ∧ okT s B = true := by
  obtain ⟨h1, h2, h3⟩ := argsT_spec h
  rw [h0] at h1 h2
  rw [ar_zero (okT_parts h).1] at h1
  obtain ⟨L, hL⟩ : ∃ L, argsT s m = L := ⟨_, rfl⟩
  rw [hL] at h1 h2 h3
  match L, h1 with
  | [A, B], _ =>
    refine ⟨A, B, hL, ?_, h3 A (by simp), h3 B (by simp)⟩
    rw [h2]; simp
theorem halves_of {s : Sg} {m A B : List Int} (h : okT s m = true) (e : m = 0 :: (A ++ B)) (hA : W1 s A) : argsT s m = [A, B] ∧ okT s A = true ∧ okT s B = true := by
  obtain ⟨A', B', h1, h2, h3, h4⟩ := halves h (by rw [e]; rfl)
  rw [e] at h2
  obtain ⟨e1, e2⟩ := W1.uniq hA (okT_w1 h3) (List.cons.inj h2).2
  subst e1 e2
  exact ⟨h1, h3, h4⟩
theorem detE_at {s : Sg} {m n A B : List Int} (h : okT s m = true) (hn : okT s n = true) (e : m = 0 :: (A ++ B)) (hA : W1 s A) : detE s m n = uniE s A (apartT n) B := by
  unfold detE
  rw [if_pos ⟨h, hn⟩, if_pos (by rw [e]; rfl), (halves_of h e hA).1]; rfl
theorem detE_state {s : Sg} {m n : List Int} (h : okT s m = true) (hn : okT s n = true) (h0 : m.headD 0 ≠ 0) : detE s m n = ([], 10) := by
  unfold detE
  rw [if_pos ⟨h, hn⟩, if_neg h0]
theorem det_cases {s : Sg} {m n : List Int} (h : okT s m = true) (hn : okT s n = true) :
    (m.headD 0 ≠ 0 ∧ detE s m n = ([], 10)) ∨ ∃ A B, argsT s m = [A, B] ∧ m = 0 :: (A ++ B) ∧ okT s A = true ∧ okT s B = true ∧
      ((∃ θ, IsMgu s A (apartT n) θ ∧ detE s m n = madeE θ B ∧ uniB s A (apartT n) = true) ∨ ((∀ η, Wsub s η → ap η A ≠ ap η (apartT n)) ∧ detE s m n = ([], 8) ∧ uniB s A (apartT n) = false)) := by
  by_cases h0 : m.headD 0 = 0
  · obtain ⟨A, B, h1, h2, h3, h4⟩ := halves h h0
    refine .inr ⟨A, B, h1, h2, h3, h4, ?_⟩
    rw [detE_at h hn h2 (okT_w1 h3)]
    rcases uni_cases (okT_parts h).1 (okT_w1 h3) (apartT_w (okT_w1 hn)) (okT_Rg h3) (apartT_rg hn) with ⟨θ, hθ⟩ | ⟨k1, k2, k3⟩
    · exact .inl ⟨θ, hθ, uniE_some hθ B, uniB_some hθ⟩
    · exact .inr ⟨k1, k3 B, k2⟩
  · exact .inl ⟨h0, detE_state h hn h0⟩
theorem det_ok {s : Sg} {m n : List Int} (h : (detE s m n).2 = 0) : okT s m = true ∧ okT s n = true ∧ okT s (detE s m n).1 = true := by
  by_cases hk : okT s m = true ∧ okT s n = true
  · refine ⟨hk.1, hk.2, ?_⟩
    rcases det_cases hk.1 hk.2 with ⟨-, e⟩ | ⟨A, B, -, -, -, hB, (⟨θ, hθ, e, -⟩ | ⟨-, e, -⟩)⟩
    · rw [e] at h; cases h
    · rw [e] at h ⊢; exact (madeE_ok (okT_parts hk.1).1 hθ.th (okT_w1 hB) h).1
    · rw [e] at h; cases h
  · unfold detE at h; rw [if_neg hk] at h; cases h
theorem det_err {s : Sg} {m n : List Int} (hm : okT s m = true) (hn : okT s n = true) : (detE s m n).2 = 0 ∨ ((detE s m n).1 = [] ∧ ((detE s m n).2 = 4 ∨ (detE s m n).2 = 8 ∨ (detE s m n).2 = 10)) := by
  rcases det_cases hm hn with ⟨-, e⟩ | ⟨A, B, -, -, -, hB, (⟨θ, hθ, e, -⟩ | ⟨-, e, -⟩)⟩
  · rw [e]; exact .inr ⟨rfl, .inr (.inr rfl)⟩
  · rw [e]; unfold madeE; split
    · exact .inl rfl
    · exact .inr ⟨rfl, .inl rfl⟩
  · rw [e]; exact .inr ⟨rfl, .inr (.inl rfl)⟩
/-- b is an instance of a -/
def Ins (s : Sg) (a b : List Int) : Prop := ∃ η, Wsub s η ∧ ap η a = b
theorem Ins.canon {s : Sg} {a b : List Int} (h : Ins s a b) : Ins s (canon a) (canon b) := by
  obtain ⟨η, hw, he⟩ := h
  obtain ⟨τ, ht, hb⟩ := canon_back (s := s) a
  refine ⟨fun n => ap (fun n => [canonW (varsC b) n]) (ap η (τ n)), fun n hn => ((ht n hn).ap hw).ap (fun m hm => W1.var (canonW_lt hm)), ?_⟩
  rw [← ap_ap (fun n => ap η (τ n)), ← ap_ap τ η, hb, he, ← canon_ap]
/-- more general ones say more -/
theorem det_mono {s : Sg} {M N M' N' : List Int} (hM : okT s M = true) (hN : okT s N = true) (iM : Ins s M M') (iN : Ins s N N') (h : (detE s M' N').2 = 0) :
    (detE s M N).2 = 4 ∨ (detE s M N).2 = 10 ∨ ((detE s M N).2 = 0 ∧ Ins s (detE s M N).1 (detE s M' N').1) := by
  obtain ⟨hM', hN', -⟩ := det_ok h
  obtain ⟨η, hη, rfl⟩ := iM
  obtain ⟨ζ, hζ, rfl⟩ := iN
  rcases det_cases hM hN with ⟨-, e⟩ | ⟨A, B, -, eM, hA, hB, hU⟩
  · rw [e]; exact .inr (.inl rfl)
  · have eM' : ap η M = 0 :: (ap η A ++ ap η B) := by rw [eM, ap_pos (by decide), ap_append]
    have hd := detE_at hM' hN' eM' ((okT_w1 hA).ap hη)
    have hok := (okT_parts hM).1
    have hA' := (halves_of hM' eM' ((okT_w1 hA).ap hη)).2.1
    have hB' := (halves_of hM' eM' ((okT_w1 hA).ap hη)).2.2
    rcases uni_cases hok (okT_w1 hA') (apartT_w (okT_w1 hN')) (okT_Rg hA') (apartT_rg hN') with ⟨θ', hθ'⟩ | ⟨-, -, k3⟩
    · rw [hd, uniE_some hθ'] at h ⊢
      have hξ : Wsub s (fun n => if n < -12 then ap θ' (apartT (ζ (n + 12))) else ap θ' (η n)) := fun n hn => by
        show W1 s (if n < -12 then ap θ' (apartT (ζ (n + 12))) else ap θ' (η n))
        split
        · exact (apartT_w (hζ _ (by omega))).ap hθ'.th
        · exact (hη n hn).ap hθ'.th
      have low : ∀ t : List Int, okT s t = true → ap (fun n => if n < -12 then ap θ' (apartT (ζ (n + 12))) else ap θ' (η n)) t = ap θ' (ap η t) := fun t ht => by
        rw [ap_ap]
        refine ap_congr (fun n hn h0 => if_neg ?_)
        have := okT_rg ht n hn h0; omega
      have hi : ap (fun n => if n < -12 then ap θ' (apartT (ζ (n + 12))) else ap θ' (η n)) (apartT N) = ap θ' (apartT (ap ζ N)) := by
        rw [ap_apart, apartT_eq (ap ζ N), ap_ap ζ, ap_ap]
        refine ap_congr (fun n hn h0 => ?_)
        rw [if_pos (by omega), show n - 12 + 12 = n by omega, apartT_eq]
      have heq := (low A hA).trans (hθ'.eq.trans hi.symm)
      rcases hU with ⟨θ, hθ, e, -⟩ | ⟨k1, -, -⟩
      · rw [e]
        by_cases hz : (madeE θ B).2 = 0
        · refine .inr (.inr ⟨hz, ?_⟩)
          rw [(madeE_ok hok hθ.th (okT_w1 hB) hz).2, (madeE_ok hok hθ'.th (okT_w1 hB') h).2]
          refine Ins.canon ⟨_, hξ, ?_⟩
          rw [hθ.most hξ heq B, low B hB]
        · refine .inl ?_
          unfold madeE at hz ⊢
          split
          · rename_i hc; rw [if_pos hc] at hz; exact (hz rfl).elim
          · rfl
      · exact (k1 _ hξ heq).elim
    · rw [hd, k3] at h; cases h

/-! ### proofs -/
def rightB (G : Int) (n : Nat) (x : Stp) : Bool := (decide (x.1 = 1) && (decide (0 ≤ x.2.1) && decide (x.2.1 ≤ G - 1)) && decide (x.2.2 = 0)) || (decide (x.1 = 2) && (decide (0 ≤ x.2.1) && decide (x.2.1 ≤ (n : Int) - 1)) && (decide (0 ≤ x.2.2) && decide (x.2.2 ≤ (n : Int) - 1)))
def okSteps (G : Int) : Nat → List Stp → Bool
  | _, [] => true
  | n, x :: p => rightB G n x && okSteps G (n + 1) p
def validP (G : Int) (p : List Stp) : Bool := okSteps G 0 p && (decide (1 ≤ p.length) && decide (p.length ≤ 60))
def proofB (G : Int) (p : List Stp) : Bool := (decide (0 ≤ G) && decide (G ≤ 60)) && validP G p
def givensB (s : Sg) (g : List (List Int)) : Bool := okSign s && decide (g.length ≤ 60) && g.all (okT s)
noncomputable def stepE (s : Sg) (g l : List (List Int)) (x : Stp) : List Int × Int :=
  if x.1 = 1 then (canon (g.getD x.2.1.toNat []), 0) else detE s (l.getD x.2.1.toNat []) (l.getD x.2.2.toNat [])
noncomputable def runL (s : Sg) (g : List (List Int)) : List Stp → List (List Int) → List (List Int) × Int
  | [], l => (l, 0)
  | x :: p, l => if (stepE s g l x).2 = 0 then runL s g p (l ++ [(stepE s g l x).1]) else (l, (stepE s g l x).2)
def askedB (s : Sg) (g : List (List Int)) (p : List Stp) : Bool := givensB s g && validP g.length p
noncomputable def runR (s : Sg) (g : List (List Int)) (p : List Stp) : List (List Int) × Int × Int :=
  if askedB s g p = true then (if (runL s g p []).2 = 0 then ((runL s g p []).1, -1, 0) else ((runL s g p []).1, ((runL s g p []).1.length : Int), (runL s g p []).2)) else ([], 0, 1)
noncomputable def saysE (s : Sg) (g : List (List Int)) (p : List Stp) : List Int × Int :=
  if askedB s g p = true then (if (runL s g p []).2 = 0 then ((runL s g p []).1.getLastD [], 0) else ([], (runL s g p []).2)) else ([], 1)
theorem rightB_cite {G : Int} {n : Nat} {x : Stp} (h : rightB G n x = true) (h1 : x.1 = 1) : 0 ≤ x.2.1 ∧ x.2.1 < G ∧ x.2.2 = 0 := by
  simp only [rightB, Bool.or_eq_true, Bool.and_eq_true, decide_eq_true_eq] at h; omega
theorem rightB_detach {G : Int} {n : Nat} {x : Stp} (h : rightB G n x = true) (h1 : x.1 ≠ 1) : x.1 = 2 ∧ 0 ≤ x.2.1 ∧ x.2.1 < n ∧ 0 ≤ x.2.2 ∧ x.2.2 < n := by
  simp only [rightB, Bool.or_eq_true, Bool.and_eq_true, decide_eq_true_eq] at h; omega
theorem givensB_parts {s : Sg} {g : List (List Int)} (h : givensB s g = true) : okSign s = true ∧ g.length ≤ 60 ∧ ∀ t ∈ g, okT s t = true := by
  simp only [givensB, Bool.and_eq_true, decide_eq_true_eq, List.all_eq_true] at h
  exact ⟨h.1.1, h.1.2, h.2⟩
theorem getD_mem {α : Type} {l : List α} {n : Nat} (d : α) (h : n < l.length) : l.getD n d ∈ l := by
  rw [List.getD_eq_getElem?_getD, List.getElem?_eq_getElem h]; exact List.getElem_mem h
/-- what a right step says is valid -/
theorem step_okT {s : Sg} {g l : List (List Int)} {x : Stp} (hg : ∀ t ∈ g, okT s t = true) (hr : rightB g.length l.length x = true) (h : (stepE s g l x).2 = 0) : okT s (stepE s g l x).1 = true := by
  unfold stepE at h ⊢
  by_cases h1 : x.1 = 1
  · rw [if_pos h1]
    obtain ⟨g1, g2, -⟩ := rightB_cite hr h1
    exact okT_canon (hg _ (getD_mem [] (by omega)))
  · rw [if_neg h1] at h ⊢
    exact (det_ok h).2.2
theorem runL_okT {s : Sg} {g : List (List Int)} (hg : ∀ t ∈ g, okT s t = true) : ∀ (p : List Stp) (l : List (List Int)), (∀ t ∈ l, okT s t = true) → okSteps g.length l.length p = true → (∀ t ∈ (runL s g p l).1, okT s t = true) ∧ ((runL s g p l).2 = 0 → (runL s g p l).1.length = l.length + p.length) ∧ (runL s g p l).1.length ≤ l.length + p.length
  | [], l, hl, _ => ⟨hl, fun _ => rfl, Nat.le_refl _⟩
  | x :: p, l, hl, ho => by
    simp only [okSteps, Bool.and_eq_true] at ho
    rw [runL]
    split
    · rename_i hz
      have hx := step_okT hg ho.1 hz
      have hl' : ∀ t ∈ l ++ [(stepE s g l x).1], okT s t = true := fun t ht => by
        rcases List.mem_append.1 ht with h | h
        · exact hl t h
        · rw [List.mem_singleton] at h; rw [h]; exact hx
      have ih := runL_okT hg p (l ++ [(stepE s g l x).1]) hl' (by rw [List.length_append, List.length_singleton]; exact ho.2)
      rw [List.length_append, List.length_singleton] at ih
      refine ⟨ih.1, fun h => ?_, ?_⟩
      · rw [ih.2.1 h, List.length_cons]; omega
      · rw [List.length_cons]; omega
    · rename_i hz
      exact ⟨hl, fun h => (hz h).elim, by simp⟩
theorem runL_append {s : Sg} {g : List (List Int)} : ∀ (p q : List Stp) (l : List (List Int)), runL s g (p ++ q) l = if (runL s g p l).2 = 0 then runL s g q (runL s g p l).1 else runL s g p l
  | [], q, l => by simp [runL]
  | x :: p, q, l => by
    rw [List.cons_append, runL, runL]
    split
    · exact runL_append p q _
    · rfl
theorem runL_more {s : Sg} {g : List (List Int)} : ∀ (p : List Stp) (l : List (List Int)), l <+: (runL s g p l).1
  | [], l => List.prefix_refl _
  | x :: p, l => by
    rw [runL]
    split
    · exact (List.prefix_append _ _).trans (runL_more p _)
    · exact List.prefix_refl _
/-- P4.3 -/
theorem run_mono {s : Sg} {g g' : List (List Int)} (hg : ∀ t ∈ g, okT s t = true) (hg' : ∀ t ∈ g', okT s t = true) (hlen : g.length = g'.length) (hi : ∀ i, i < g.length → Ins s (g.getD i []) (g'.getD i [])) :
    ∀ (p : List Stp) (l l' : List (List Int)), (∀ t ∈ l, okT s t = true) → (∀ t ∈ l', okT s t = true) → l.length = l'.length → (∀ i, i < l.length → Ins s (l.getD i []) (l'.getD i [])) → okSteps g.length l.length p = true → (runL s g' p l').2 = 0 →
      (runL s g p l).2 = 4 ∨ (runL s g p l).2 = 10 ∨ ((runL s g p l).2 = 0 ∧ (runL s g p l).1.length = (runL s g' p l').1.length ∧ ∀ i, i < (runL s g p l).1.length → Ins s ((runL s g p l).1.getD i []) ((runL s g' p l').1.getD i []))
  | [], l, l', hl, hl', hll, hii, _, _ => .inr (.inr ⟨rfl, hll, hii⟩)
  | x :: p, l, l', hl, hl', hll, hii, ho, hz => by
    simp only [okSteps, Bool.and_eq_true] at ho
    rw [runL] at hz
    by_cases hx' : (stepE s g' l' x).2 = 0
    · rw [if_pos hx'] at hz
      have hs : (stepE s g l x).2 = 4 ∨ (stepE s g l x).2 = 10 ∨ ((stepE s g l x).2 = 0 ∧ Ins s (stepE s g l x).1 (stepE s g' l' x).1) := by
        unfold stepE at hx' ⊢
        by_cases h1 : x.1 = 1
        · simp only [if_pos h1]
          obtain ⟨g1, g2, -⟩ := rightB_cite ho.1 h1
          exact .inr (.inr ⟨trivial, (hi _ (by omega)).canon⟩)
        · simp only [if_neg h1] at hx' ⊢
          obtain ⟨-, d1, d2, d3, d4⟩ := rightB_detach ho.1 h1
          exact det_mono (hl _ (getD_mem [] (by omega))) (hl _ (getD_mem [] (by omega))) (hii _ (by omega)) (hii _ (by omega)) hx'
      rw [runL, runL, if_pos hx']
      rcases hs with h | h | ⟨h, hI⟩
      · rw [if_neg (by omega)]; exact .inl h
      · rw [if_neg (by omega)]; exact .inr (.inl h)
      · rw [if_pos h]
        have o1 := step_okT hg ho.1 h
        have o2 := step_okT hg' (by rw [← hlen, ← hll]; exact ho.1) hx'
        refine run_mono hg hg' hlen hi p _ _ (fun t ht => ?_) (fun t ht => ?_) (by simp [hll]) (fun i hil => ?_) (by rw [List.length_append, List.length_singleton]; exact ho.2) hz
        · rcases List.mem_append.1 ht with k | k
          · exact hl t k
          · rw [List.mem_singleton] at k; rw [k]; exact o1
        · rcases List.mem_append.1 ht with k | k
          · exact hl' t k
          · rw [List.mem_singleton] at k; rw [k]; exact o2
        · rw [List.length_append, List.length_singleton] at hil
          by_cases hlt : i < l.length
          · rw [List.getD_eq_getElem?_getD, List.getD_eq_getElem?_getD, List.getElem?_append_left hlt, List.getElem?_append_left (by omega), ← List.getD_eq_getElem?_getD, ← List.getD_eq_getElem?_getD]
            exact hii i hlt
          · obtain rfl : i = l.length := by omega
            rw [List.getD_eq_getElem?_getD, List.getD_eq_getElem?_getD, List.getElem?_append_right (Nat.le_refl _), List.getElem?_append_right (by omega), hll]
            simpa using hI
    · rw [if_neg hx'] at hz; exact (hx' hz).elim
end Go.Proofs.YtnhaoalcpbefoaaDoor

/- Proofs joined and moved, in plain words. No program is named. -/
namespace Go.Proofs.YtnhaoalcpbefoaaDoor

def shS (k : Nat) (x : Stp) : Stp := if x.1 = 2 then (x.1, x.2.1 + k, x.2.2 + k) else x
def mvS (to : List Int) (x : Stp) : Stp := if x.1 = 1 then (x.1, to.getD x.2.1.toNat 0, x.2.2) else x
def joinedL (p q : List Stp) : List Stp := p ++ q.map (shS p.length) ++ [(2, (p.length : Int) - 1, (p.length : Int) + q.length - 1)]
def joinedE (G : Int) (p q : List Stp) : List Stp × Int := if proofB G p = true ∧ proofB G q = true then (if p.length + q.length + 1 ≤ 60 then (joinedL p q, 0) else ([], 4)) else ([], 1)
def movedE (G : Int) (p : List Stp) (to : List Int) (count : Int) : List Stp × Int :=
  if proofB G p = true then (if (to.length : Int) = G then (if (decide (0 ≤ count) && decide (count ≤ 60) && to.all (fun n => decide (0 ≤ n) && decide (n ≤ count - 1))) = true then (p.map (mvS to), 0) else ([], 7)) else ([], 9)) else ([], 1)

theorem okSteps_append {G : Int} : ∀ (p q : List Stp) (n : Nat), okSteps G n (p ++ q) = (okSteps G n p && okSteps G (n + p.length) q)
  | [], q, n => by simp [okSteps]
  | x :: p, q, n => by
    rw [List.cons_append, okSteps, okSteps, okSteps_append p q (n + 1), Bool.and_assoc, List.length_cons, show n + 1 + p.length = n + (p.length + 1) by omega]
theorem rightB_sh {G : Int} {n k : Nat} {x : Stp} (h : rightB G n x = true) : rightB G (n + k) (shS k x) = true := by
  unfold shS
  by_cases h2 : x.1 = 2
  · rw [if_pos h2]
    obtain ⟨-, d1, d2, d3, d4⟩ := rightB_detach h (by omega)
    simp only [rightB, Bool.or_eq_true, Bool.and_eq_true, decide_eq_true_eq]
    right
    exact ⟨⟨h2, by omega, by omega⟩, by omega, by omega⟩
  · rw [if_neg h2]
    have h1 : x.1 = 1 := by
      simp only [rightB, Bool.or_eq_true, Bool.and_eq_true, decide_eq_true_eq] at h; omega
    obtain ⟨g1, g2, g3⟩ := rightB_cite h h1
    simp only [rightB, Bool.or_eq_true, Bool.and_eq_true, decide_eq_true_eq]
    left
    exact ⟨⟨h1, by omega, by omega⟩, g3⟩
theorem okSteps_sh {G : Int} {k : Nat} : ∀ (q : List Stp) (n : Nat), okSteps G n q = true → okSteps G (n + k) (q.map (shS k)) = true
  | [], _, _ => rfl
  | x :: q, n, h => by
    simp only [okSteps, Bool.and_eq_true] at h
    rw [List.map_cons, okSteps, Bool.and_eq_true, show n + k + 1 = n + 1 + k by omega]
    exact ⟨rightB_sh h.1, okSteps_sh q (n + 1) h.2⟩
theorem joined_ok {G : Int} {p q : List Stp} (hp : validP G p = true) (hq : validP G q = true) (hl : p.length + q.length + 1 ≤ 60) : validP G (joinedL p q) = true := by
  simp only [validP, Bool.and_eq_true, decide_eq_true_eq] at hp hq ⊢
  refine ⟨?_, ?_, ?_⟩
  · unfold joinedL
    rw [okSteps_append, okSteps_append, Bool.and_eq_true, Bool.and_eq_true]
    refine ⟨⟨hp.1, okSteps_sh q 0 hq.1⟩, ?_⟩
    simp only [okSteps, rightB, Bool.or_eq_true, Bool.and_eq_true, decide_eq_true_eq, List.length_append, List.length_map, and_true]
    right
    exact ⟨⟨trivial, by omega, by omega⟩, by omega, by omega⟩
  · unfold joinedL; simp; omega
  · unfold joinedL; simp; omega
theorem getD_app {α : Type} {l m : List α} (d : α) (n : Nat) : (l ++ m).getD (l.length + n) d = m.getD n d := by
  rw [List.getD_eq_getElem?_getD, List.getElem?_append_right (by omega), List.getD_eq_getElem?_getD]; congr 2; omega
theorem run_sh {s : Sg} {g lp : List (List Int)} : ∀ (q : List Stp) (l : List (List Int)), okSteps g.length l.length q = true → runL s g (q.map (shS lp.length)) (lp ++ l) = (lp ++ (runL s g q l).1, (runL s g q l).2)
  | [], l, _ => rfl
  | x :: q, l, h => by
    simp only [okSteps, Bool.and_eq_true] at h
    have hs : stepE s g (lp ++ l) (shS lp.length x) = stepE s g l x := by
      by_cases h1 : x.1 = 1
      · have e1 : shS lp.length x = x := by unfold shS; exact if_neg (by omega)
        rw [e1]
        unfold stepE
        rw [if_pos h1, if_pos h1]
      · obtain ⟨h2, d1, d2, d3, d4⟩ := rightB_detach h.1 h1
        have e1 : shS lp.length x = (x.1, x.2.1 + lp.length, x.2.2 + lp.length) := by unfold shS; exact if_pos h2
        rw [e1]
        unfold stepE
        simp only
        rw [if_neg h1, if_neg h1, show (x.2.1 + (lp.length : Int)).toNat = lp.length + x.2.1.toNat by omega, show (x.2.2 + (lp.length : Int)).toNat = lp.length + x.2.2.toNat by omega, getD_app, getD_app]
    rw [List.map_cons, runL, runL, hs]
    split
    · have := run_sh (s := s) (g := g) (lp := lp) q (l ++ [(stepE s g l x).1]) (by rw [List.length_append, List.length_singleton]; exact h.2)
      rw [← List.append_assoc] at this
      exact this
    · rfl
theorem validP_parts {G : Int} {p : List Stp} (h : validP G p = true) : okSteps G 0 p = true ∧ 1 ≤ p.length ∧ p.length ≤ 60 := by
  simp only [validP, Bool.and_eq_true, decide_eq_true_eq] at h; exact h
theorem askedB_parts {s : Sg} {g : List (List Int)} {p : List Stp} (h : askedB s g p = true) : givensB s g = true ∧ validP g.length p = true := by
  simpa only [askedB, Bool.and_eq_true] using h
theorem says_ok {s : Sg} {g : List (List Int)} {p : List Stp} (h : (saysE s g p).2 = 0) : askedB s g p = true ∧ (runL s g p []).2 = 0 ∧ (saysE s g p).1 = (runL s g p []).1.getLastD [] ∧ (runL s g p []).1.length = p.length ∧ okT s (saysE s g p).1 = true := by
  unfold saysE at h ⊢
  by_cases ha : askedB s g p = true
  · rw [if_pos ha] at h ⊢
    by_cases hz : (runL s g p []).2 = 0
    · rw [if_pos hz] at h ⊢
      obtain ⟨hg, hv⟩ := askedB_parts ha
      have h3 := (givensB_parts hg).2.2
      have hr := runL_okT h3 p [] (by simp) (validP_parts hv).1
      have hlen := hr.2.1 hz
      simp only [List.length_nil, Nat.zero_add] at hlen
      refine ⟨ha, hz, rfl, hlen, hr.1 _ ?_⟩
      have := (validP_parts hv).2.1
      rw [List.getLastD_eq_getLast?]
      cases hh : (runL s g p []).1.getLast? with
      | none => rw [List.getLast?_eq_none_iff] at hh; rw [hh] at hlen; simp at hlen; omega
      | some y => exact List.mem_of_getLast? hh
    · rw [if_neg hz] at h; exact (hz h).elim
  · rw [if_neg ha] at h; cases h
theorem lastD_getD {l : List (List Int)} : l.getD (l.length - 1) [] = l.getLastD [] := by
  rw [List.getLastD_eq_getLast?, List.getLast?_eq_getElem?, List.getD_eq_getElem?_getD]
/-- joined proofs say the detachment of what both say -/
theorem says_joined {s : Sg} {g : List (List Int)} {p q : List Stp} (hp : (saysE s g p).2 = 0) (hq : (saysE s g q).2 = 0) (hl : p.length + q.length + 1 ≤ 60) : saysE s g (joinedL p q) = detE s (saysE s g p).1 (saysE s g q).1 := by
  obtain ⟨a1, a2, a3, a4, a5⟩ := says_ok hp
  obtain ⟨b1, b2, b3, b4, b5⟩ := says_ok hq
  obtain ⟨hg, vp⟩ := askedB_parts a1
  obtain ⟨-, vq⟩ := askedB_parts b1
  have hask : askedB s g (joinedL p q) = true := by unfold askedB; rw [hg, joined_ok vp vq hl]; rfl
  rw [a3, b3]
  rw [a3] at a5
  rw [b3] at b5
  have hpl := (validP_parts vp).2.1
  have hql := (validP_parts vq).2.1
  obtain ⟨LP, hLP⟩ : ∃ L, (runL s g p []).1 = L := ⟨_, rfl⟩
  obtain ⟨LQ, hLQ⟩ : ∃ L, (runL s g q []).1 = L := ⟨_, rfl⟩
  rw [hLP] at a4 a5 ⊢
  rw [hLQ] at b4 b5 ⊢
  have hrun : runL s g (p ++ q.map (shS p.length)) [] = (LP ++ LQ, 0) := by
    rw [runL_append, if_pos a2, hLP]
    have := run_sh (s := s) (g := g) (lp := LP) q [] (validP_parts vq).1
    rw [List.append_nil, a4, hLQ, b2] at this
    exact this
  have hstep : stepE s g (LP ++ LQ) (2, (p.length : Int) - 1, (p.length : Int) + q.length - 1) = detE s (LP.getLastD []) (LQ.getLastD []) := by
    unfold stepE
    rw [if_neg (fun h => by cases h)]
    simp only
    rw [show ((p.length : Int) - 1).toNat = p.length - 1 by omega, show ((p.length : Int) + q.length - 1).toNat = LP.length + (q.length - 1) by omega, getD_app, ← lastD_getD, ← lastD_getD (l := LQ), a4, b4]
    congr 1
    rw [List.getD_eq_getElem?_getD, List.getElem?_append_left (by omega), ← List.getD_eq_getElem?_getD]
  have hd := det_err a5 b5
  unfold saysE
  rw [if_pos hask]
  unfold joinedL
  rw [runL_append, hrun, if_pos rfl]
  simp only [runL, hstep]
  rcases hd with h | ⟨h1, h2⟩
  · rw [if_pos h]
    simp only [if_true]
    rw [List.getLastD_concat, ← h]
  · have : ¬ (detE s (LP.getLastD []) (LQ.getLastD [])).2 = 0 := by omega
    rw [if_neg this]
    simp only
    rw [if_neg this]
    exact Prod.ext h1.symm rfl
/-- moved proofs say of the moved givens what the proofs say -/
theorem run_moved {s : Sg} {g : List (List Int)} {to : List Int} : ∀ (p : List Stp) (l : List (List Int)), okSteps to.length l.length p = true → runL s (to.map (fun n => g.getD n.toNat [])) p l = runL s g (p.map (mvS to)) l
  | [], l, _ => rfl
  | x :: p, l, h => by
    simp only [okSteps, Bool.and_eq_true] at h
    have hs : stepE s (to.map (fun n => g.getD n.toNat [])) l x = stepE s g l (mvS to x) := by
      by_cases h1 : x.1 = 1
      · obtain ⟨g1, g2, -⟩ := rightB_cite h.1 h1
        have e1 : mvS to x = (x.1, to.getD x.2.1.toNat 0, x.2.2) := by unfold mvS; exact if_pos h1
        rw [e1]
        unfold stepE
        simp only [if_pos h1]
        rw [List.getD_eq_getElem?_getD, List.getElem?_map, List.getD_eq_getElem?_getD (l := to), List.getElem?_eq_getElem (by omega)]
        rfl
      · have e1 : mvS to x = x := by unfold mvS; exact if_neg h1
        rw [e1]
        unfold stepE
        rw [if_neg h1, if_neg h1]
    rw [List.map_cons, runL, runL, hs]
    split
    · exact run_moved p _ (by rw [List.length_append, List.length_singleton]; exact h.2)
    · rfl
theorem moved_ok {G : Int} {to : List Int} {count : Int} (hG : (to.length : Int) = G) (hto : ∀ n ∈ to, 0 ≤ n ∧ n ≤ count - 1) : ∀ (p : List Stp) (n : Nat), okSteps G n p = true → okSteps count n (p.map (mvS to)) = true
  | [], _, _ => rfl
  | x :: p, n, h => by
    simp only [okSteps, Bool.and_eq_true] at h
    rw [List.map_cons, okSteps, Bool.and_eq_true]
    refine ⟨?_, moved_ok hG hto p (n + 1) h.2⟩
    unfold mvS
    by_cases h1 : x.1 = 1
    · obtain ⟨g1, g2, g3⟩ := rightB_cite h.1 h1
      rw [if_pos h1]
      have := hto (to.getD x.2.1.toNat 0) (getD_mem 0 (by omega))
      simp only [rightB, Bool.or_eq_true, Bool.and_eq_true, decide_eq_true_eq]
      left
      exact ⟨⟨h1, by omega, by omega⟩, g3⟩
    · obtain ⟨h2, d1, d2, d3, d4⟩ := rightB_detach h.1 h1
      rw [if_neg h1]
      simp only [rightB, Bool.or_eq_true, Bool.and_eq_true, decide_eq_true_eq]
      right
      exact ⟨⟨h2, by omega, by omega⟩, by omega, by omega⟩
theorem says_moved {s : Sg} {g : List (List Int)} {p : List Stp} {to : List Int} (hg : givensB s g = true) (hto : ∀ n ∈ to, 0 ≤ n ∧ n < g.length) (hp : proofB to.length p = true) :
    saysE s (to.map (fun n => g.getD n.toNat [])) p = saysE s g (p.map (mvS to)) := by
  obtain ⟨g1, g2, g3⟩ := givensB_parts hg
  have hp' := hp
  simp only [proofB, Bool.and_eq_true, decide_eq_true_eq] at hp'
  obtain ⟨⟨-, h60⟩, hv⟩ := hp'
  have a1 : askedB s (to.map (fun n => g.getD n.toNat [])) p = true := by
    unfold askedB givensB
    simp only [Bool.and_eq_true, decide_eq_true_eq, List.all_eq_true, List.length_map]
    refine ⟨⟨⟨g1, by omega⟩, fun t ht => ?_⟩, hv⟩
    obtain ⟨n, hn, rfl⟩ := List.mem_map.1 ht
    have := hto n hn
    exact g3 _ (getD_mem [] (by omega))
  have a2 : askedB s g (p.map (mvS to)) = true := by
    unfold askedB
    rw [hg, Bool.true_and]
    unfold validP
    have := moved_ok rfl (fun n hn => by have := hto n hn; exact ⟨this.1, by omega⟩) p 0 (validP_parts hv).1 (count := (g.length : Int))
    rw [this, List.length_map]
    have h2 := (validP_parts hv).2
    simp only [Bool.true_and, Bool.and_eq_true, decide_eq_true_eq]
    exact h2
  unfold saysE
  rw [if_pos a1, if_pos a2, run_moved p [] (validP_parts hv).1]
end Go.Proofs.YtnhaoalcpbefoaaDoor

/- Trees of proofs as texts, and proofs read back from such texts, in plain words. No program is named. -/
namespace Go.Proofs.YtnhaoalcpbefoaaDoor

/-! ### trees -/
inductive Tr where
  | g (n : Nat)
  | d (a b : Tr)
def digs (n : Nat) : List UInt8 := [UInt8.ofNat (48 + n / 10), UInt8.ofNat (48 + n % 10)]
def Tr.text : Tr → List UInt8
  | .g n => 103 :: digs n
  | .d a b => 68 :: (a.text ++ b.text)
def Tr.leaves : Tr → List Nat
  | .g n => [n]
  | .d a b => a.leaves ++ b.leaves
def Tr.subs : Tr → List Tr
  | .g n => [.g n]
  | .d a b => .d a b :: (a.subs ++ b.subs)
theorem Tr.text_len (t : Tr) : 3 ≤ t.text.length := by
  induction t with
  | g n => simp [Tr.text, digs]
  | d a b iha ihb => simp [Tr.text]; omega
theorem Tr.sub_self (t : Tr) : t ∈ t.subs := by cases t <;> simp [Tr.subs]
/-- the tree of a step, from those of the steps before it -/
def trS (ts : List Tr) (x : Stp) : Tr := if x.1 = 2 then .d (ts.getD x.2.1.toNat (.g 0)) (ts.getD x.2.2.toNat (.g 0)) else .g x.2.1.toNat
def trL : List Stp → List Tr → List Tr
  | [], ts => ts
  | x :: p, ts => trL p (ts ++ [trS ts x])
def trees (p : List Stp) : List Tr := trL p []
theorem trL_append : ∀ (p q : List Stp) (ts : List Tr), trL (p ++ q) ts = trL q (trL p ts)
  | [], _, _ => rfl
  | x :: p, q, ts => by rw [List.cons_append, trL, trL, trL_append p q]
theorem trL_len : ∀ (p : List Stp) (ts : List Tr), (trL p ts).length = ts.length + p.length
  | [], _ => rfl
  | x :: p, ts => by rw [trL, trL_len p, List.length_append, List.length_singleton, List.length_cons]; omega
theorem trees_len (p : List Stp) : (trees p).length = p.length := by unfold trees; rw [trL_len]; simp
theorem trees_snoc (p : List Stp) (x : Stp) : trees (p ++ [x]) = trees p ++ [trS (trees p) x] := by unfold trees; rw [trL_append]; rfl
theorem trees_more : ∀ (q p : List Stp), ∃ us, trees (p ++ q) = trees p ++ us := by
  intro q
  induction q with
  | nil => intro p; exact ⟨[], by simp⟩
  | cons x q ih =>
    intro p
    obtain ⟨us, h⟩ := ih (p ++ [x])
    rw [trees_snoc, List.append_assoc, List.append_assoc] at h
    exact ⟨_, h⟩
theorem getD_more {α : Type} {ts us : List α} {k : Nat} (d : α) (h : k < ts.length) : (ts ++ us).getD k d = ts.getD k d := by
  rw [List.getD_eq_getElem?_getD, List.getD_eq_getElem?_getD, List.getElem?_append_left h]
theorem getD_end {α : Type} (ts : List α) (x d : α) : (ts ++ [x]).getD ts.length d = x := by
  rw [List.getD_eq_getElem?_getD, List.getElem?_append_right (Nat.le_refl _)]; simp
theorem trS_more {G : Int} {n : Nat} {x : Stp} {ts us : List Tr} (h : rightB G n x = true) (hn : n ≤ ts.length) : trS (ts ++ us) x = trS ts x := by
  unfold trS
  by_cases h2 : x.1 = 2
  · obtain ⟨-, d1, d2, d3, d4⟩ := rightB_detach h (by omega)
    rw [if_pos h2, if_pos h2, getD_more _ (by omega), getD_more _ (by omega)]
  · rw [if_neg h2, if_neg h2]
theorem okS_snoc {G : Int} : ∀ (p : List Stp) (n : Nat) (x : Stp), okSteps G n (p ++ [x]) = (okSteps G n p && rightB G (n + p.length) x)
  | [], n, x => by simp [okSteps]
  | y :: p, n, x => by
    rw [List.cons_append, okSteps, okSteps, okS_snoc p (n + 1) x, Bool.and_assoc, List.length_cons, show n + 1 + p.length = n + (p.length + 1) by omega]
theorem okS_get {G : Int} : ∀ (p : List Stp) (n k : Nat) (hk : k < p.length), okSteps G n p = true → rightB G (n + k) p[k] = true
  | x :: p, n, 0, _, h => by simp only [okSteps, Bool.and_eq_true] at h; exact h.1
  | x :: p, n, k + 1, hk, h => by
    simp only [okSteps, Bool.and_eq_true] at h
    have := okS_get p (n + 1) k (by simpa using hk) h.2
    rw [show n + (k + 1) = n + 1 + k by omega]
    simpa using this
theorem trees_get {G : Int} : ∀ (q p : List Stp), okSteps G 0 (p ++ q) = true → (∀ k (hk : k < p.length), (trees p).getD k (.g 0) = trS (trees p) p[k]) → ∀ k (hk : k < (p ++ q).length), (trees (p ++ q)).getD k (.g 0) = trS (trees (p ++ q)) (p ++ q)[k]
  | [], p, _, h, k, hk => by
    simp only [List.append_nil] at hk ⊢
    exact h k hk
  | x :: q, p, ho, h, k, hk => by
    have e : p ++ x :: q = (p ++ [x]) ++ q := by simp
    have ho' : okSteps G 0 ((p ++ [x]) ++ q) = true := by rw [← e]; exact ho
    have hx : rightB G p.length x = true := by
      have := okS_get (p ++ x :: q) 0 p.length (by simp) ho
      simpa using this
    have hp : ∀ j (hj : j < p.length), rightB G j p[j] = true := fun j hj => by
      have := okS_get (p ++ x :: q) 0 j (by simp; omega) ho
      rw [List.getElem_append_left hj] at this
      simpa using this
    have ih := trees_get q (p ++ [x]) ho' (fun j hj => by
      rw [trees_snoc]
      rw [List.length_append, List.length_singleton] at hj
      by_cases hj' : j < p.length
      · rw [getD_more _ (by rw [trees_len]; exact hj'), h j hj', List.getElem_append_left hj', trS_more (hp j hj') (by rw [trees_len]; omega)]
      · obtain rfl : j = p.length := by omega
        have := getD_end (trees p) (trS (trees p) x) (.g 0)
        rw [trees_len] at this
        rw [this, List.getElem_append_right (Nat.le_refl _)]
        simp only [Nat.sub_self, List.getElem_singleton]
        rw [trS_more hx (by rw [trees_len]; omega)]) k (by rw [← e]; exact hk)
    simp only [← e] at ih
    exact ih
theorem trees_at {G : Int} {p : List Stp} (h : okSteps G 0 p = true) (k : Nat) (hk : k < p.length) : (trees p).getD k (.g 0) = trS (trees p) p[k] := by
  have := trees_get (G := G) p [] (by simpa using h) (fun k hk => by simp at hk) k (by simpa using hk)
  simpa using this

/-! ### reading a tree -/
def addP (p : List Stp) (x : Stp) : List Stp × Nat := if x ∈ p then (p, p.idxOf x) else (p ++ [x], p.length)
structure AddP (G : Int) (p : List Stp) (x : Stp) (p' : List Stp) (k : Nat) : Prop where
  nd : p'.Nodup
  ok : okSteps G 0 p' = true
  more : ∃ us, trees p' = trees p ++ us
  le : p.length ≤ p'.length
  lt : k < p'.length
  len : p'.length ≤ p.length + 1
  new : x ∉ p → k + 1 = p'.length
  tr : (trees p').getD k (.g 0) = trS (trees p) x
  all : ∀ t ∈ trees p', t ∈ trees p ∨ t = trS (trees p) x
  old : x ∈ p → p' = p
  pre : p <+: p'
theorem addP_spec {G : Int} {p : List Stp} {x : Stp} (nd : p.Nodup) (ok : okSteps G 0 p = true) (hx : rightB G p.length x = true) : AddP G p x (addP p x).1 (addP p x).2 := by
  unfold addP
  by_cases hm : x ∈ p
  · rw [if_pos hm]
    have hi := List.idxOf_lt_length_of_mem hm
    exact ⟨nd, ok, ⟨[], by simp⟩, Nat.le_refl _, hi, Nat.le_succ _, fun h => (h hm).elim, by rw [trees_at ok _ hi]; simp, fun t ht => .inl ht, fun _ => rfl, List.prefix_refl _⟩
  · rw [if_neg hm]
    refine ⟨?_, ?_, ⟨_, trees_snoc _ _⟩, by simp, by simp, by simp, fun _ => by simp, ?_, fun t ht => ?_, fun h => (hm h).elim, List.prefix_append _ _⟩
    · rw [List.nodup_append]
      exact ⟨nd, by simp, fun a ha b hb e => by rw [List.mem_singleton] at hb; subst hb; subst e; exact hm ha⟩
    · rw [okS_snoc, ok, Nat.zero_add, hx]; rfl
    · rw [trees_snoc]
      have := getD_end (trees p) (trS (trees p) x) (.g 0)
      rw [trees_len] at this; exact this
    · rw [trees_snoc, List.mem_append, List.mem_singleton] at ht; exact ht
def closeP : List (Option Nat) → List Stp → Nat → List (Option Nat) × List Stp × Option Nat
  | [], p, k => ([], p, some k)
  | none :: st, p, k => (some k :: st, p, none)
  | some m :: st, p, k => closeP st (addP p (2, m, k)).1 (addP p (2, m, k)).2
def isDig (b : UInt8) : Bool := decide (48 ≤ b.toNat) && decide (b.toNat ≤ 57)
def numOf (a b : UInt8) : Nat := 10 * (a.toNat - 48) + (b.toNat - 48)
def untR (G : Int) : List UInt8 → List (Option Nat) → List Stp → Option Nat → List Stp × Int
  | [], _, _, none => ([], 2)
  | [], _, p, some _ => if p.length ≤ 60 then (p, 0) else ([], 4)
  | _ :: _, _, _, some _ => ([], 2)
  | c :: r, st, p, none =>
    if c = 68 then untR G r (none :: st) p none
    else if c = 103 then
      match r with
      | a :: b :: r' => if isDig a = true ∧ isDig b = true ∧ (numOf a b : Int) < G then untR G r' (closeP st (addP p (1, numOf a b, 0)).1 (addP p (1, numOf a b, 0)).2).1 (closeP st (addP p (1, numOf a b, 0)).1 (addP p (1, numOf a b, 0)).2).2.1 (closeP st (addP p (1, numOf a b, 0)).1 (addP p (1, numOf a b, 0)).2).2.2 else ([], 2)
      | _ => ([], 2)
    else ([], 2)
theorem untR_D (G : Int) (r : List UInt8) (st : List (Option Nat)) (p : List Stp) : untR G (68 :: r) st p none = untR G r (none :: st) p none := by
  rw [untR.eq_def]; simp
theorem untR_g (G : Int) (a b : UInt8) (r : List UInt8) (st : List (Option Nat)) (p : List Stp) : untR G (103 :: a :: b :: r) st p none = if isDig a = true ∧ isDig b = true ∧ (numOf a b : Int) < G then untR G r (closeP st (addP p (1, numOf a b, 0)).1 (addP p (1, numOf a b, 0)).2).1 (closeP st (addP p (1, numOf a b, 0)).1 (addP p (1, numOf a b, 0)).2).2.1 (closeP st (addP p (1, numOf a b, 0)).1 (addP p (1, numOf a b, 0)).2).2.2 else ([], 2) := by
  rw [untR.eq_def]; simp
theorem untR_g0 (G : Int) (st : List (Option Nat)) (p : List Stp) : untR G [103] st p none = ([], 2) := by rw [untR.eq_def]; simp
theorem untR_g1 (G : Int) (a : UInt8) (st : List (Option Nat)) (p : List Stp) : untR G [103, a] st p none = ([], 2) := by rw [untR.eq_def]; simp
theorem untR_no (G : Int) (c : UInt8) (r : List UInt8) (st : List (Option Nat)) (p : List Stp) (h1 : c ≠ 68) (h2 : c ≠ 103) : untR G (c :: r) st p none = ([], 2) := by rw [untR.eq_def]; simp [h1, h2]
theorem untR_over (G : Int) (c : UInt8) (r : List UInt8) (st : List (Option Nat)) (p : List Stp) (k : Nat) : untR G (c :: r) st p (some k) = ([], 2) := by rw [untR.eq_def]
theorem untR_end (G : Int) (st : List (Option Nat)) (p : List Stp) (k : Nat) : untR G [] st p (some k) = if p.length ≤ 60 then (p, 0) else ([], 4) := by rw [untR.eq_def]
theorem untR_short (G : Int) (st : List (Option Nat)) (p : List Stp) : untR G [] st p none = ([], 2) := by rw [untR.eq_def]
def untE (G : Int) (t : ByteArray) : List Stp × Int :=
  if 0 ≤ G ∧ G ≤ 60 then (if t.size ≤ 65536 then untR G t.data.toList [] [] none else ([], 3)) else ([], 1)
theorem digs_num {a b : UInt8} (ha : isDig a = true) (hb : isDig b = true) : digs (numOf a b) = [a, b] := by
  simp only [isDig, Bool.and_eq_true, decide_eq_true_eq] at ha hb
  unfold digs numOf
  have e1 : 48 + (10 * (a.toNat - 48) + (b.toNat - 48)) / 10 = a.toNat := by omega
  have e2 : 48 + (10 * (a.toNat - 48) + (b.toNat - 48)) % 10 = b.toNat := by omega
  rw [e1, e2]; simp
theorem num_digs {n : Nat} (h : n < 100) : isDig (UInt8.ofNat (48 + n / 10)) = true ∧ isDig (UInt8.ofNat (48 + n % 10)) = true ∧ numOf (UInt8.ofNat (48 + n / 10)) (UInt8.ofNat (48 + n % 10)) = n := by
  have e1 : (UInt8.ofNat (48 + n / 10)).toNat = 48 + n / 10 := UInt8.toNat_ofNat_of_lt' (by show _ < 256; omega)
  have e2 : (UInt8.ofNat (48 + n % 10)).toNat = 48 + n % 10 := UInt8.toNat_ofNat_of_lt' (by show _ < 256; omega)
  unfold isDig numOf
  rw [e1, e2]
  simp only [Bool.and_eq_true, decide_eq_true_eq]
  omega

def rend (ts : List Tr) : List (Option Nat) → List UInt8
  | [] => []
  | none :: st => rend ts st ++ [68]
  | some m :: st => rend ts st ++ 68 :: (ts.getD m (.g 0)).text
theorem rend_more {ts us : List Tr} : ∀ {st : List (Option Nat)}, (∀ m, some m ∈ st → m < ts.length) → rend (ts ++ us) st = rend ts st
  | [], _ => rfl
  | none :: st, h => by rw [rend, rend, rend_more (fun m hm => h m (by simp [hm]))]
  | some m :: st, h => by rw [rend, rend, rend_more (fun m hm => h m (by simp [hm])), getD_more _ (h m (by simp))]
/-- between two parts of a text -/
structure Jo (G : Int) (st : List (Option Nat)) (p : List Stp) (w : Option Nat) (c : List UInt8) : Prop where
  nd : p.Nodup
  ok : okSteps G 0 p = true
  stl : ∀ m, some m ∈ st → m < p.length
  open_ : w = none → c = rend (trees p) st
  whole : ∀ k, w = some k → st = [] ∧ k + 1 = p.length ∧ c = ((trees p).getD k (.g 0)).text
  le : ∀ t ∈ trees p, t.text.length ≤ c.length
  cnt : p.length + st.length ≤ c.length
/-- behind the end of the part k -/
structure Jc (G : Int) (st : List (Option Nat)) (p : List Stp) (k b : Nat) (c : List UInt8) : Prop where
  nd : p.Nodup
  ok : okSteps G 0 p = true
  stl : ∀ m, some m ∈ st → m < p.length
  kl : k < p.length
  txt : c = rend (trees p) st ++ ((trees p).getD k (.g 0)).text
  le : ∀ t ∈ trees p, t.text.length ≤ b ∨ t.text.length ≤ ((trees p).getD k (.g 0)).text.length
  bl : b < c.length
  last : st = [] → k + 1 = p.length
  cnt : p.length + st.length ≤ c.length
theorem Jo.start (G : Int) : Jo G [] [] none [] := ⟨.nil, rfl, (fun m h => by cases h), fun _ => rfl, (fun k h => by cases h), (fun t h => by cases h), Nat.le_refl _⟩
theorem Jo.d {G : Int} {st : List (Option Nat)} {p : List Stp} {c : List UInt8} (h : Jo G st p none c) : Jo G (none :: st) p none (c ++ [68]) :=
  ⟨h.nd, h.ok, fun m hm => h.stl m (by simpa using hm), fun _ => by rw [rend, ← h.open_ rfl], (fun k e => by cases e), fun t ht => by have := h.le t ht; simp; omega, by have := h.cnt; simp; omega⟩
theorem right_cite {G : Int} {n i : Nat} (h : (n : Int) < G) : rightB G i (1, (n : Int), 0) = true := by
  simp only [rightB, Bool.or_eq_true, Bool.and_eq_true, decide_eq_true_eq]; left; exact ⟨⟨trivial, by omega, by omega⟩, trivial⟩
theorem right_det {G : Int} {m k n : Nat} (hm : m < n) (hk : k < n) : rightB G n (2, (m : Int), (k : Int)) = true := by
  simp only [rightB, Bool.or_eq_true, Bool.and_eq_true, decide_eq_true_eq]; right; exact ⟨⟨trivial, by omega, by omega⟩, by omega, by omega⟩
theorem trS_cite (ts : List Tr) (n : Nat) : trS ts (1, (n : Int), 0) = .g n := by unfold trS; rw [if_neg (by simp)]; rfl
theorem trS_det (ts : List Tr) (m k : Nat) : trS ts (2, (m : Int), (k : Int)) = .d (ts.getD m (.g 0)) (ts.getD k (.g 0)) := by unfold trS; rw [if_pos rfl]; rfl
theorem mem_trees {G : Int} {p : List Stp} {x : Stp} (ok : okSteps G 0 p = true) (h : x ∈ p) : trS (trees p) x ∈ trees p := by
  obtain ⟨i, hi, rfl⟩ := List.getElem_of_mem h
  rw [← trees_at ok i hi, List.getD_eq_getElem?_getD, List.getElem?_eq_getElem (by rw [trees_len]; exact hi)]
  exact List.getElem_mem _
theorem Jo.g {G : Int} {st : List (Option Nat)} {p : List Stp} {c : List UInt8} {a b : UInt8} (h : Jo G st p none c) (ha : isDig a = true) (hb : isDig b = true) (hG : (numOf a b : Int) < G) :
    Jc G st (addP p (1, (numOf a b : Int), 0)).1 (addP p (1, (numOf a b : Int), 0)).2 c.length (c ++ [103, a, b]) := by
  have hS := addP_spec h.nd h.ok (right_cite (i := p.length) hG)
  obtain ⟨us, hus⟩ := hS.more
  have htr := hS.tr
  rw [trS_cite] at htr
  have htx : (Tr.g (numOf a b)).text = [103, a, b] := by rw [Tr.text, digs_num ha hb]
  refine ⟨hS.nd, hS.ok, fun m hm => Nat.lt_of_lt_of_le (h.stl m hm) hS.le, hS.lt, ?_, fun t ht => ?_, by simp, fun hst => hS.new fun hm => ?_, ?_⟩
  · rw [htr, htx, hus, rend_more (by rw [trees_len]; exact h.stl), ← h.open_ rfl]
  · rcases hS.all t ht with h1 | h1
    · exact .inl (h.le t h1)
    · rw [htr, h1, trS_cite]; exact .inr (Nat.le_refl _)
  · have h1 := h.le _ (mem_trees h.ok hm)
    have h2 := Tr.text_len (trS (trees p) (1, (numOf a b : Int), 0))
    rw [h.open_ rfl, hst] at h1
    simp only [rend, List.length_nil] at h1
    omega
  · have := h.cnt
    have := hS.len
    simp; omega
theorem Jc.close {G : Int} {st : List (Option Nat)} {p : List Stp} {m k b : Nat} {c : List UInt8} (h : Jc G (some m :: st) p k b c) : Jc G st (addP p (2, (m : Int), (k : Int))).1 (addP p (2, (m : Int), (k : Int))).2 b c := by
  have hm := h.stl m (by simp)
  have hS := addP_spec h.nd h.ok (right_det (G := G) hm h.kl)
  obtain ⟨us, hus⟩ := hS.more
  have htr := hS.tr
  rw [trS_det] at htr
  have hc := h.txt
  rw [rend] at hc
  have hst : ∀ j, some j ∈ st → j < p.length := fun j hj => h.stl j (by simp [hj])
  have hcl := congrArg List.length hc
  simp only [List.length_append, List.length_cons] at hcl
  refine ⟨hS.nd, hS.ok, fun j hj => Nat.lt_of_lt_of_le (hst j hj) hS.le, hS.lt, ?_, fun t ht => ?_, h.bl, fun e => hS.new fun hx => ?_, ?_⟩
  · rw [htr, hus, rend_more (by rw [trees_len]; exact hst), hc, Tr.text]; simp
  · rw [htr]
    rcases hS.all t ht with h1 | h1
    · rcases h.le t h1 with h2 | h2
      · exact .inl h2
      · right; simp only [Tr.text, List.length_cons, List.length_append]; omega
    · rw [h1, trS_det]; exact .inr (Nat.le_refl _)
  · have h1 := h.le _ (mem_trees h.ok hx)
    rw [trS_det] at h1
    have hb := h.bl
    subst e
    simp only [rend, List.length_nil] at hcl
    simp only [Tr.text, List.length_cons, List.length_append] at h1
    omega
  · have := h.cnt
    have := hS.len
    simp at *; omega
theorem Jc.wait {G : Int} {st : List (Option Nat)} {p : List Stp} {k b : Nat} {c : List UInt8} (h : Jc G (none :: st) p k b c) : Jo G (some k :: st) p none c := by
  have hc := h.txt
  rw [rend] at hc
  have hcl := congrArg List.length hc
  simp only [List.length_append] at hcl
  refine ⟨h.nd, h.ok, fun m hm => ?_, fun _ => by rw [rend, hc]; simp, (fun k e => by cases e), fun t ht => ?_, by simpa using h.cnt⟩
  · rcases List.mem_cons.1 hm with e | e
    · cases e; exact h.kl
    · exact h.stl m (by simp [e])
  · have hb := h.bl
    rcases h.le t ht with h1 | h1 <;> omega
theorem Jc.done {G : Int} {p : List Stp} {k b : Nat} {c : List UInt8} (h : Jc G [] p k b c) : Jo G [] p (some k) c := by
  have hc := h.txt
  rw [rend, List.nil_append] at hc
  refine ⟨h.nd, h.ok, h.stl, (fun e => by cases e), fun j e => by cases e; exact ⟨rfl, h.last rfl, hc⟩, fun t ht => ?_, h.cnt⟩
  have hb := h.bl
  rw [hc] at hb ⊢
  rcases h.le t ht with h1 | h1 <;> omega
theorem closeP_ok {G : Int} {b : Nat} {c : List UInt8} : ∀ (st : List (Option Nat)) (p : List Stp) (k : Nat), Jc G st p k b c → Jo G (closeP st p k).1 (closeP st p k).2.1 (closeP st p k).2.2 c
  | [], _, _, h => h.done
  | none :: _, _, _, h => h.wait
  | some _ :: st, _, _, h => closeP_ok st _ _ h.close
theorem untR_ok {G : Int} {q : List Stp} : ∀ (n : Nat) (r : List UInt8) (st : List (Option Nat)) (p : List Stp) (w : Option Nat) (c : List UInt8), r.length ≤ n → Jo G st p w c → untR G r st p w = (q, 0) → ∃ k, Jo G [] q (some k) (c ++ r) ∧ q.length ≤ 60
  | _, [], st, p, none, c, _, h, e => by rw [untR_short] at e; cases e
  | _, [], st, p, some k, c, _, h, e => by
    rw [untR_end] at e
    split at e
    · cases e
      obtain ⟨rfl, -⟩ := h.whole k rfl
      exact ⟨k, by simpa using h, ‹_›⟩
    · cases e
  | _, x :: r, st, p, some k, c, _, h, e => by rw [untR_over] at e; cases e
  | 0, x :: r, st, p, none, c, hn, h, e => by simp at hn
  | n + 1, x :: r, st, p, none, c, hn, h, e => by
    by_cases hx : x = 68
    · subst hx
      rw [untR_D] at e
      obtain ⟨k, h1, h2⟩ := untR_ok n r _ _ _ _ (by simpa using hn) h.d e
      exact ⟨k, by simpa using h1, h2⟩
    · by_cases hg : x = 103
      · subst hg
        match r with
        | a :: b :: r' =>
          rw [untR_g] at e
          split at e
          · rename_i hc
            obtain ⟨k, h1, h2⟩ := untR_ok n r' _ _ _ _ (by simp at hn; omega) (closeP_ok _ _ _ (h.g hc.1 hc.2.1 hc.2.2)) e
            exact ⟨k, by simpa using h1, h2⟩
          · cases e
        | [] => rw [untR_g0] at e; cases e
        | [a] => rw [untR_g1] at e; cases e
      · rw [untR_no _ _ _ _ _ hx hg] at e; cases e
end Go.Proofs.YtnhaoalcpbefoaaDoor

/- A tree's text read back: what the read proof has and says. No program is named. -/
namespace Go.Proofs.YtnhaoalcpbefoaaDoor

def insT : List Stp → Tr → List Stp × Nat
  | p, .g n => addP p (1, (n : Int), 0)
  | p, .d a b => addP (insT (insT p a).1 b).1 (2, ((insT p a).2 : Int), ((insT (insT p a).1 b).2 : Int))
theorem untR_cite {G : Int} {n : Nat} (hn : (n : Int) < G) (h100 : n < 100) (r : List UInt8) (st : List (Option Nat)) (p : List Stp) :
    untR G ((Tr.g n).text ++ r) st p none = untR G r (closeP st (addP p (1, (n : Int), 0)).1 (addP p (1, (n : Int), 0)).2).1 (closeP st (addP p (1, (n : Int), 0)).1 (addP p (1, (n : Int), 0)).2).2.1 (closeP st (addP p (1, (n : Int), 0)).1 (addP p (1, (n : Int), 0)).2).2.2 := by
  obtain ⟨h1, h2, h3⟩ := num_digs h100
  rw [Tr.text, digs, List.cons_append, List.cons_append, List.cons_append, List.nil_append, untR_g, if_pos ⟨h1, h2, by rw [h3]; exact hn⟩, h3]
theorem untR_text {G : Int} : ∀ (t : Tr), (∀ n ∈ t.leaves, (n : Int) < G ∧ n < 100) → ∀ (r : List UInt8) (st : List (Option Nat)) (p : List Stp),
    untR G (t.text ++ r) st p none = untR G r (closeP st (insT p t).1 (insT p t).2).1 (closeP st (insT p t).1 (insT p t).2).2.1 (closeP st (insT p t).1 (insT p t).2).2.2
  | .g n, h, r, st, p => untR_cite (h n (by simp [Tr.leaves])).1 (h n (by simp [Tr.leaves])).2 r st p
  | .d a b, h, r, st, p => by
    rw [Tr.text, List.cons_append, untR_D, List.append_assoc, untR_text a (fun n hn => h n (by simp [Tr.leaves, hn])), closeP]
    simp only
    rw [untR_text b (fun n hn => h n (by simp [Tr.leaves, hn])), closeP]
    rfl
structure InsT (G : Int) (p : List Stp) (t : Tr) (p' : List Stp) (k : Nat) : Prop where
  nd : p'.Nodup
  ok : okSteps G 0 p' = true
  pre : p <+: p'
  lt : k < p'.length
  tr : (trees p').getD k (.g 0) = t
  all : ∀ u ∈ trees p', u ∈ trees p ∨ u ∈ t.subs
  new : t ∉ trees p → k + 1 = p'.length
theorem Tr.subs_le {u : Tr} : ∀ {t : Tr}, u ∈ t.subs → u.text.length ≤ t.text.length
  | .g n, h => by rw [Tr.subs, List.mem_singleton] at h; rw [h]; exact Nat.le_refl _
  | .d a b, h => by
    rw [Tr.subs, List.mem_cons, List.mem_append] at h
    rcases h with h | h | h
    · rw [h]; exact Nat.le_refl _
    · have := Tr.subs_le h; simp only [Tr.text, List.length_cons, List.length_append]; omega
    · have := Tr.subs_le h; simp only [Tr.text, List.length_cons, List.length_append]; omega
theorem pre_trees {p p' : List Stp} (h : p <+: p') : ∃ us, trees p' = trees p ++ us := by
  obtain ⟨q, rfl⟩ := h
  exact trees_more q p
theorem insT_spec {G : Int} : ∀ (t : Tr) (p : List Stp), (∀ n ∈ t.leaves, (n : Int) < G) → p.Nodup → okSteps G 0 p = true → InsT G p t (insT p t).1 (insT p t).2
  | .g n, p, h, nd, ok => by
    have hS := addP_spec nd ok (right_cite (i := p.length) (h n (by simp [Tr.leaves])))
    have htr := hS.tr
    rw [trS_cite] at htr
    exact ⟨hS.nd, hS.ok, hS.pre, hS.lt, htr, fun u hu => by
      rcases hS.all u hu with k | k
      · exact .inl k
      · rw [trS_cite] at k; exact .inr (by rw [k]; simp [Tr.subs]), fun hn => hS.new fun hm => hn (by have := mem_trees ok hm; rwa [trS_cite] at this)⟩
  | .d a b, p, h, nd, ok => by
    have ha := insT_spec a p (fun n hn => h n (by simp [Tr.leaves, hn])) nd ok
    have hb := insT_spec b (insT p a).1 (fun n hn => h n (by simp [Tr.leaves, hn])) ha.nd ha.ok
    rw [insT]
    have hka : (insT p a).2 < (insT (insT p a).1 b).1.length := Nat.lt_of_lt_of_le ha.lt hb.pre.length_le
    have hS := addP_spec hb.nd hb.ok (right_det (G := G) hka hb.lt)
    obtain ⟨us, hus⟩ := pre_trees hb.pre
    have hta : (trees (insT (insT p a).1 b).1).getD (insT p a).2 (.g 0) = a := by
      rw [hus, getD_more _ (by rw [trees_len]; exact ha.lt)]; exact ha.tr
    have hx : trS (trees (insT (insT p a).1 b).1) (2, ((insT p a).2 : Int), ((insT (insT p a).1 b).2 : Int)) = .d a b := by rw [trS_det, hta, hb.tr]
    have htr := hS.tr
    rw [hx] at htr
    refine ⟨hS.nd, hS.ok, ha.pre.trans (hb.pre.trans hS.pre), hS.lt, htr, fun u hu => ?_, fun hn => hS.new fun hm => ?_⟩
    rotate_left
    · have hm := mem_trees hb.ok hm
      rw [hx] at hm
      rcases hb.all _ hm with k | k
      · rcases ha.all _ k with k | k
        · exact hn k
        · have := Tr.subs_le k; simp only [Tr.text, List.length_cons, List.length_append] at this; omega
      · have := Tr.subs_le k; simp only [Tr.text, List.length_cons, List.length_append] at this; omega
    rcases hS.all u hu with k | k
    · rcases hb.all u k with k | k
      · rcases ha.all u k with k | k
        · exact .inl k
        · right; simp [Tr.subs, k]
      · right; simp [Tr.subs, k]
    · rw [hx] at k; right; rw [k]; exact Tr.sub_self _

/-- the tree's leaves are givens -/
theorem leaves_ok {G : Int} {p : List Stp} (h : okSteps G 0 p = true) : ∀ (k : Nat) (_ : k < p.length), ∀ n ∈ ((trees p).getD k (.g 0)).leaves, (n : Int) < G := by
  intro k
  induction k using Nat.strongRecOn with
  | _ k ih =>
    intro hk n hn
    rw [trees_at h k hk] at hn
    have hr := okS_get p 0 k hk h
    rw [Nat.zero_add] at hr
    unfold trS at hn
    by_cases h2 : p[k].1 = 2
    · obtain ⟨-, d1, d2, d3, d4⟩ := rightB_detach hr (by omega)
      rw [if_pos h2, Tr.leaves, List.mem_append] at hn
      rcases hn with hn | hn
      · exact ih _ (by omega) (by omega) n hn
      · exact ih _ (by omega) (by omega) n hn
    · have h1 : p[k].1 = 1 := by
        rcases Classical.em (p[k].1 = 1) with e | e
        · exact e
        · exact (h2 (rightB_detach hr e).1).elim
      obtain ⟨c1, c2, -⟩ := rightB_cite hr h1
      rw [if_neg h2, Tr.leaves, List.mem_singleton] at hn
      subst hn; omega
/-- which steps are needed by the step k -/
inductive Nd (p : List Stp) : Nat → Nat → Prop where
  | self (k : Nat) : Nd p k k
  | a {k j : Nat} (hk : k < p.length) (h2 : p[k].1 = 2) (h : Nd p p[k].2.1.toNat j) : Nd p k j
  | b {k j : Nat} (hk : k < p.length) (h2 : p[k].1 = 2) (h : Nd p p[k].2.2.toNat j) : Nd p k j
/-- each part of a step's tree is the tree of a step that it needs -/
theorem subs_nd {G : Int} {p : List Stp} (h : okSteps G 0 p = true) : ∀ (k : Nat) (_ : k < p.length), ∀ u ∈ ((trees p).getD k (.g 0)).subs, ∃ j, ∃ _ : j < p.length, Nd p k j ∧ (trees p).getD j (.g 0) = u := by
  intro k
  induction k using Nat.strongRecOn with
  | _ k ih =>
    intro hk u hu
    have ht := trees_at h k hk
    have hr := okS_get p 0 k hk h
    rw [Nat.zero_add] at hr
    unfold trS at ht
    by_cases h2 : p[k].1 = 2
    · obtain ⟨-, d1, d2, d3, d4⟩ := rightB_detach hr (by omega)
      rw [if_pos h2] at ht
      rw [ht, Tr.subs, List.mem_cons, List.mem_append] at hu
      rcases hu with hu | hu | hu
      · exact ⟨k, hk, .self k, by rw [hu, ht]⟩
      · obtain ⟨j, hj, n1, n2⟩ := ih _ (by omega) (by omega) u hu
        exact ⟨j, hj, .a hk h2 n1, n2⟩
      · obtain ⟨j, hj, n1, n2⟩ := ih _ (by omega) (by omega) u hu
        exact ⟨j, hj, .b hk h2 n1, n2⟩
    · rw [if_neg h2] at ht
      rw [ht, Tr.subs, List.mem_singleton] at hu
      exact ⟨k, hk, .self k, by rw [hu, ht]⟩

/-! ### what trees say -/
noncomputable def sayT (s : Sg) (g : List (List Int)) : Tr → List Int × Int
  | .g n => (canon (g.getD n []), 0)
  | .d a b => detE s (sayT s g a).1 (sayT s g b).1
theorem stepE_tree {s : Sg} {g l : List (List Int)} {ts : List Tr} {x : Stp} {G : Int} (hx : rightB G ts.length x = true) (hl : l = ts.map (fun t => (sayT s g t).1)) : stepE s g l x = sayT s g (trS ts x) := by
  unfold stepE trS
  by_cases h1 : x.1 = 1
  · rw [if_pos h1, if_neg (by omega)]; rfl
  · obtain ⟨h2, d1, d2, d3, d4⟩ := rightB_detach hx h1
    rw [if_neg h1, if_pos h2, sayT, hl]
    have e : ∀ n, n < ts.length → (ts.map (fun t => (sayT s g t).1)).getD n [] = (sayT s g (ts.getD n (.g 0))).1 := fun n hn => by
      rw [List.getD_eq_getElem?_getD, List.getD_eq_getElem?_getD, List.getElem?_map, List.getElem?_eq_getElem hn]; rfl
    rw [e _ (by omega), e _ (by omega)]
theorem trL_pre : ∀ (p : List Stp) (ts : List Tr), ts <+: trL p ts
  | [], _ => List.prefix_refl _
  | _ :: p, _ => (List.prefix_append _ _).trans (trL_pre p _)
theorem runL_of {s : Sg} {g : List (List Int)} {G : Int} : ∀ (p : List Stp) (ts : List Tr), okSteps G ts.length p = true → (∀ t ∈ trL p ts, (sayT s g t).2 = 0) → runL s g p (ts.map (fun t => (sayT s g t).1)) = ((trL p ts).map (fun t => (sayT s g t).1), 0)
  | [], ts, _, _ => rfl
  | x :: p, ts, h, ha => by
    simp only [okSteps, Bool.and_eq_true] at h
    have hx : (sayT s g (trS ts x)).2 = 0 := ha _ ((trL_pre p (ts ++ [trS ts x])).subset (by simp))
    rw [runL, trL, stepE_tree h.1 rfl, if_pos hx]
    have ih := runL_of p (ts ++ [trS ts x]) (by rw [List.length_append, List.length_singleton]; exact h.2) ha
    rw [List.map_append, List.map_singleton] at ih
    exact ih
theorem runL_all {s : Sg} {g : List (List Int)} {G : Int} : ∀ (p : List Stp) (ts : List Tr), okSteps G ts.length p = true → (∀ t ∈ ts, (sayT s g t).2 = 0) → (runL s g p (ts.map (fun t => (sayT s g t).1))).2 = 0 → ∀ t ∈ trL p ts, (sayT s g t).2 = 0
  | [], ts, _, ha, _ => ha
  | x :: p, ts, h, ha, hz => by
    simp only [okSteps, Bool.and_eq_true] at h
    rw [runL, stepE_tree h.1 rfl] at hz
    by_cases hx : (sayT s g (trS ts x)).2 = 0
    · rw [if_pos hx] at hz
      rw [trL]
      refine runL_all p (ts ++ [trS ts x]) (by rw [List.length_append, List.length_singleton]; exact h.2) (fun t ht => ?_) (by rw [List.map_append, List.map_singleton]; exact hz)
      rw [List.mem_append, List.mem_singleton] at ht
      rcases ht with ht | ht
      · exact ha t ht
      · rw [ht]; exact hx
    · rw [if_neg hx] at hz; exact (hx hz).elim
/-- different steps have different trees -/
theorem trees_inj {G : Int} {p : List Stp} (h : okSteps G 0 p = true) (nd : p.Nodup) : ∀ (i j : Nat) (_ : i < p.length) (_ : j < p.length), (trees p).getD i (.g 0) = (trees p).getD j (.g 0) → i = j := by
  intro i
  induction i using Nat.strongRecOn with
  | _ i ih =>
    intro j hi hj e
    rw [trees_at h i hi, trees_at h j hj] at e
    have hri := okS_get p 0 i hi h
    have hrj := okS_get p 0 j hj h
    rw [Nat.zero_add] at hri hrj
    have he : p[i] = p[j] := by
      unfold trS at e
      by_cases h2 : p[i].1 = 2
      · obtain ⟨-, d1, d2, d3, d4⟩ := rightB_detach hri (by omega)
        rw [if_pos h2] at e
        by_cases k2 : p[j].1 = 2
        · obtain ⟨-, e1, e2, e3, e4⟩ := rightB_detach hrj (by omega)
          rw [if_pos k2] at e
          simp only [Tr.d.injEq] at e
          have q1 := ih _ (by omega) _ (by omega) (by omega) e.1
          have q2 := ih _ (by omega) _ (by omega) (by omega) e.2
          exact Prod.ext (by omega) (Prod.ext (by omega) (by omega))
        · rw [if_neg k2] at e; cases e
      · rw [if_neg h2] at e
        by_cases k2 : p[j].1 = 2
        · rw [if_pos k2] at e; cases e
        · rw [if_neg k2] at e
          simp only [Tr.g.injEq] at e
          have h1 : p[i].1 = 1 := Classical.byContradiction fun k => h2 (rightB_detach hri k).1
          have k1 : p[j].1 = 1 := Classical.byContradiction fun k => k2 (rightB_detach hrj k).1
          obtain ⟨c1, -, c2⟩ := rightB_cite hri h1
          obtain ⟨c3, -, c4⟩ := rightB_cite hrj k1
          exact Prod.ext (by omega) (Prod.ext (by omega) (by omega))
    exact (List.getElem_inj nd).1 he
theorem trees_nodup {G : Int} {p : List Stp} (h : okSteps G 0 p = true) (nd : p.Nodup) : (trees p).Nodup := by
  unfold List.Nodup
  rw [List.pairwise_iff_getElem]
  intro i j hi hj hij e
  have hi' := hi
  have hj' := hj
  rw [trees_len] at hi' hj'
  have := trees_inj h nd i j hi' hj' (by rw [List.getD_eq_getElem?_getD, List.getD_eq_getElem?_getD, List.getElem?_eq_getElem hi, List.getElem?_eq_getElem hj, e])
  omega
theorem nodup_le {α : Type} [DecidableEq α] : ∀ {l m : List α}, l.Nodup → (∀ x ∈ l, x ∈ m) → l.length ≤ m.length
  | [], m, _, _ => Nat.zero_le _
  | x :: l, m, hn, hs => by
    rw [List.nodup_cons] at hn
    have hx := hs x (by simp)
    have ih := nodup_le (m := m.erase x) hn.2 (fun y hy => (List.mem_erase_of_ne (fun e => hn.1 (by rw [← e]; exact hy))).2 (hs y (by simp [hy])))
    rw [List.length_erase_of_mem hx] at ih
    have := List.length_pos_of_mem hx
    rw [List.length_cons]; omega
theorem last_tree {p : List Stp} (_ : 1 ≤ p.length) : (trees p).getLastD (.g 0) = (trees p).getD (p.length - 1) (.g 0) := by
  rw [List.getLastD_eq_getLast?, List.getLast?_eq_getElem?, trees_len, List.getD_eq_getElem?_getD]
/-- the text of a proof's tree, read back -/
theorem unt_tree {G : Int} {p : List Stp} (hG : G ≤ 100) (h : okSteps G 0 p = true) (h1 : 1 ≤ p.length) (h60 : p.length ≤ 60) :
    ∃ q, untR G ((trees p).getLastD (.g 0)).text [] [] none = (q, 0) ∧ q.Nodup ∧ okSteps G 0 q = true ∧ 1 ≤ q.length ∧ q.length ≤ 60 ∧ (trees q).getLastD (.g 0) = (trees p).getLastD (.g 0) ∧ ∀ u ∈ trees q, u ∈ ((trees p).getLastD (.g 0)).subs := by
  have hl := leaves_ok h (p.length - 1) (by omega)
  have hs := subs_nd h (p.length - 1) (by omega)
  rw [← last_tree h1] at hl hs
  generalize (trees p).getLastD (.g 0) = t at hl hs
  have hI := insT_spec (G := G) t [] hl .nil rfl
  have ht := untR_text (G := G) t (fun n hn => ⟨hl n hn, by have := hl n hn; omega⟩) [] [] []
  rw [List.append_nil, closeP, untR_end] at ht
  have hall : ∀ u ∈ trees (insT [] t).1, u ∈ t.subs := fun u hu => by
    rcases hI.all u hu with k | k
    · cases k
    · exact k
  have hlen : (insT [] t).1.length ≤ 60 := by
    open Classical in
    have := nodup_le (m := trees p) (trees_nodup hI.ok hI.nd) (fun u hu => by
      obtain ⟨j, hj, -, e⟩ := hs u (hall u hu)
      rw [← e, List.getD_eq_getElem?_getD, List.getElem?_eq_getElem (by rw [trees_len]; exact hj)]
      exact List.getElem_mem _)
    rw [trees_len, trees_len] at this; omega
  rw [if_pos hlen] at ht
  have hk := hI.new (by intro h; cases h)
  have h1' : 1 ≤ (insT [] t).1.length := by omega
  refine ⟨_, ht, hI.nd, hI.ok, h1', hlen, ?_, hall⟩
  rw [last_tree h1', ← hk, Nat.add_sub_cancel]; exact hI.tr
/-- a tree read back says what the proof says -/
theorem says_tree {s : Sg} {g : List (List Int)} {p q : List Stp} (hp : (saysE s g p).2 = 0) (hq : okSteps g.length 0 q = true) (h1 : 1 ≤ q.length) (h60 : q.length ≤ 60)
    (hl : (trees q).getLastD (.g 0) = (trees p).getLastD (.g 0)) (ha : ∀ u ∈ trees q, u ∈ ((trees p).getLastD (.g 0)).subs) : saysE s g q = saysE s g p := by
  unfold saysE at hp ⊢
  by_cases hx : askedB s g p = true
  · rw [if_pos hx] at hp ⊢
    by_cases hz : (runL s g p []).2 = 0
    · rw [if_pos hz]
      simp only [askedB, Bool.and_eq_true] at hx
      obtain ⟨ok, p1, p2⟩ := validP_parts hx.2
      have hq' : askedB s g q = true := by
        simp only [askedB, Bool.and_eq_true]
        refine ⟨hx.1, ?_⟩
        unfold validP
        rw [hq, decide_eq_true h1, decide_eq_true h60]; rfl
      have hall := runL_all (s := s) (g := g) p [] ok (fun t h => by cases h) hz
      have hp2 := runL_of (s := s) (g := g) p [] ok hall
      have hsub := subs_nd ok (p.length - 1) (by omega)
      rw [← last_tree p1] at hsub
      have hq2 := runL_of (s := s) (g := g) q [] hq (fun t ht => by
        obtain ⟨j, hj, -, e⟩ := hsub t (ha t ht)
        refine hall t ?_
        rw [← e, List.getD_eq_getElem?_getD]
        change (trees p)[j]?.getD (.g 0) ∈ trees p
        rw [List.getElem?_eq_getElem (by rw [trees_len]; exact hj)]
        exact List.getElem_mem _)
      rw [List.map_nil] at hp2 hq2
      rw [if_pos hq', hq2, hp2]
      simp only [if_true]
      have e : ∀ r : List Stp, 1 ≤ r.length → ((trL r []).map (fun t => (sayT s g t).1)).getLastD [] = (sayT s g ((trees r).getLastD (.g 0))).1 := fun r hr => by
        have hr' : 1 ≤ (trees r).length := by rw [trees_len]; exact hr
        change ((trees r).map (fun t => (sayT s g t).1)).getLastD [] = _
        rw [List.getLastD_eq_getLast?, List.getLastD_eq_getLast?, List.getLast?_map, List.getLast?_eq_getElem?, List.getElem?_eq_getElem (by omega)]
        rfl
      rw [e q h1, e p p1, hl]
    · rw [if_neg hz] at hp; exact (hz hp).elim
  · rw [if_neg hx] at hp; cases hp
/-- what Tree answers -/
def treeE (G : Int) (p : List Stp) : List UInt8 × Int :=
  if proofB G p = true then (if ((trees p).getLastD (.g 0)).text.length ≤ 65536 then (((trees p).getLastD (.g 0)).text, 0) else ([], 3)) else ([], 1)
/-- a text that is read is the tree of what is read -/
theorem tree_unt {G : Int} {t : ByteArray} {q : List Stp} (h : untE G t = (q, 0)) : treeE G q = (t.data.toList, 0) := by
  unfold untE at h
  by_cases hG : 0 ≤ G ∧ G ≤ 60
  · rw [if_pos hG] at h
    by_cases hs : t.size ≤ 65536
    · rw [if_pos hs] at h
      obtain ⟨k, hJ, h60⟩ := untR_ok _ _ _ _ _ _ (Nat.le_refl _) (.start G) h
      obtain ⟨-, k1, k2⟩ := hJ.whole k rfl
      have hp : proofB G q = true := by
        unfold proofB validP
        rw [decide_eq_true hG.1, decide_eq_true hG.2, hJ.ok, decide_eq_true h60, decide_eq_true (show 1 ≤ q.length by omega)]; rfl
      rw [List.nil_append] at k2
      have hl : (trees q).getLastD (.g 0) = (trees q).getD k (.g 0) := by rw [last_tree (by omega), show q.length - 1 = k by omega]
      unfold treeE
      rw [if_pos hp, hl, ← k2, if_pos (by rw [Array.length_toList]; exact hs)]
    · rw [if_neg hs] at h; cases h
  · rw [if_neg hG] at h; cases h
end Go.Proofs.YtnhaoalcpbefoaaDoor

/- Needed steps, counts and heights of proofs by their trees, in plain words. No program is named. -/
namespace Go.Proofs.YtnhaoalcpbefoaaDoor

def cntT : Tr → Nat
  | .g _ => 1
  | .d a b => cntT a + cntT b + 1
def hgtT : Tr → Nat
  | .g _ => 1
  | .d a b => max (hgtT a) (hgtT b) + 1
theorem cnt_text (t : Tr) : cntT t ≤ t.text.length := by
  induction t with
  | g n => simp [cntT, Tr.text]
  | d a b iha ihb => simp [cntT, Tr.text]; omega
/-- one step of needed: what step x, needed, makes needed -/
def ndSt (f : List Bool) (x : Stp) (is : Bool) : List Bool := if is = true ∧ x.1 = 2 then (f.set x.2.1.toNat true).set x.2.2.toNat true else f
def ndGo (p : List Stp) : Nat → List Bool → List Bool
  | 0, f => f
  | k + 1, f => ndGo p k (ndSt f (p.getD k (0, 0, 0)) (f.getD k false))
def ndL (p : List Stp) : List Bool := ndGo p p.length ((List.replicate p.length false).set (p.length - 1) true)
theorem ndSt_len (f : List Bool) (x : Stp) (is : Bool) : (ndSt f x is).length = f.length := by unfold ndSt; split <;> simp
theorem ndGo_len (p : List Stp) : ∀ (k : Nat) (f : List Bool), (ndGo p k f).length = f.length
  | 0, _ => rfl
  | k + 1, f => by rw [ndGo, ndGo_len p k, ndSt_len]
theorem ndL_len (p : List Stp) : (ndL p).length = p.length := by unfold ndL; rw [ndGo_len]; simp
theorem set_getD (f : List Bool) (a j : Nat) : (f.set a true).getD j false = (if a = j ∧ j < f.length then true else f.getD j false) := by
  rw [List.getD_eq_getElem?_getD, List.getD_eq_getElem?_getD, List.getElem?_set]
  by_cases h : a = j
  · subst h
    by_cases hl : a < f.length
    · simp [hl]
    · simp [hl]
  · simp [h]
theorem ndSt_mono {f : List Bool} {x : Stp} {is : Bool} {j : Nat} (h : f.getD j false = true) : (ndSt f x is).getD j false = true := by
  unfold ndSt
  split
  · rw [set_getD, set_getD]
    split
    · rfl
    · split
      · rfl
      · exact h
  · exact h
theorem ndGo_mono (p : List Stp) {j : Nat} : ∀ (k : Nat) (f : List Bool), f.getD j false = true → (ndGo p k f).getD j false = true
  | 0, _, h => h
  | k + 1, _, h => ndGo_mono p k _ (ndSt_mono h)
theorem ndSt_same {f : List Bool} {x : Stp} {is : Bool} {j : Nat} (h : x.1 = 2 → x.2.1.toNat < j ∧ x.2.2.toNat < j) : (ndSt f x is).getD j false = f.getD j false := by
  unfold ndSt
  split
  · rename_i hc
    obtain ⟨h1, h2⟩ := h hc.2
    rw [set_getD, set_getD, if_neg (by omega), if_neg (by omega)]
  · rfl
theorem getD_stp {p : List Stp} {k : Nat} (hk : k < p.length) : p.getD k (0, 0, 0) = p[k] := by rw [List.getD_eq_getElem?_getD, List.getElem?_eq_getElem hk]; rfl
theorem ok_less {G : Int} {p : List Stp} (ok : okSteps G 0 p = true) {k : Nat} (hk : k < p.length) (h2 : p[k].1 = 2) : p[k].2.1.toNat < k ∧ p[k].2.2.toNat < k := by
  have := okS_get p 0 k hk ok
  rw [Nat.zero_add] at this
  obtain ⟨-, d1, d2, d3, d4⟩ := rightB_detach this (by omega)
  omega
theorem ndGo_same {G : Int} {p : List Stp} (ok : okSteps G 0 p = true) {j : Nat} : ∀ (k : Nat) (f : List Bool), k ≤ p.length → k ≤ j → (ndGo p k f).getD j false = f.getD j false
  | 0, _, _, _ => rfl
  | k + 1, f, h, hj => by
    rw [ndGo, ndGo_same ok k _ (by omega) (by omega)]
    refine ndSt_same fun h2 => ?_
    rw [getD_stp (by omega)] at h2 ⊢
    have := ok_less ok (by omega) h2
    omega
theorem ndGo_step {G : Int} {p : List Stp} (ok : okSteps G 0 p = true) {i : Nat} (hi : i < p.length) (h2 : p[i].1 = 2) : ∀ (k : Nat) (f : List Bool), f.length = p.length → k ≤ p.length → i < k → (ndGo p k f).getD i false = true →
    (ndGo p k f).getD p[i].2.1.toNat false = true ∧ (ndGo p k f).getD p[i].2.2.toNat false = true
  | 0, _, _, _, h, _ => by omega
  | k + 1, f, hl, hk, hik, ht => by
    rw [ndGo] at ht ⊢
    by_cases hlt : i < k
    · exact ndGo_step ok hi h2 k _ (by rw [ndSt_len]; exact hl) (by omega) hlt ht
    · obtain rfl : i = k := by omega
      have hless := ok_less ok hi h2
      rw [ndGo_same ok i _ (by omega) (Nat.le_refl _), getD_stp hi] at ht
      rw [ndSt_same (fun _ => hless)] at ht
      rw [getD_stp hi, ht]
      have hs : ndSt f p[i] true = (f.set p[i].2.1.toNat true).set p[i].2.2.toNat true := by unfold ndSt; rw [if_pos ⟨rfl, h2⟩]
      rw [hs]
      refine ⟨ndGo_mono p i _ ?_, ndGo_mono p i _ ?_⟩
      · rw [set_getD, set_getD]
        split
        · rfl
        · rw [if_pos ⟨rfl, by omega⟩]
      · rw [set_getD, if_pos ⟨rfl, by rw [List.length_set]; omega⟩]
theorem ndL_step {G : Int} {p : List Stp} (ok : okSteps G 0 p = true) {i : Nat} (hi : i < p.length) (h2 : p[i].1 = 2) (ht : (ndL p).getD i false = true) : (ndL p).getD p[i].2.1.toNat false = true ∧ (ndL p).getD p[i].2.2.toNat false = true :=
  ndGo_step ok hi h2 p.length _ (by simp) (Nat.le_refl _) hi ht
theorem ndL_last {p : List Stp} (h1 : 1 ≤ p.length) : (ndL p).getD (p.length - 1) false = true := by
  refine ndGo_mono p _ _ ?_
  rw [set_getD, if_pos ⟨rfl, by simp; omega⟩]
theorem ndL_nd {G : Int} {p : List Stp} (ok : okSteps G 0 p = true) {k j : Nat} (h : Nd p k j) : (ndL p).getD k false = true → (ndL p).getD j false = true := by
  induction h with
  | self => exact id
  | a hk h2 _ ih => exact fun ht => ih (ndL_step ok hk h2 ht).1
  | b hk h2 _ ih => exact fun ht => ih (ndL_step ok hk h2 ht).2
/-- the needed steps -/
def ndIdx (p : List Stp) : List Nat := (List.range p.length).filter fun i => (ndL p).getD i false
theorem tree_needed {G : Int} {p q : List Stp} (ok : okSteps G 0 p = true) (h1 : 1 ≤ p.length) (hq : okSteps G 0 q = true) (nd : q.Nodup) (hs : ∀ u ∈ trees q, u ∈ ((trees p).getLastD (.g 0)).subs) : q.length ≤ (ndIdx p).length := by
  classical
  have h := nodup_le (m := (ndIdx p).map fun i => (trees p).getD i (.g 0)) (trees_nodup hq nd) (fun u hu => by
    have h2 := hs u hu
    rw [last_tree h1] at h2
    obtain ⟨j, hj, hn, ht⟩ := subs_nd ok (p.length - 1) (by omega) u h2
    rw [List.mem_map]
    refine ⟨j, ?_, ht⟩
    unfold ndIdx
    rw [List.mem_filter, List.mem_range]
    exact ⟨hj, ndL_nd ok hn (ndL_last h1)⟩)
  rw [trees_len, List.length_map] at h
  exact h
end Go.Proofs.YtnhaoalcpbefoaaDoor

/- Walks: tongue.tokens. -/
namespace Go.Proofs.YtnhaoalcpbefoaaDoor
open Go Go.RowKit Go.Maps

def btk (l : List ByteArray) : Toks := l.map fun b => b.data.toList
abbrev OwnTk (w : World) (base : Nat) (v : Value) (l : List ByteArray) : Prop := OwnL strE (fun _ => False) w base 9 v l
theorem infoStrT : (Tryd.prog.info? 9).map (fun i => (i.zero, i.size, i.bytes)) = some (some (.string ByteArray.empty), 1, 16) := by kernel_rfl
/-- tokens so far, with the iterator of the text -/
def TkS (w : World) (text : ByteArray) (pos : Nat) (vO : Value) (out : List ByteArray) (wr : World) : Prop := OwnTk wr (w.heap.size + 1) vO out ∧ wr.heap[w.heap.size]? = some (.stringIter text pos) ∧ Below w.heap.size w wr
theorem TkS.push {w wr : World} {text : ByteArray} {pos : Nat} {vO : Value} {out : List ByteArray} (h : TkS w text pos vO out wr) {x : ByteArray} (hx : x.size ≤ 70000) (hl : out.length ≤ 200000) :
    ∃ v' w', RowKit.Hid ((Builtin.append_ #[62, 62] 62 #[vO, .slice (some ⟨wr.heap.size, 0, none⟩) 1 1]).run Tryd.prog (wr.alloc (.cells #[.string x] 9)) = .ok v' w') ∧ TkS w text pos v' (out ++ [x]) w' := by
  obtain ⟨h1, h2, h3⟩ := h
  have hlt := (Array.getElem?_eq_some_iff.1 h2).1
  obtain ⟨v', w', hrun, ho, hg, -⟩ := OwnL.push (P := Tryd.prog) (t := 62) (ty := 62) h1 Tryd.underlying62 infoStrT rfl (vs := [.string x]) (x := x) ⟨rfl, by unfold big; omega⟩ (by omega) (by unfold big; omega) (by omega)
  have hol := OwnL.lt h1
  refine ⟨v', w', Lib.hid hrun, ho, ?_, h3.grown hg h3.size (fun k e => by have := (hol k e).1; omega)⟩
  rw [hg.block _ hlt (fun e => by have := (hol _ e.symm).1; omega)]
  exact h2
theorem TkS.next {w wr : World} {text : ByteArray} {pos : Nat} {vO : Value} {out : List ByteArray} (h : TkS w text pos vO out wr) (pos' : Nat) : TkS w text pos' vO out (wr.iterAt w.heap.size text pos') := by
  obtain ⟨h1, h2, h3⟩ := h
  refine ⟨OwnL.kept h1 (fun k e => ?_) (fun b hb => hb.1.elim), Lib.iterAt_heap wr _ _ _ _ h2, Lib.below_iterAt h3 (Nat.le_refl _) _ _⟩
  have := (OwnL.lt h1 k e).1
  exact Lib.iterAt_other wr _ _ _ _ (by omega)
theorem TkS.pos {w wr : World} {text : ByteArray} {pos : Nat} {vO : Value} {out : List ByteArray} (h : TkS w text pos vO out wr) : wr.iterPos w.heap.size = pos := by
  obtain ⟨-, h2, -⟩ := h
  simp [World.iterPos, h2]
theorem sz1 (a : UInt8) : (⟨#[a]⟩ : ByteArray).size = 1 := rfl
theorem sz2 (a b : UInt8) : (⟨#[a, b]⟩ : ByteArray).size = 2 := rfl
theorem sz3 (a b c : UInt8) : (⟨#[a, b, c]⟩ : ByteArray).size = 3 := rfl
theorem sz4 (a b c d : UInt8) : (⟨#[a, b, c, d]⟩ : ByteArray).size = 4 := rfl
theorem enc_size (r : Int) : (Utf8.encode r).size ≤ 4 := by
  unfold Utf8.encode
  dsimp only
  generalize (if Utf8.valid r = true then r.toNat else Utf8.runeError) = c
  split
  · rw [sz1]; omega
  · split
    · rw [sz2]; omega
    · split
      · rw [sz3]; omega
      · rw [sz4]; omega
theorem enc_ascii (c : UInt8) (h : c.toNat < 128) : Utf8.encode (c.toNat : Int) = ⟨#[c]⟩ := by
  unfold Utf8.encode
  have hv : Utf8.valid (c.toNat : Int) = true := by
    unfold Utf8.valid
    simp only [Bool.or_eq_true, Bool.and_eq_true, decide_eq_true_eq]
    left; omega
  rw [if_pos hv]
  simp only [Int.toNat_natCast]
  rw [if_pos (by omega)]
  simp
def ttRel (text : ByteArray) (w : World) (vO vW : Value) (wr : World) : Prop :=
  ∃ (pos : Nat) (out : List ByteArray) (wd : ByteArray), vW = .string wd ∧ TkS w text pos vO out wr ∧ wd.size ≤ pos ∧ wd.size ≤ text.size ∧ out.length ≤ 2 * pos ∧ out.length ≤ 2 * text.size ∧ (∀ b ∈ out, b.size ≤ 70000) ∧
    ((∀ c ∈ text.data.toList, c.toNat < 128) → pos ≤ text.size ∧ btk out ++ tokM (text.data.toList.drop pos) wd.data.toList = tokM text.data.toList [])
theorem drop_consT {t : ByteArray} {i : Nat} (h : i < t.size) : t.data.toList.drop i = (t[i]'h) :: t.data.toList.drop (i + 1) := by
  have h1 : i < t.data.toList.length := by rw [Array.length_toList]; exact h
  rw [List.drop_eq_getElem_cons h1]
  rfl
theorem ba_tl (b : ByteArray) : b.toList = b.data.toList := by rw [ByteArray.toList_eq]
theorem decode_bd (t : ByteArray) (pos : Nat) (h : pos < t.size) : 1 ≤ (Utf8.decode t pos).2 ∧ (Utf8.decode t pos).1 ≤ 2147483647 ∧ ((Utf8.decode t pos).1 < 128 → Utf8.decode t pos = ((t[pos]'h).toNat, 1) ∧ (t[pos]'h).toNat < 128) := by
  by_cases ha : (t[pos]'h).toNat < 128
  · have e := decode_ascii t pos h ha
    exact ⟨by rw [e]; exact Nat.le_refl _, decode_le t pos, fun _ => ⟨e, ha⟩⟩
  · have e := decode_high t pos h (by omega)
    exact ⟨e.2, decode_le t pos, fun h2 => by omega⟩
theorem wRun (r : Int) : ∀ z1 z2 z3 : Bool, (decide (97 ≤ r) && decide (r ≤ 122)) = z1 → (decide (65 ≤ r) && decide (r ≤ 90)) = z2 → (decide (48 ≤ r) && decide (r ≤ 57)) = z3 → ∀ c : UInt8, r = c.toNat → isW c = (z1 || z2 || z3) := by
  rintro z1 z2 z3 rfl rfl rfl c rfl
  unfold isW isLet
  rw [Bool.eq_iff_iff]
  simp only [Bool.or_eq_true, Bool.and_eq_true, decide_eq_true_eq]
  omega
theorem asc_mem {t : ByteArray} {pos : Nat} (h : pos < t.size) (ha : ∀ c ∈ t.data.toList, c.toNat < 128) : (t[pos]'h).toNat < 128 := by
  refine ha _ ?_
  have h1 : pos < t.data.toList.length := by rw [Array.length_toList]; exact h
  have : t[pos]'h = t.data.toList[pos] := rfl
  rw [this]
  exact List.getElem_mem h1
set_option maxRecDepth 100000 in
set_option maxHeartbeats 4000000 in
theorem tokens_any (text : ByteArray) (hs : text.size ≤ 65536) (w : World) :
    Calls Tryd.prog 30 #[.string text] w fun e w' => ∃ v out, e = .returned v ∧ OwnTk w' w.heap.size v out ∧ (∀ b ∈ out, b.size ≤ 70000) ∧ out.length ≤ 200000 ∧ ((∀ c ∈ text.data.toList, c.toNat < 128) → btk out = tokM text.data.toList []) ∧ Below w.heap.size w w' := by
  go_enter Tryd.func30, Tryd.ntmps30
  go_wp2_with fail
  go_loopw [3, 4] (fun vO vW wr => ttRel text w vO vW wr) (fun _ _ wr => text.size - wr.iterPos w.heap.size)
  case atStart =>
    refine ⟨0, [], ByteArray.empty, rfl, ⟨.nil _ _ _ _ _, World.iter_heap w text 0, below1 _ _⟩, Nat.le_refl _, Nat.zero_le _, by simp, by simp, by simp, fun _ => ⟨Nat.zero_le _, rfl⟩⟩
  case round =>
    obtain ⟨pos, out, wd, rfl, hT, hw1, hw2, ho1, ho2, hb, hg⟩ := hrel
    have hpos := hT.pos
    by_cases hp : pos < text.size
    · obtain ⟨d1, d2, d3⟩ := decode_bd text pos hp
      have hnx : ∀ ty, (Instr.next (.pointer (some ⟨w.heap.size, 0, none⟩)) true ty).run Tryd.prog wr = _ := fun ty => Lib.run_next_any_at wr w.heap.size text pos ty hT.2.1 hp
      have hN := hT.next (pos + (Utf8.decode text pos).2)
      obtain ⟨W1, hW1⟩ : ∃ W1, wr.iterAt w.heap.size text (pos + (Utf8.decode text pos).2) = W1 := ⟨_, rfl⟩
      simp only [hW1] at hnx hN
      obtain ⟨r, hr⟩ : ∃ r, (Utf8.decode text pos).1 = r := ⟨_, rfl⟩
      obtain ⟨st, hst⟩ : ∃ st, (Utf8.decode text pos).2 = st := ⟨_, rfl⟩
      simp only [hr] at hnx
      have hE := enc_size (r : Int)
      have hwr := wRun (r : Int)
      have hasc : (∀ c ∈ text.data.toList, c.toNat < 128) → r = (text[pos]'hp).toNat ∧ st = 1 ∧ Utf8.encode (r : Int) = ⟨#[text[pos]'hp]⟩ := fun ha => by
        have h1 := asc_mem hp ha
        have h2 := decode_ascii text pos hp h1
        rw [h2] at hr hst
        exact ⟨hr.symm, hst.symm, by rw [← hr]; exact enc_ascii _ h1⟩
      have hlow : r < 128 → r = (text[pos]'hp).toNat ∧ st = 1 ∧ Utf8.encode (r : Int) = ⟨#[text[pos]'hp]⟩ := fun ha => by
        rw [← hr] at ha
        obtain ⟨h2, h1⟩ := d3 ha
        rw [h2] at hr hst
        exact ⟨hr.symm, hst.symm, by rw [← hr]; exact enc_ascii _ h1⟩
      have hdr := drop_consT hp
      rw [hr] at d2
      rw [hst] at d1
      rw [hst] at hN
      obtain ⟨c, hc⟩ : ∃ c, text[pos]'hp = c := ⟨_, rfl⟩
      rw [hc] at hasc hlow hdr
      obtain ⟨E, hEe⟩ : ∃ E, Utf8.encode (r : Int) = E := ⟨_, rfl⟩
      rw [hEe] at hE hasc hlow
      have w1 := fun W => twithin_any (r : Int) 97 122 W
      have w2 := fun W => twithin_any (r : Int) 65 90 W
      have w3 := fun W => twithin_any (r : Int) 48 57 W
      obtain ⟨z1, hz1⟩ : ∃ z, (decide ((97 : Int) ≤ (r : Int)) && decide ((r : Int) ≤ 122)) = z := ⟨_, rfl⟩
      obtain ⟨z2, hz2⟩ : ∃ z, (decide ((65 : Int) ≤ (r : Int)) && decide ((r : Int) ≤ 90)) = z := ⟨_, rfl⟩
      obtain ⟨z3, hz3⟩ : ∃ z, (decide ((48 : Int) ≤ (r : Int)) && decide ((r : Int) ≤ 57)) = z := ⟨_, rfl⟩
      simp only [hz1] at w1
      simp only [hz2] at w2
      simp only [hz3] at w3
      have hword : (z1 || z2 || z3) = true → ∃ pos', pos' = pos + 1 ∧ TkS w text pos' u3 out W1 ∧ ttRel text w u3 (.string (wd ++ E)) W1 := fun hz => by
        have hr128 : r < 128 := by
          rw [← hz1, ← hz2, ← hz3] at hz
          simp only [Bool.or_eq_true, Bool.and_eq_true, decide_eq_true_eq] at hz
          omega
        obtain ⟨e1, e2, e3⟩ := hlow hr128
        have hiw := hwr z1 z2 z3 hz1 hz2 hz3 c (by omega)
        rw [hz] at hiw
        rw [e2] at hN
        have hsz : (wd ++ E).size = wd.size + 1 := by rw [ByteArray.size_append, e3]; rfl
        refine ⟨pos + 1, rfl, hN, pos + 1, out, wd ++ E, rfl, hN, by omega, by omega, by omega, ho2, hb, fun ha => ?_⟩
        obtain ⟨q1, q2⟩ := hg ha
        refine ⟨by omega, ?_⟩
        rw [← q2, hdr, tokM, if_pos hiw, e3]
        congr 2
      have hsign : (z1 || z2 || z3) = false → ∀ v' W9 o1, TkS w text (pos + st) v' (out ++ o1 ++ [E]) W9 → (o1 = (if wd.data.toList = [] then [] else [wd])) → ttRel text w v' (.string ByteArray.empty) W9 := fun hz v' W9 o1 hT9 ho1 => by
        have ho1l : o1.length ≤ 1 := by rw [ho1]; split <;> simp
        refine ⟨pos + st, out ++ o1 ++ [E], ByteArray.empty, rfl, hT9, Nat.zero_le _, Nat.zero_le _, by simp; omega, by simp; omega, fun b hbm => ?_, fun ha => ?_⟩
        · rw [List.mem_append, List.mem_append, List.mem_singleton] at hbm
          rcases hbm with (h | h) | h
          · exact hb b h
          · rw [ho1] at h
            split at h
            · cases h
            · rw [List.mem_singleton] at h; rw [h]; omega
          · rw [h]; omega
        · obtain ⟨q1, q2⟩ := hg ha
          obtain ⟨e1, e2, e3⟩ := hasc ha
          have hiw := hwr z1 z2 z3 hz1 hz2 hz3 c (by omega)
          rw [hz] at hiw
          refine ⟨by omega, ?_⟩
          rw [← q2, hdr, tokM, if_neg (by rw [hiw]; decide), e2, ho1, e3, show ByteArray.empty.data.toList = ([] : List UInt8) from rfl]
          unfold btk wTok
          rw [List.map_append, List.map_append]
          by_cases hwd : wd.data.toList = []
          · rw [if_pos hwd, if_pos hwd]; simp
          · rw [if_neg hwd, if_neg hwd]; simp
      have hpW : W1.iterPos w.heap.size = pos + st := hN.pos
      have hadd : (9223372036854775807 < wd.size + E.size) = False := eq_false (by omega)
      have hrr : (r : Int) ≤ 2147483647 := by omega
      have w1H := Lib.hid w1
      have w2H := Lib.hid w2
      have w3H := Lib.hid w3
      have hNH := Lib.hid hN
      have hwordH := Lib.hid hword
      have hsignH := Lib.hid hsign
      have hposH := Lib.hid hpos
      have hpWH := Lib.hid hpW
      clear hT hW1 hr hst hwr hasc hlow hdr hc hz1 hz2 hz3 hword hsign hN w1 w2 w3 hpos hpW hg hb d3
      cases z1 with
      | true =>
        obtain ⟨p1, hp1, -, hrel'⟩ := hwordH.out rfl
        have hrelH := Lib.hid hrel'
        clear hrel'
        go_wp2_with fail
        refine (w1H.out _).mono ?_
        rintro e w9 ⟨rfl, rfl⟩
        go_wp2_with fail
        exact ⟨hrelH.out, by rw [hposH.out, hpWH.out]; omega⟩
      | false =>
      cases z2 with
      | true =>
        obtain ⟨p1, hp1, -, hrel'⟩ := hwordH.out rfl
        have hrelH := Lib.hid hrel'
        clear hrel'
        go_wp2_with fail
        refine (w1H.out _).mono ?_
        rintro e w9 ⟨rfl, rfl⟩
        go_wp2_with fail
        refine (w2H.out _).mono ?_
        rintro e w9 ⟨rfl, rfl⟩
        go_wp2_with fail
        exact ⟨hrelH.out, by rw [hposH.out, hpWH.out]; omega⟩
      | false =>
      cases z3 with
      | true =>
        obtain ⟨p1, hp1, -, hrel'⟩ := hwordH.out rfl
        have hrelH := Lib.hid hrel'
        clear hrel'
        go_wp2_with fail
        refine (w1H.out _).mono ?_
        rintro e w9 ⟨rfl, rfl⟩
        go_wp2_with fail
        refine (w2H.out _).mono ?_
        rintro e w9 ⟨rfl, rfl⟩
        go_wp2_with fail
        refine (w3H.out _).mono ?_
        rintro e w9 ⟨rfl, rfl⟩
        go_wp2_with fail
        exact ⟨hrelH.out, by rw [hposH.out, hpWH.out]; omega⟩
      | false =>
        by_cases hwd : wd.data.toList = []
        · have hq : (wd.toList == ([] : List UInt8)) = true := by rw [ba_tl, hwd]; rfl
          obtain ⟨v', w', hrun, hT9⟩ := hNH.out.push (x := E) (by omega) (by omega)
          have hrelH := Lib.hid (hsignH.out rfl v' w' [] (by rw [List.append_nil]; exact hT9) (by rw [if_pos hwd]))
          have hp9 := Lib.hid hT9.pos
          clear hT9 hwordH hsignH hNH hwd
          go_wp2_with fail
          refine (w1H.out _).mono ?_
          rintro e w9 ⟨rfl, rfl⟩
          go_wp2_with fail
          refine (w2H.out _).mono ?_
          rintro e w9 ⟨rfl, rfl⟩
          go_wp2_with fail
          refine (w3H.out _).mono ?_
          rintro e w9 ⟨rfl, rfl⟩
          go_wp2_with (at_builtin; refine wpList_append_run rfl _ _ _ rfl rfl rfl hrun.out ?_)
          exact ⟨hrelH.out, by rw [hposH.out, hp9.out]; omega⟩
        · have hq : (wd.toList == ([] : List UInt8)) = false := by rw [ba_tl, beq_eq_false_iff_ne]; exact hwd
          obtain ⟨v1, w1', hrun1, hT1⟩ := hNH.out.push (x := wd) (by omega) (by omega)
          obtain ⟨v', w', hrun, hT9⟩ := hT1.push (x := E) (by omega) (by rw [List.length_append, List.length_singleton]; omega)
          have hrelH := Lib.hid (hsignH.out rfl v' w' [wd] hT9 (by rw [if_neg hwd]))
          have hp9 := Lib.hid hT9.pos
          clear hT9 hT1 hwordH hsignH hNH hwd
          go_wp2_with fail
          refine (w1H.out _).mono ?_
          rintro e w9 ⟨rfl, rfl⟩
          go_wp2_with fail
          refine (w2H.out _).mono ?_
          rintro e w9 ⟨rfl, rfl⟩
          go_wp2_with fail
          refine (w3H.out _).mono ?_
          rintro e w9 ⟨rfl, rfl⟩
          go_wp2_with (first
            | (at_builtin; refine wpList_append_run rfl _ _ _ rfl rfl rfl hrun1.out ?_)
            | (at_builtin; refine wpList_append_run rfl _ _ _ rfl rfl rfl hrun.out ?_))
          exact ⟨hrelH.out, by rw [hposH.out, hp9.out]; omega⟩
    · have hnx : ∀ ty, (Instr.next (.pointer (some ⟨w.heap.size, 0, none⟩)) true ty).run Tryd.prog wr = _ := fun ty => Lib.run_next_end_at wr w.heap.size text pos ty hT.2.1 hp
      have hdr : text.data.toList.drop pos = [] := by rw [List.drop_eq_nil_iff, Array.length_toList]; exact Nat.le_of_not_lt hp
      rw [hdr] at hg
      by_cases hwd : wd.data.toList = []
      · have hq : (wd.toList == ([] : List UInt8)) = true := by rw [ba_tl, hwd]; rfl
        have hres := Lib.hid (show (∀ c ∈ text.data.toList, c.toNat < 128) → btk out = tokM text.data.toList [] from fun ha => by
          have := (hg ha).2
          rw [tokM] at this
          unfold wTok at this
          rw [if_pos hwd, List.append_nil] at this
          exact this)
        have hO := Lib.hid (OwnL.baseMono hT.1 (Nat.le_succ _))
        have hB := Lib.hid hT.2.2
        have hbH := Lib.hid hb
        clear hg hdr hT hpos hwd hb
        go_wp2_with fail
        go_ret
        exact ⟨_, out, rfl, hO.out, hbH.out, by omega, hres.out, hB.out⟩
      · have hq : (wd.toList == ([] : List UInt8)) = false := by rw [ba_tl, beq_eq_false_iff_ne]; exact hwd
        obtain ⟨v', w', hrun, hT9⟩ := hT.push (x := wd) (by omega) (by omega)
        have hres := Lib.hid (show (∀ c ∈ text.data.toList, c.toNat < 128) → btk (out ++ [wd]) = tokM text.data.toList [] from fun ha => by
          have := (hg ha).2
          rw [tokM] at this
          unfold wTok at this
          rw [if_neg hwd] at this
          rw [← this]
          unfold btk
          rw [List.map_append]; rfl)
        have hO := Lib.hid (OwnL.baseMono hT9.1 (Nat.le_succ _))
        have hB := Lib.hid hT9.2.2
        have hbH := Lib.hid (show ∀ b ∈ out ++ [wd], b.size ≤ 70000 from fun b hbm => by
          rw [List.mem_append, List.mem_singleton] at hbm
          rcases hbm with h | h
          · exact hb b h
          · rw [h]; omega)
        clear hg hdr hT hpos hwd hb hT9
        go_wp2_with (at_builtin; refine wpList_append_run rfl _ _ _ rfl rfl rfl hrun.out ?_)
        go_ret
        exact ⟨_, out ++ [wd], rfl, hO.out, hbH.out, by rw [List.length_append, List.length_singleton]; omega, hres.out, hB.out⟩
end Go.Proofs.YtnhaoalcpbefoaaDoor

/- Givens that needed steps cite, in plain words: a sorted list, each once, is what a range is left with. No program is named. -/
namespace Go.Proofs.YtnhaoalcpbefoaaDoor

theorem cmp_inv {zs : List Int} (hs : zs.Pairwise (· ≤ ·)) : ∀ m, m ≤ zs.length → (Go.Lib.compactUpTo zs.toArray m).Pairwise (· < ·) ∧ ∀ x, x ∈ Go.Lib.compactUpTo zs.toArray m ↔ x ∈ zs.take m
  | 0, _ => ⟨by simp [Go.Lib.compactUpTo], fun x => by simp [Go.Lib.compactUpTo]⟩
  | m + 1, hm => by
    obtain ⟨ih1, ih2⟩ := cmp_inv hs m (by omega)
    have hlt : m < zs.length := by omega
    have hg : ∀ j, j < zs.length → zs.toArray[j]! = zs[j]! := fun j hj => by simp
    have hge : zs.toArray[m]! = zs[m] := by simp [getElem!_pos, hlt]
    have htk : zs.take (m + 1) = zs.take m ++ [zs[m]] := List.take_succ_eq_append_getElem hlt
    rw [Go.Lib.compactUpTo_succ, htk]
    by_cases hk : Go.Lib.keeps zs.toArray m = true
    · rw [if_pos hk, hge]
      refine ⟨?_, fun x => by rw [List.mem_append, List.mem_append, ih2 x]⟩
      rw [List.pairwise_append]
      refine ⟨ih1, by simp, fun x hx y hy => ?_⟩
      rw [List.mem_singleton] at hy
      subst hy
      rw [ih2] at hx
      obtain ⟨j, hj, rfl⟩ := List.getElem_of_mem hx
      rw [List.length_take] at hj
      rw [List.getElem_take]
      have hjm : j < m := by omega
      rw [List.pairwise_iff_getElem] at hs
      have h1 : zs[j] ≤ zs[m - 1] := by
        by_cases e : j = m - 1
        · subst e; exact Int.le_refl _
        · exact hs j (m - 1) (by omega) (by omega) (by omega)
      have h2 : zs[m - 1] ≤ zs[m] := hs (m - 1) m (by omega) hlt (by omega)
      have h3 : zs[m] ≠ zs[m - 1] := by
        simp only [Go.Lib.keeps, decide_eq_true_eq] at hk
        rcases hk with hk | hk
        · omega
        · rw [hge] at hk
          have : zs.toArray[m - 1]! = zs[m - 1] := by rw [getElem!_pos _ _ (by simp; omega)]; simp
          rw [this] at hk; exact hk
      omega
    · rw [if_neg hk, List.append_nil]
      refine ⟨ih1, fun x => ?_⟩
      rw [ih2 x, List.mem_append, List.mem_singleton]
      refine ⟨.inl, fun h => h.elim id fun e => ?_⟩
      simp only [Go.Lib.keeps, decide_eq_true_eq, not_or] at hk
      have h0 : 0 < m := by omega
      have : zs.toArray[m - 1]! = zs[m - 1] := by rw [getElem!_pos _ _ (by simp; omega)]; simp
      have h3 : zs[m] = zs[m - 1] := by
        have := hk.2
        rw [hge] at this
        rw [‹zs.toArray[m - 1]! = zs[m - 1]›] at this
        exact Classical.byContradiction this
      rw [e, h3, List.mem_iff_getElem]
      exact ⟨m - 1, by rw [List.length_take]; omega, by rw [List.getElem_take]⟩
theorem lt_ext {a b : List Int} (ha : a.Pairwise (· < ·)) (hb : b.Pairwise (· < ·)) (h : ∀ x, x ∈ a ↔ x ∈ b) : a = b := by
  induction a generalizing b with
  | nil =>
    cases b with
    | nil => rfl
    | cons y b => exact absurd ((h y).2 (by simp)) (by simp)
  | cons x a ih =>
    cases b with
    | nil => exact absurd ((h x).1 (by simp)) (by simp)
    | cons y b =>
      rw [List.pairwise_cons] at ha hb
      have hxy : x = y := by
        have h1 := (h x).1 (by simp)
        have h2 := (h y).2 (by simp)
        rw [List.mem_cons] at h1 h2
        rcases h1 with h1 | h1
        · exact h1
        · rcases h2 with h2 | h2
          · exact h2.symm
          · have := hb.1 x h1; have := ha.1 y h2; omega
      subst hxy
      rw [ih ha.2 hb.2 fun z => ?_]
      have hz := h z
      rw [List.mem_cons, List.mem_cons] at hz
      constructor
      · intro hm
        rcases hz.1 (.inr hm) with e | e
        · have := ha.1 z hm; omega
        · exact e
      · intro hm
        rcases hz.2 (.inr hm) with e | e
        · have := hb.1 z hm; omega
        · exact e
theorem sort_le (l : List Int) : (l.mergeSort fun x y => decide (x ≤ y)).Pairwise (· ≤ ·) := by
  have := List.pairwise_mergeSort (le := fun x y : Int => decide (x ≤ y)) (fun a b c h1 h2 => by simp only [decide_eq_true_eq] at h1 h2 ⊢; omega) (fun a b => by simp only [Bool.or_eq_true, decide_eq_true_eq]; omega) l
  exact this.imp fun h => by simpa using h
/-- sorted, each once -/
def uniqI (l : List Int) : List Int := Go.Lib.compact (l.mergeSort fun x y => decide (x ≤ y))
theorem uniqI_lt (l : List Int) : (uniqI l).Pairwise (· < ·) := (cmp_inv (sort_le l) _ (Nat.le_refl _)).1
theorem uniqI_mem (l : List Int) (x : Int) : x ∈ uniqI l ↔ x ∈ l := by
  have := (cmp_inv (sort_le l) _ (Nat.le_refl _)).2 x
  rw [List.take_length] at this
  unfold uniqI Go.Lib.compact
  rw [this, List.mem_mergeSort]
/-- what needed steps cite, in their order -/
def citL (p : List Stp) (L : List Nat) : List Int := (L.filter fun i => decide ((p.getD i (0, 0, 0)).1 = 1)).map fun i => (p.getD i (0, 0, 0)).2.1
/-- whether a needed step cites a given -/
def citB (p : List Stp) (g : Nat) : Bool := (List.range p.length).any fun i => (ndL p).getD i false && (decide ((p.getD i (0, 0, 0)).1 = 1) && decide ((p.getD i (0, 0, 0)).2.1 = (g : Int)))
def citR (G : Nat) (p : List Stp) : List Int := ((List.range G).filter fun g => citB p g).map fun g : Nat => (g : Int)
theorem citL_mem {p : List Stp} {x : Int} : x ∈ citL p (ndIdx p) ↔ ∃ i, i < p.length ∧ (ndL p).getD i false = true ∧ (p.getD i (0, 0, 0)).1 = 1 ∧ (p.getD i (0, 0, 0)).2.1 = x := by
  unfold citL ndIdx
  rw [List.mem_map]
  constructor
  · rintro ⟨i, hi, rfl⟩
    rw [List.mem_filter, List.mem_filter, List.mem_range, decide_eq_true_eq] at hi
    exact ⟨i, hi.1.1, hi.1.2, hi.2, rfl⟩
  · rintro ⟨i, h1, h2, h3, rfl⟩
    exact ⟨i, by rw [List.mem_filter, List.mem_filter, List.mem_range, decide_eq_true_eq]; exact ⟨⟨h1, h2⟩, h3⟩, rfl⟩
theorem cited_eq {G : Nat} {p : List Stp} (ok : okSteps (G : Int) 0 p = true) : uniqI (citL p (ndIdx p)) = citR G p := by
  refine lt_ext (uniqI_lt _) ?_ fun x => ?_
  · unfold citR
    rw [List.pairwise_map]
    exact (List.Pairwise.filter _ List.pairwise_lt_range).imp fun h => by omega
  · rw [uniqI_mem, citL_mem]
    unfold citR citB
    rw [List.mem_map]
    constructor
    · rintro ⟨i, h1, h2, h3, rfl⟩
      have hr := okS_get p 0 i h1 ok
      rw [Nat.zero_add] at hr
      rw [getD_stp h1] at h3 ⊢
      obtain ⟨c1, c2, -⟩ := rightB_cite hr h3
      refine ⟨p[i].2.1.toNat, ?_, by omega⟩
      rw [List.mem_filter, List.mem_range]
      refine ⟨by omega, ?_⟩
      rw [List.any_eq_true]
      refine ⟨i, List.mem_range.2 h1, ?_⟩
      rw [getD_stp h1]
      simp only [Bool.and_eq_true, decide_eq_true_eq]
      exact ⟨h2, h3, by omega⟩
    · rintro ⟨g, hg, rfl⟩
      rw [List.mem_filter, List.any_eq_true] at hg
      obtain ⟨-, i, hi, hb⟩ := hg
      simp only [Bool.and_eq_true, decide_eq_true_eq] at hb
      exact ⟨i, List.mem_range.1 hi, hb.1, hb.2.1, hb.2.2⟩
/-- what Cited answers -/
def citedE (G : Int) (p : List Stp) : List Int × Int := if proofB G p = true then (citR G.toNat p, 0) else ([], 1)
end Go.Proofs.YtnhaoalcpbefoaaDoor

/- slices.Sort and slices.Compact at numbers, off the shelf, on a list of the call's own. -/
namespace Go.Proofs.YtnhaoalcpbefoaaDoor
open Go Go.RowKit

theorem below_grow {B : Nat} {w0 w : World} (h : Below B w0 w) (hB : B ≤ w.heap.size) (os : Array Obj) : Below B w0 (Go.Sort.grow w os) :=
  ⟨h.os, h.tape, h.output, by simpa [Go.Sort.grow] using Nat.le_trans h.size (Nat.le_add_right _ _), fun k hk => by
    rw [← h.block k hk]
    simp only [Go.Sort.grow]
    rw [Array.getElem?_append_left (by omega)]⟩
theorem ownsRow_grow {w : World} {base : Nat} {e : TypeId} {v : Value} {n : Nat} {xs : List Value} (h : w.ownsRow base e 1 v n xs) (os : Array Obj) : (Go.Sort.grow w os).ownsRow base e 1 v n xs := by
  refine ⟨h.1, ?_⟩
  rcases h.2 with h2 | ⟨g, cap, cur, e0, hb, hg, rest⟩
  · exact .inl h2
  · refine .inr ⟨g, cap, cur, e0, hb, ?_, rest⟩
    simp only [Go.Sort.grow]
    rw [Array.getElem?_append_left (Array.getElem?_eq_some_iff.1 hg).1]; exact hg
end Go.Proofs.YtnhaoalcpbefoaaDoor

/- Walks: Equal, Clone of []int; tongue.ascending, order. -/
namespace Go.Proofs.YtnhaoalcpbefoaaDoor
open Go Go.RowKit Go.Maps

theorem OwnI.pushU {w wr W : World} {out : Value} {l l' : List Int} (ho : OwnI wr w.heap.size out l) (hB : Below w.heap.size w wr) (hb : Below wr.heap.size wr W) {x : Int} (hx : inRange x) (hl' : l' = l ++ [x]) (hl : l.length ≤ 1000000) :
    ∃ v' w', RowKit.Hid ((Builtin.append_ #[24, 24] 24 #[out, .slice (some ⟨W.heap.size, 0, none⟩) 1 1]).run Tryd.prog (W.alloc (.cells #[.int .i64 x] 3)) = .ok v' w') ∧ RowKit.Hid (OwnI w' w.heap.size v' l') ∧ RowKit.Hid (Below w.heap.size w w') := by
  have hB2 := bcall hB hb
  have ho1 := OwnL.call ho hb
  obtain ⟨v', w', hrun, ho', hg, -⟩ := ho1.push (P := Tryd.prog) (t := 24) (ty := 24) Tryd.underlying24 infoInt rfl (vs := [.int .i64 x]) (x := x) ⟨rfl, hx⟩ (by omega) (by unfold big; omega) hB2.size
  exact ⟨v', w', Lib.hid hrun, Lib.hid (by rw [hl']; exact ho'), Lib.hid (hB2.grown hg hB2.size (fun k e => (ho1.lt k e).1))⟩
def ascRel (n : Nat) (w : World) (out i : Value) (wr : World) : Prop := ∃ k : Nat, i = .int .i64 k ∧ k ≤ n ∧ OwnI wr w.heap.size out (ascL k) ∧ Below w.heap.size w wr
end Go.Proofs.YtnhaoalcpbefoaaDoor

/- Walks: tongue.Valid. -/
namespace Go.Proofs.YtnhaoalcpbefoaaDoor
open Go Go.RowKit Go.Maps

def wayE : Enc (Int × List Int) := pairE intE (slE intE)
abbrev WaysL (S : Nat → Prop) (w : World) (a : Option Addr) (c : Nat) (d : Ways) : Prop := Sl wayE S w a c d
theorem Sl.way {S : Nat → Prop} {w : World} {a : Option Addr} {c : Nat} {d : Ways} (h : WaysL S w a c d) (i : Nat) (hi : i < d.length) :
    ∃ b off a' c', a = some ⟨b, off, none⟩ ∧ S b ∧ w.cell? ⟨b, off + i * 2, none⟩ = some (.int .i64 d[i].1) ∧ w.cell? ⟨b, off + i * 2 + 1, none⟩ = some (.slice a' d[i].2.length c') ∧ inRange d[i].1 ∧ Ints S w a' c' d[i].2 := by
  obtain ⟨b, off, ha, hb, hl, vs, _, hv, hr⟩ := h.at1 i hi
  obtain ⟨us, ts, rfl, ⟨rfl, h1⟩, ⟨a', c', rfl, h2⟩⟩ := hr
  have h0 := hv 0 (by simp)
  have h3 := hv 1 (by simp)
  simp [wayE, pairE, slE, intE] at h0 h3
  exact ⟨b, off, a', c', ha, hb, h0, h3, h1, h2⟩
theorem validD_if {a b : Sg} {d : Ways} : validD a b d = (okSign a && (okSign b && (decide (d.length = a.length) && (decide ((d.getD 0 (0, [])).1 = 0) && (decide ((d.getD 0 (0, [])).2 = [0, 1]) && wysOk a b d d.length))))) := by
  unfold validD
  by_cases h1 : okSign a = true
  · by_cases h3 : d.length = a.length
    · by_cases h4 : wysOk a b d d.length = true
      · rw [first_way h1 h3 h4, h4]
        simp only [Bool.true_and, Bool.and_true]
      · have h4' : wysOk a b d d.length = false := by simpa using h4
        rw [h4']
        simp only [Bool.and_false, Bool.false_and]
    · rw [decide_eq_false h3]
      simp only [Bool.and_false, Bool.false_and]
  · have h1' : okSign a = false := by simpa using h1
    rw [h1', Bool.false_and, Bool.false_and]
def vwRel (a b : Sg) (d : Ways) (w : World) (i : Value) (wr : World) : Prop := ∃ k : Nat, i = .int .i64 k ∧ k ≤ d.length ∧ wysOk a b d k = true ∧ Below w.heap.size w wr
theorem keepV {W1 w1 w2 : World} {p1 p2 p3 p4 : Addr} {v1 v2 v3 v4 : Value} (h : Below W1.heap.size W1 w1 ∧ w1.cell? p1 = some v1 ∧ w1.cell? p2 = some v2 ∧ w1.cell? p3 = some v3 ∧ w1.cell? p4 = some v4) (hb : Below w1.heap.size w1 w2) :
    Below W1.heap.size W1 w2 ∧ w2.cell? p1 = some v1 ∧ w2.cell? p2 = some v2 ∧ w2.cell? p3 = some v3 ∧ w2.cell? p4 = some v4 :=
  ⟨bcall h.1 hb, cell_later hb h.2.1, cell_later hb h.2.2.1, cell_later hb h.2.2.2.1, cell_later hb h.2.2.2.2⟩
end Go.Proofs.YtnhaoalcpbefoaaDoor

/- Walks: the closure of tongue.carried. -/
namespace Go.Proofs.YtnhaoalcpbefoaaDoor
open Go Go.RowKit Go.Maps

theorem OwnI.appU {T : Nat → Prop} {w wr W : World} {out : Value} {l l2 l' : List Int} (ho : OwnI wr w.heap.size out l) (hB : Below w.heap.size w wr) (hb : Below wr.heap.size wr W) {a : Option Addr} {c : Nat} (hx : Ints T W a c l2) (hl' : l' = l ++ l2) (hl : l.length ≤ 1000) (hl2 : l2.length ≤ 1000) :
    ∃ v' w', RowKit.Hid ((Builtin.append_ #[25, 25] 25 #[out, .slice a l2.length c]).run Tryd.prog W = .ok v' w') ∧ RowKit.Hid (OwnI w' w.heap.size v' l') ∧ RowKit.Hid (Below w.heap.size w w') := by
  have hB2 := bcall hB hb
  have ho1 := OwnL.call ho hb
  obtain ⟨v', w', hrun, ho', hg, -⟩ := ho1.append_run (P := Tryd.prog) (t := 25) (ty := 25) Tryd.underlying25 infoInt rfl hx (fun _ _ _ h => h) (by omega) (by unfold big; omega) hB2.size
  exact ⟨v', w', Lib.hid hrun, Lib.hid (by rw [hl']; exact ho'), Lib.hid (hB2.grown hg hB2.size (fun k e => (ho1.lt k e).1))⟩
theorem flat_le {A : List (List Int)} {n : Nat} (h : ∀ u ∈ A, u.length ≤ n) : A.flatten.length ≤ A.length * n := by
  induction A with
  | nil => simp
  | cons x A ih =>
    have h1 := h x (by simp)
    have h2 := ih (fun u hu => h u (by simp [hu]))
    rw [List.flatten_cons, List.length_append, List.length_cons, Nat.succ_mul]
    omega
def caRet (W : World) (ba p : Nat) (s : Sg) (d : Ways) (u : List Int) (e : Ending) (w' : World) : Prop := ∃ v, e = .returned v ∧ OwnI w' W.heap.size v (carT s d u) ∧ W.grownBy w' (some ba) ∧ AtBox w' ba (p + u.length)
def caRel1 (s : Sg) (d : Ways) (t : List Int) (p m ba : Nat) (W2 : World) (out i : Value) (wr : World) : Prop :=
  ∃ (j p' : Nat) (A : List (List Int)), i = .int .i64 j ∧ j ≤ m ∧ A = ((splitK s m (t.drop (p + 1))).take j).map (carT s d) ∧ skip s j (t.drop (p + 1)) = some (t.drop p') ∧ p + 1 ≤ p' ∧ p' ≤ t.length ∧ OwnL (slE intE) (fun b => b ≠ ba) wr W2.heap.size 25 out A ∧ W2.grownBy wr (some ba) ∧ AtBox wr ba p'
def caRel2 (A : List (List Int)) (T : Int) (L : List Int) (W5 : World) (out i : Value) (wr : World) : Prop :=
  ∃ q : Nat, i = .int .i64 q ∧ q ≤ L.length ∧ OwnI wr W5.heap.size out (T :: ((L.take q).map (fun k => A.getD k.toNat [])).flatten) ∧ Below W5.heap.size W5 wr
end Go.Proofs.YtnhaoalcpbefoaaDoor

/- The reader of tokens in the world; walks: next, skip, atom, TrimPrefix, Atoi. -/
namespace Go.Proofs.YtnhaoalcpbefoaaDoor
open Go Go.RowKit Go.Maps Go.Shelf

def SentT (w : World) (g : Nat) : Prop := ∃ ev, w.cell? ⟨g, 0, none⟩ = some ev ∧ (ev = .nilIface ∨ ∃ te pe, ev = .iface te pe)
def LibT (w : World) : Prop := SentT w 1 ∧ SentT w 2
theorem LibT.later {w w' : World} (h : LibT w) (hb : Below w.heap.size w w') : LibT w' := by
  obtain ⟨⟨e1, h3, h4⟩, ⟨e2, h5, h6⟩⟩ := h
  exact ⟨⟨e1, cell_later hb h3, h4⟩, ⟨e2, cell_later hb h5, h6⟩⟩
theorem AtoiT_any (s : ByteArray) (hs : s.size ≤ 70000) (w : World) (hL : LibT w) :
    Calls Tryd.prog 37 #[.string s] w fun e w' => Below w.heap.size w w' ∧ ((∃ v : Int, atoiO s.data.toList = some v ∧ e = .returned (.tuple #[.int .i64 v, .nilIface])) ∨ (atoiO s.data.toList = none ∧ ∃ (v : Int) (t : TypeId) (p : Value), e = .returned (.tuple #[.int .i64 v, .iface t p]) ∧ t = 113)) := by
  obtain ⟨⟨e1, h3, h4⟩, ⟨e2, h5, h6⟩⟩ := hL
  unfold atoiO
  cases h : Lib.atoiAll s.data.toList with
  | ok v =>
    refine (Any.strconv_Atoi_ok shC172 s (by omega) v h w).mono fun e w' hh => ⟨?_, .inl ⟨v, rfl, hh.1⟩⟩
    rcases hh.2 with rfl | ⟨t, rfl⟩
    · exact .refl _ _
    · exact bytesWorld_low w _ t
  | range =>
    refine (Any.strconv_Atoi_range shC172 s (by omega) h e2 w h5 h6).mono fun e w' hh => ?_
    obtain ⟨N, rfl, -, -, hb⟩ := hh
    exact ⟨hb, .inr ⟨rfl, _, _, _, rfl, rfl⟩⟩
  | _ =>
    refine (Any.strconv_Atoi_syntax shC172 s (by omega) h e1 w h3 h4).mono fun e w' hh => ?_
    obtain ⟨N, rfl, -, -, hb⟩ := hh
    exact ⟨hb, .inr ⟨rfl, _, _, _, rfl, rfl⟩⟩
theorem Strs.tailT {S : Nat → Prop} {w : World} {b off c : Nat} {x : ByteArray} {l : List ByteArray} (h : Sl strE S w (some ⟨b, off, none⟩) c (x :: l)) : Sl strE S w (if c = 1 then some ⟨b, off, none⟩ else some ⟨b, off + 1, none⟩) (c - 1) l := by
  have hc := h.cap
  have hm := h.max
  rw [List.length_cons] at hc
  refine ⟨by omega, by omega, (fun e => by split at e <;> cases e), fun hne => ?_⟩
  obtain ⟨b', off', he, hb, hl, hcell⟩ := h.dat (by simp)
  cases he
  have hl0 : 0 < l.length := List.length_pos_iff.2 hne
  rw [if_neg (by omega)]
  refine ⟨b, off + 1, rfl, hb, hl, fun i hi => ?_⟩
  obtain ⟨vs, h1, h2, h3⟩ := hcell (i + 1) (by rw [List.length_cons]; omega)
  refine ⟨vs, h1, fun j hj => ?_, h3⟩
  have := h2 j hj
  rw [show off + (i + 1) * strE.size + j = off + 1 + i * strE.size + j by show off + (i + 1) * 1 + j = off + 1 + i * 1 + j; omega] at this
  exact this
theorem Sl.str0 {S : Nat → Prop} {w : World} {a : Option Addr} {c : Nat} {x : ByteArray} {l : List ByteArray} (h : Sl strE S w a c (x :: l)) : ∃ b o, a = some ⟨b, o, none⟩ ∧ w.cell? ⟨b, o, none⟩ = some (.string x) := by
  obtain ⟨b, o, ha, -, -, hc⟩ := h.dat (by simp)
  obtain ⟨vs, h1, h2, h3⟩ := hc 0 (by simp)
  have h4 := h2 0 (by rw [h1]; exact Nat.one_pos)
  have h5 : vs = [.string x] := h3.1
  subst h5
  exact ⟨b, o, ha, by simpa using h4⟩
theorem gby_setR (w : World) (b o : Nat) (v : Value) : w.grownBy (w.setCell ⟨b, o, none⟩ v) (some b) :=
  ⟨rfl, rfl, rfl, by simp [World.setCell], fun k _ hk => Below.heap_setCell _ _ _ _ (fun e => hk (by simp [e]))⟩
abbrev readerO (a1 : Option Addr) (n1 c1 mb : Nat) (vL vT : Value) : Obj := .cells #[.slice a1 n1 c1, .map (some mb), vL, vT] 65 (0, 0)
noncomputable abbrev strKT : KeyK ByteArray Tryd.prog 9 := strK Tryd.underlying9
def nameVF (s : Sg) (b : ByteArray) : Option Value := (nameI s b.data.toList).map (fun i => .int .i64 (i : Int))
/-- the reader at some time -/
structure RdW (W0 : World) (rb mb : Nat) (a1 : Option Addr) (c1 : Nat) (s : Sg) (W : World) (Lf : List ByteArray) (T : List Int) : Prop where
  cell : ∃ aL cL v, W.heap[rb]? = some (readerO a1 s.length c1 mb (.slice aL Lf.length cL) v) ∧ Sl strE (fun b => b < W0.heap.size ∧ b ≠ rb) W aL cL Lf ∧ OwnI W W0.heap.size v T
  gb : W0.grownBy W (some rb)
  sz : ∀ b ∈ Lf, b.size ≤ 70000
  lt : rb < W0.heap.size
/-- what a reader leans on -/
def RdEnv (W0 : World) (rb mb : Nat) (a1 : Option Addr) (c1 : Nat) (s : Sg) : Prop :=
  okSign s = true ∧ ∀ W, W0.grownBy W (some rb) → Sign (fun _ => True) W a1 c1 s ∧ (∃ n, VMap strKT W mb n (nameVF s)) ∧ LibT W
section
variable {W0 : World} {rb mb : Nat} {a1 : Option Addr} {c1 : Nat} {s : Sg}
theorem obj_cells {W : World} {b : Nat} {v0 v1 v2 v3 : Value} {ty : TypeId} (h : W.heap[b]? = some (.cells #[v0, v1, v2, v3] ty (0, 0))) : W.cell? ⟨b, 0, none⟩ = some v0 ∧ W.cell? ⟨b, 1, none⟩ = some v1 ∧ W.cell? ⟨b, 2, none⟩ = some v2 ∧ W.cell? ⟨b, 3, none⟩ = some v3 ∧ (∀ i, W.frozen? ⟨b, i, none⟩ = false) := by
  refine ⟨?_, ?_, ?_, ?_, fun i => ?_⟩ <;> simp [World.cell?, World.frozen?, h]
/-- the world behind a call that leaves the reader alone -/
theorem RdW.later {W W' : World} {Lf : List ByteArray} {T : List Int} (h : RdW W0 rb mb a1 c1 s W Lf T) (hb : Below W.heap.size W W') : RdW W0 rb mb a1 c1 s W' Lf T := by
  obtain ⟨aL, cL, v, h1, h2, h3⟩ := h.cell
  have hlt : rb < W.heap.size := (Array.getElem?_eq_some_iff.1 h1).1
  exact ⟨⟨aL, cL, v, (hb.block rb hlt).trans h1, h2.below hb, OwnL.call h3 hb⟩, gby_trans' h.gb (gby_below' hb), h.sz, h.lt⟩
/-- a token taken -/
theorem RdW.take {W : World} {x : ByteArray} {Lf : List ByteArray} {T : List Int} (h : RdW W0 rb mb a1 c1 s W (x :: Lf) T) :
    ∃ bL oL cL v, W.cell? ⟨rb, 2, none⟩ = some (.slice (some ⟨bL, oL, none⟩) (Lf.length + 1) cL) ∧ Lf.length + 1 ≤ cL ∧ cL ≤ 9223372036854775807 ∧ W.cell? ⟨bL, oL, none⟩ = some (.string x) ∧ W.cell? ⟨rb, 3, none⟩ = some v ∧ W.frozen? ⟨rb, 2, none⟩ = false ∧ x.size ≤ 70000 ∧
      RdW W0 rb mb a1 c1 s (W.setCell ⟨rb, 2, none⟩ (.slice (if cL = 1 then some ⟨bL, oL, none⟩ else some ⟨bL, oL + 1, none⟩) Lf.length (cL - 1))) Lf T := by
  obtain ⟨aL, cL, v, h1, h2, h3⟩ := h.cell
  obtain ⟨bL, oL, rfl, h4⟩ := Sl.str0 h2
  obtain ⟨q0, q1, q2, q3, qf⟩ := obj_cells h1
  have hcap := h2.cap
  have hmx := h2.max
  rw [List.length_cons] at hcap
  have ht := Strs.tailT h2
  have hg := gby_setR W rb 2 (.slice (if cL = 1 then some ⟨bL, oL, none⟩ else some ⟨bL, oL + 1, none⟩) Lf.length (cL - 1))
  have hol := OwnL.lt h3
  have hlt := h.lt
  refine ⟨bL, oL, cL, v, q2, hcap, hmx, h4, q3, qf 2, h.sz x (by simp), ⟨_, _, v, ?_, ht.same (.of_grown hg (fun b hb e => hb.2 (Option.some.inj e))), OwnL.grown h3 hg (fun k e => fun e2 => by have := (hol k e).1; injection e2 with e2; omega) (fun b hb => hb.elim)⟩, gby_trans' h.gb hg, fun b hb => h.sz b (by simp [hb]), h.lt⟩
  simp [World.setCell, Array.getElem?_modify, h1]
/-- a number appended to the term -/
theorem RdW.push {W : World} {Lf : List ByteArray} {T : List Int} (h : RdW W0 rb mb a1 c1 s W Lf T) (hT : T.length ≤ 1000) (x : Int) (hx : inRange x) :
    ∃ aT cT aN cN w', W.cell? ⟨rb, 3, none⟩ = some (.slice aT T.length cT) ∧ RowKit.Hid ((Builtin.append_ #[25, 25] 25 #[.slice aT T.length cT, .slice (some ⟨W.heap.size, 0, none⟩) 1 1]).run Tryd.prog (W.alloc (.cells #[.int .i64 x] 3)) = .ok (.slice aN (T.length + 1) cN) w') ∧
      w'.cell? ⟨rb, 3, none⟩ = some (.slice aT T.length cT) ∧ w'.frozen? ⟨rb, 3, none⟩ = false ∧ RowKit.Hid (RdW W0 rb mb a1 c1 s (w'.setCell ⟨rb, 3, none⟩ (.slice aN (T.length + 1) cN)) Lf (T ++ [x])) := by
  obtain ⟨aL, cL, v, h1, h2, h3⟩ := h.cell
  obtain ⟨q0, q1, q2, q3, qf⟩ := obj_cells h1
  obtain ⟨aT, cT, rfl, -⟩ := OwnI.ints h3
  have hlt : rb < W.heap.size := (Array.getElem?_eq_some_iff.1 h1).1
  have hltr := h.lt
  obtain ⟨v', w', hrun, ho, hg, -⟩ := OwnL.push (P := Tryd.prog) (t := 25) (ty := 25) h3 Tryd.underlying25 infoInt rfl (vs := [.int .i64 x]) (x := x) ⟨rfl, hx⟩ (by omega) (by unfold big; omega) h.gb.size
  have hol := OwnL.lt h3
  obtain ⟨aN, cN, hvN, -⟩ := OwnI.ints ho
  rw [show (T ++ [x]).length = T.length + 1 by simp] at hvN
  subst hvN
  have hr : w'.heap[rb]? = W.heap[rb]? := hg.block rb hlt (fun e => by have := (hol rb e.symm).1; omega)
  have h1' : w'.heap[rb]? = some (readerO a1 s.length c1 mb (.slice aL Lf.length cL) (.slice aT T.length cT)) := hr.trans h1
  obtain ⟨r0, r1, r2, r3, rf⟩ := obj_cells h1'
  have hg2 := gby_setR w' rb 3 (.slice aN (T.length + 1) cN)
  have hol' := OwnL.lt ho
  have hgg : W0.grownBy w' (some rb) := gby_more h.gb hg (fun i e => (hol i e).1)
  have hs2 : Sl strE (fun b => b < W0.heap.size ∧ b ≠ rb) w' aL cL Lf := h2.same (.of_grown hg (fun b hb e => by have := (hol b e.symm).1; omega))
  refine ⟨aT, cT, aN, cN, w', q3, Lib.hid hrun, r3, rf 3, Lib.hid ⟨⟨aL, cL, _, ?_, hs2.same (.of_grown hg2 (fun b hb e => hb.2 (Option.some.inj e))), OwnL.grown ho hg2 (fun k e e2 => by have := (hol' k e).1; injection e2 with e2; omega) (fun b hb => hb.elim)⟩, gby_trans' hgg hg2, h.sz, h.lt⟩⟩
  simp [World.setCell, Array.getElem?_modify, h1']
set_option maxHeartbeats 1000000 in
theorem next_rd {W : World} {Lf : List ByteArray} {T : List Int} (h : RdW W0 rb mb a1 c1 s W Lf T) :
    Calls Tryd.prog 74 #[.pointer (some ⟨rb, 0, none⟩)] W fun e w' => ∃ b Lf', e = .returned (.string b) ∧ b.size ≤ 70000 ∧ RdW W0 rb mb a1 c1 s w' Lf' T ∧ nextW (btk Lf) = (b.data.toList, btk Lf') := by
  cases Lf with
  | nil =>
    obtain ⟨aL, cL, v, h1, h2, h3⟩ := h.cell
    obtain ⟨q0, q1, q2, q3, qf⟩ := obj_cells h1
    have hH := Lib.hid h
    clear h h1 h2 h3 q0 q1 q3 qf
    simp only [List.length_nil] at q2
    go_enter Tryd.func74, Tryd.ntmps74
    go_wp2_with fail
    go_ret
    exact ⟨_, [], rfl, by decide, hH.out, rfl⟩
  | cons x Lf =>
    obtain ⟨bL, oL, cL, v, q2, k1, k2, q4, q3, qf, hx, hR⟩ := h.take
    have hne : (((Lf.length + 1 : Nat) : Int) == 0) = false := by rw [beq_eq_false_iff_ne]; omega
    by_cases hc : cL = 1
    · rw [if_pos hc] at hR
      subst hc
      obtain rfl : Lf = [] := List.length_eq_zero_iff.1 (by omega)
      have hRH := Lib.hid hR
      clear h hR
      go_enter Tryd.func74, Tryd.ntmps74
      go_wp2_with fail
      go_ret
      exact ⟨x, [], rfl, hx, hRH.out, rfl⟩
    · rw [if_neg hc] at hR
      have hRH := Lib.hid hR
      clear h hR
      go_enter Tryd.func74, Tryd.ntmps74
      go_wp2_with fail
      go_ret
      exact ⟨x, Lf, rfl, hx, hRH.out, rfl⟩
def leftLen (w : World) (rb : Nat) : Nat := match w.cell? ⟨rb, 2, none⟩ with | some (.slice _ n _) => n | _ => 0
theorem RdW.left {W : World} {Lf : List ByteArray} {T : List Int} (h : RdW W0 rb mb a1 c1 s W Lf T) : leftLen W rb = Lf.length ∧ ∃ aL cL, W.cell? ⟨rb, 2, none⟩ = some (.slice aL Lf.length cL) := by
  obtain ⟨aL, cL, v, h1, h2, h3⟩ := h.cell
  obtain ⟨q0, q1, q2, q3, qf⟩ := obj_cells h1
  exact ⟨by unfold leftLen; rw [q2], aL, cL, q2⟩
def skRel (W0 : World) (rb mb : Nat) (a1 : Option Addr) (c1 : Nat) (s : Sg) (Lf : List ByteArray) (T : List Int) (wr : World) : Prop := ∃ L', RdW W0 rb mb a1 c1 s wr L' T ∧ skipB (btk L') = skipB (btk Lf)
theorem ba_ext2 {x y : ByteArray} (h : x.data.toList = y.data.toList) : x = y := by
  cases x; cases y
  have := Array.toList_inj.1 h
  exact congrArg ByteArray.mk this
set_option maxHeartbeats 2000000 in
theorem skip_rd {W : World} {Lf : List ByteArray} {T : List Int} (h : RdW W0 rb mb a1 c1 s W Lf T) :
    Calls Tryd.prog 72 #[.pointer (some ⟨rb, 0, none⟩)] W fun e w' => ∃ v Lf', e = .returned v ∧ RdW W0 rb mb a1 c1 s w' Lf' T ∧ btk Lf' = skipB (btk Lf) := by
  have hH := Lib.hid h
  clear h
  go_enter Tryd.func72, Tryd.ntmps72
  go_wp2_with fail
  go_loopw [16] (fun _ wr => skRel W0 rb mb a1 c1 s Lf T wr) (fun _ wr => leftLen wr rb)
  case atStart => exact ⟨Lf, hH.out, rfl⟩
  case round =>
    obtain ⟨L', hR, hs⟩ := hrel
    cases L' with
    | nil =>
      obtain ⟨hl, aL, cL, q2⟩ := hR.left
      have hRH := Lib.hid hR
      have hsH := Lib.hid hs
      clear hR hs hl
      simp only [List.length_nil] at q2
      go_wp2_with fail
      refine bodyPost_end (results_none rfl _ _ _) rfl ?_
      exact ⟨_, [], rfl, hRH.out, hsH.out⟩
    | cons x L' =>
      have hl := hR.left.1
      obtain ⟨bL, oL, cL, v, q2, k1, k2, q4, q3, qf, hx, hR2⟩ := hR.take
      by_cases hx32 : x.data.toList = [32]
      · have hq : (x.toList == ([32] : List UInt8)) = true := by rw [ba_tl, hx32]; rfl
        have hs2 : skipB (btk L') = skipB (btk Lf) := by
          rw [← hs]
          unfold btk
          rw [List.map_cons, hx32, skip_32]
        by_cases hc : cL = 1
        · rw [if_pos hc] at hR2
          subst hc
          obtain rfl : L' = [] := List.length_eq_zero_iff.1 (by omega)
          have hl2 := hR2.left.1
          have hRH := Lib.hid hR2
          have hsH := Lib.hid hs2
          have hlH := Lib.hid hl
          have hl2H := Lib.hid hl2
          clear hR hs hR2 hs2 hl hl2 hx32
          go_wp2_with fail
          exact ⟨⟨[], hRH.out, hsH.out⟩, by have e1 := hlH.out; have e2 := hl2H.out; simp at e1 e2; omega⟩
        · rw [if_neg hc] at hR2
          have hl2 := hR2.left.1
          have hRH := Lib.hid hR2
          have hsH := Lib.hid hs2
          have hlH := Lib.hid hl
          have hl2H := Lib.hid hl2
          clear hR hs hR2 hs2 hl hl2 hx32
          go_wp2_with fail
          exact ⟨⟨L', hRH.out, hsH.out⟩, by rw [hlH.out, hl2H.out, List.length_cons]; omega⟩
      · have hq : (x.toList == ([32] : List UInt8)) = false := by rw [ba_tl, beq_eq_false_iff_ne]; exact hx32
        have hs2 : btk (x :: L') = skipB (btk Lf) := by
          rw [← hs]
          unfold btk
          rw [List.map_cons, skip_not hx32]
        have hRH := Lib.hid hR
        have hsH := Lib.hid hs2
        clear hR hs hR2 hs2 hl hx32
        go_wp2_with fail
        refine bodyPost_end (results_none rfl _ _ _) rfl ?_
        exact ⟨_, _, rfl, hRH.out, hsH.out⟩
theorem zIntT (w : World) : (zeroValue 3).run Tryd.prog w = .ok (.int .i64 0) w := by kernel_rfl
set_option maxHeartbeats 1000000 in
theorem HasPreT_any (b : ByteArray) (hb : b.size ≤ 70000) (w : World) :
    Calls Tryd.prog 118 #[.string b, .string ⟨#[120]⟩] w fun e w' => e = .returned (.bool (decide (b.data.toList.head? = some 120))) ∧ w = w' := by
  by_cases hz : b.size = 0
  · have h0 : b.data.toList = [] := by
      have : b.data.toList.length = 0 := by rw [Array.length_toList]; exact hz
      exact List.length_eq_zero_iff.1 this
    have hR := Lib.hid (show decide (b.data.toList.head? = some 120) = false by rw [h0]; rfl)
    have hle : decide ((1 : Int) ≤ (b.size : Int)) = false := decide_eq_false (by omega)
    clear h0
    go_enter Tryd.func118, Tryd.ntmps118
    go_wp2_with fail
    go_ret
    rw [hR.out]
    exact ⟨rfl, rfl⟩
  · have hlt : 0 < b.size := by omega
    have h1 : b.data.toList = (b[0]'hlt) :: b.data.toList.drop 1 := by
      have := drop_consT hlt
      rwa [List.drop_zero] at this
    have he : (b.extract 0 1).data.toList = [b[0]'hlt] := by
      rw [ByteArray.data_extract, Array.toList_extract, List.extract_eq_take_drop, h1]; rfl
    have hd : decide (b.data.toList.head? = some 120) = decide ((b[0]'hlt) = 120) := by rw [h1]; simp
    obtain ⟨c, hc⟩ : ∃ c, b[0]'hlt = c := ⟨_, rfl⟩
    rw [hc] at he hd
    have hq : ((b.extract 0 1).toList == ([120] : List UInt8)) = decide (c = 120) := by rw [ba_tl, he]; by_cases h : c = 120 <;> simp [h]
    rw [hd]
    have hle : decide ((1 : Int) ≤ (b.size : Int)) = true := decide_eq_true (by omega)
    obtain ⟨z, hz2⟩ : ∃ z, decide (c = 120) = z := ⟨_, rfl⟩
    rw [hz2] at hq ⊢
    clear h1 he hd hc hz2
    go_enter Tryd.func118, Tryd.ntmps118
    go_wp2_with fail
    go_ret
    exact ⟨rfl, rfl⟩
set_option maxHeartbeats 1000000 in
theorem TrimT_any (b : ByteArray) (hb : b.size ≤ 70000) (w : World) :
    Calls Tryd.prog 91 #[.string b, .string ⟨#[120]⟩] w fun e w' => ∃ x, e = .returned (.string x) ∧ x.data.toList = trimX b.data.toList ∧ x.size ≤ 70000 ∧ w = w' := by
  have ch := HasPreT_any b hb w
  have cin : Calls Tryd.prog 107 #[.string b, .string ⟨#[120]⟩] w fun e w' => ∃ x, e = .returned (.string x) ∧ x.data.toList = trimX b.data.toList ∧ x.size ≤ 70000 ∧ w = w' := by
    unfold trimX
    by_cases hx : b.data.toList.head? = some 120
    · rw [decide_eq_true hx] at ch
      have hlt : 0 < b.size := by
        have : 0 < b.data.toList.length := by
          cases h : b.data.toList with
          | nil => rw [h] at hx; cases hx
          | cons c r => simp
        rwa [Array.length_toList] at this
      have he : (b.extract 1 b.size).data.toList = b.data.toList.tail := by
        rw [ByteArray.data_extract, Array.toList_extract, List.extract_eq_take_drop, List.drop_one, List.take_of_length_le]
        rw [List.length_tail, Array.length_toList]
        exact Nat.le_refl _
      have hsz : (b.extract 1 b.size).size ≤ 70000 := by rw [ByteArray.size_extract]; omega
      have heH := Lib.hid he
      have hszH := Lib.hid hsz
      have chH := Lib.hid ch
      have hxH := Lib.hid hx
      clear ch he hsz hx
      go_enter Tryd.func107, Tryd.ntmps107
      go_wp2_with fail
      refine chH.out.mono ?_
      rintro e w1 ⟨rfl, rfl⟩
      go_wp2_with fail
      go_ret
      exact ⟨_, rfl, by first | exact heH.out | (rw [if_pos hxH.out]; exact heH.out), hszH.out, rfl⟩
    · rw [decide_eq_false hx] at ch
      have chH := Lib.hid ch
      have hxH := Lib.hid hx
      clear ch hx
      go_enter Tryd.func107, Tryd.ntmps107
      go_wp2_with fail
      refine chH.out.mono ?_
      rintro e w1 ⟨rfl, rfl⟩
      go_wp2_with fail
      go_ret
      exact ⟨_, rfl, by first | rfl | rw [if_neg hxH.out], hb, rfl⟩
  have cinH := Lib.hid cin
  clear ch cin
  go_enter Tryd.func91, Tryd.ntmps91
  go_wp2_with fail
  refine cinH.out.mono ?_
  rintro e w1 ⟨x, rfl, hx, hxs, rfl⟩
  go_wp2_with fail
  go_ret
  exact ⟨x, rfl, hx, hxs, rfl⟩
/-- what an atom gives -/
def atRet (M : Option (Nat × List Int)) (W0 : World) (rb mb : Nat) (a1 : Option Addr) (c1 : Nat) (s : Sg) (Lf : List ByteArray) (T : List Int) (e : Ending) (w' : World) : Prop :=
  (∃ (m : Nat) (T' : List Int), M = some (m, T') ∧ e = .returned (.tuple #[.int .i64 (m : Int), .bool true]) ∧ m ≤ 3 ∧ RdW W0 rb mb a1 c1 s w' Lf T' ∧ T'.length = T.length + 1 ∧ T.length ≤ 60) ∨
    (M = none ∧ e = .returned (.tuple #[.int .i64 0, .bool false]) ∧ RdW W0 rb mb a1 c1 s w' Lf T)
theorem name_lt {s : Sg} {w : List UInt8} {i : Nat} (h : nameI s w = some i) : i < s.length := by
  unfold nameI at h
  have := List.mem_of_find?_eq_some h
  exact List.mem_range.1 this
set_option maxRecDepth 20000 in
set_option maxHeartbeats 4000000 in
theorem atom_rd (hE : RdEnv W0 rb mb a1 c1 s) {W : World} {Lf : List ByteArray} {T : List Int} (h : RdW W0 rb mb a1 c1 s W Lf T) (hT : T.length ≤ 62) (b : ByteArray) (hb : b.size ≤ 70000) :
    Calls Tryd.prog 73 #[.pointer (some ⟨rb, 0, none⟩), .string b] W (atRet (atomM s b.data.toList T) W0 rb mb a1 c1 s Lf T) := by
  obtain ⟨hok, hE⟩ := hE
  obtain ⟨hsg, ⟨nm, hmp⟩, hlib⟩ := hE W h.gb
  obtain ⟨aL, cL, v, h1, h2, h3⟩ := h.cell
  obtain ⟨q0, q1, -, q3, -⟩ := obj_cells h1
  obtain ⟨aT, cT, rfl, hTI⟩ := OwnI.ints h3
  have mT := hTI.le
  have msg := hsg.le
  unfold atomM
  by_cases h60 : 60 < T.length
  · rw [if_pos h60]
    have hH := Lib.hid h
    clear h h1 h2 h3 hE hsg hmp hlib hTI q0 q1
    go_enter Tryd.func73, Tryd.ntmps73
    go_wp2_with fail
    go_ret2
    exact .inr ⟨rfl, rfl, hH.out⟩
  rw [if_neg h60]
  unfold atomV
  have hlk := hmp.look_ok (tm := 61) (te := 3) Tryd.underlying61 (zIntT W) b (by show b.size ≤ maxLen; unfold maxLen; omega)
  cases hn : nameI s b.data.toList with
  | some i =>
    have hlt := name_lt hn
    have hnv : nameVF s b = some (.int .i64 (i : Int)) := by unfold nameVF; rw [hn]; rfl
    rw [hnv] at hlk
    have hlk2 : (Instr.lookup 61 (.map (some mb)) (.string b) true).run Tryd.prog W = .ok (.tuple #[.int .i64 (i : Int), .bool true]) W := hlk
    obtain ⟨bS, oS, rfl, -, s0, s1, -, -⟩ := hsg.sym i hlt
    obtain ⟨hc1, hc2⟩ := ar_at hok (n := (i : Int)) (by omega) (by omega)
    have har3 := (arC_ok hok hc2).2
    have hari : s[i].2 = ((ar s (i : Int) : Nat) : Int) := by
      rw [hc1]; unfold arAt; rw [Int.toNat_natCast, List.getD_eq_getElem?_getD, List.getElem?_eq_getElem hlt]; rfl
    rw [hari] at s1
    obtain ⟨m, hm⟩ : ∃ m, ar s (i : Int) = m := ⟨_, rfl⟩
    rw [hm] at s1 har3
    have hl12 := (okSign_len hok).2
    obtain ⟨aT2, cT2, aN, cN, w', e3, hrun, r3, rf, hR⟩ := h.push (by omega) (i : Int) (by unfold inRange; omega)
    have e4 := q3.symm.trans e3
    injection e4 with e5
    injection e5 with e6 e7 e8
    subst e6
    subst e8
    have hgb2 := hR.out.gb
    have hs2 := (hE _ hgb2).1
    obtain ⟨bS2, oS2, hbs, -, t0, t1, -, -⟩ := hs2.sym i hlt
    simp only [Option.some.injEq, Addr.mk.injEq, and_true] at hbs
    obtain ⟨rfl, rfl⟩ := hbs
    rw [hari, hm] at t1
    obtain ⟨aL3, cL3, v3, g1, -, -⟩ := hR.out.cell
    obtain ⟨u0, u1, u2, u3, -⟩ := obj_cells g1
    have hmH := Lib.hid hm
    have hT60 : T.length ≤ 60 := by omega
    clear h h1 h2 h3 hE hsg hmp hlib hTI hlk hnv hari hc1 hc2 hm hs2 hgb2 g1 hn e3
    go_enter Tryd.func73, Tryd.ntmps73
    go_wp2_with (at_builtin; refine wpList_append_run rfl _ _ _ rfl rfl rfl hrun.out ?_)
    go_ret2
    refine .inl ⟨m, T ++ [(i : Int)], ?_, rfl, har3, hR.out, by simp, hT60⟩
    simp only [hmH.out]
  | none =>
    have hnv : nameVF s b = none := by unfold nameVF; rw [hn]; rfl
    rw [hnv] at hlk
    have hlk2 : (Instr.lookup 61 (.map (some mb)) (.string b) true).run Tryd.prog W = .ok (.tuple #[.int .i64 0, .bool false]) W := hlk
    have ct := TrimT_any b hb W
    have ca := fun (x : ByteArray) (hx : x.size ≤ 70000) => AtoiT_any x hx W hlib
    have hT60 : T.length ≤ 60 := by omega
    have ctH := Lib.hid ct
    have caH := Lib.hid ca
    have hH := Lib.hid h
    clear ct ca h h1 h2 h3 hE hsg hmp hlib hTI hlk hnv hn q0
    unfold varV
    go_enter Tryd.func73, Tryd.ntmps73
    go_wp2_with fail
    refine ctH.out.mono ?_
    rintro e w1 ⟨x, rfl, hx, hxs, rfl⟩
    have ca2 := Lib.hid (caH.out x hxs)
    have hxH := Lib.hid hx
    clear caH hx hlk2
    go_wp2_with fail
    refine ca2.out.mono ?_
    rintro e w2 ⟨hb2, hv⟩
    have hR2 := hH.out.later hb2
    clear ca2 hb2 ctH
    rcases hv with ⟨v, hv1, rfl⟩ | ⟨hv1, v, t, p, rfl, rfl⟩
    · rw [hxH.out] at hv1
      have hvH := Lib.hid hv1
      have cw := fun W => twithin_any v 0 11 W
      by_cases hv2 : 0 ≤ v ∧ v ≤ 11
      · simp only [show (decide ((0 : Int) ≤ v) && decide (v ≤ 11)) = true by simpa using hv2] at cw
        obtain ⟨aT2, cT2, aN, cN, w', e3, hrun, r3, rf, hR⟩ := hR2.push (by omega) (-v - 1) (by unfold inRange; omega)
        have hw1 : IntKind.i64.wrap (-v) = -v := by rw [IntWalk.i64_in _ (by omega)]
        have hw2 : IntKind.i64.wrap (-v - 1) = -v - 1 := by rw [IntWalk.i64_in _ (by omega)]
        have cwH := Lib.hid cw
        clear cw hR2 hv1 hH
        go_wp2_with fail
        refine (cwH.out _).mono ?_
        rintro e w3 ⟨rfl, rfl⟩
        go_wp2_with (at_builtin; refine wpList_append_run rfl _ _ _ rfl rfl rfl hrun.out ?_)
        go_ret2
        refine .inl ⟨0, T ++ [-v - 1], ?_, rfl, by omega, hR.out, by simp, hT60⟩
        simp only [hvH.out, Option.bind_some]
        rw [if_pos hv2, Option.map_some, ar_neg (by omega)]
      · have hv2H := Lib.hid hv2
        simp only [show (decide ((0 : Int) ≤ v) && decide (v ≤ 11)) = false by simpa using hv2] at cw
        have cwH := Lib.hid cw
        have hR2H := Lib.hid hR2
        clear cw hR2 hv1 hH hv2
        go_wp2_with fail
        refine (cwH.out _).mono ?_
        rintro e w3 ⟨rfl, rfl⟩
        go_wp2_with fail
        go_ret2
        refine .inr ⟨?_, rfl, hR2H.out⟩
        simp only [hvH.out, Option.bind_some]
        rw [if_neg hv2H.out]; rfl
    · rw [hxH.out] at hv1
      have hvH := Lib.hid hv1
      have hR2H := Lib.hid hR2
      clear hR2 hv1 hH
      go_wp2_with fail
      go_ret2
      refine .inr ⟨?_, rfl, hR2H.out⟩
      simp only [hvH.out, Option.bind_none, Option.map_none]
end
end Go.Proofs.YtnhaoalcpbefoaaDoor

/- Walks: the readers polish and brackets. -/
namespace Go.Proofs.YtnhaoalcpbefoaaDoor
open Go Go.RowKit Go.Maps Go.Shelf

/-- what a reader gives -/
def rdRet (M : Option RdX) (W0 : World) (rb mb : Nat) (a1 : Option Addr) (c1 : Nat) (s : Sg) (T : List Int) (e : Ending) (w' : World) : Prop :=
  (∃ (L' : List ByteArray) (T' : List Int), M = some (btk L', T') ∧ e = .returned (.bool true) ∧ RdW W0 rb mb a1 c1 s w' L' T' ∧ T.length ≤ T'.length ∧ T'.length ≤ 61) ∨
    (M = none ∧ e = .returned (.bool false) ∧ ∃ (L' : List ByteArray) (T' : List Int), RdW W0 rb mb a1 c1 s w' L' T')
def plRel (g : Nat → RdX → Option RdX) (x0 : RdX) (m k : Nat) (W0 : World) (rb mb : Nat) (a1 : Option Addr) (c1 : Nat) (s : Sg) (ok i : Value) (wr : World) : Prop :=
  ∃ j : Nat, i = .int .i64 j ∧ j ≤ m ∧ ((∃ (L' : List ByteArray) (T' : List Int), loopM g j x0 = some (btk L', T') ∧ ok = .bool true ∧ RdW W0 rb mb a1 c1 s wr L' T' ∧ k ≤ T'.length ∧ T'.length ≤ 61) ∨
    (loopM g j x0 = none ∧ ok = .bool false ∧ ∃ (L' : List ByteArray) (T' : List Int), RdW W0 rb mb a1 c1 s wr L' T'))
section
variable {W0 : World} {rb mb : Nat} {a1 : Option Addr} {c1 : Nat} {s : Sg}
theorem str_is {b : ByteArray} {c : UInt8} (h : b.data.toList = [c]) : (b.toList == ([c] : List UInt8)) = true := by rw [ba_tl, h]; simp
theorem str_not {b : ByteArray} {c : UInt8} (h : ¬ b.data.toList = [c]) : (b.toList == ([c] : List UInt8)) = false := by rw [ba_tl, beq_eq_false_iff_ne]; exact h
set_option maxRecDepth 20000 in
set_option maxHeartbeats 4000000 in
theorem polish_rd (hE : RdEnv W0 rb mb a1 c1 s) : ∀ (f : Nat) (W : World) (Lf : List ByteArray) (T : List Int), RdW W0 rb mb a1 c1 s W Lf T → T.length ≤ 61 → 62 ≤ f + T.length →
    Calls Tryd.prog 47 #[.pointer (some ⟨rb, 0, none⟩)] W (rdRet (polM s f (btk Lf, T)) W0 rb mb a1 c1 s T) := by
  intro f
  induction f with
  | zero => intro W Lf T _ h1 h2; omega
  | succ f ih =>
  intro W Lf T h hT1 hT2
  have ihH := Lib.hid ih
  obtain ⟨M, hM⟩ : ∃ M, polM s (f + 1) (btk Lf, T) = M := ⟨_, rfl⟩
  rw [hM]
  rw [polM] at hM
  have hMH := Lib.hid hM
  have hH := Lib.hid h
  have hEH := Lib.hid hE
  clear hM h ih hE
  go_enter Tryd.func47, Tryd.ntmps47
  go_wp2_with fail
  refine (skip_rd hH.out).mono ?_
  rintro e w1 ⟨v, L1, rfl, hR1, hs1⟩
  have hR1H := Lib.hid hR1
  have hs1H := Lib.hid hs1
  clear hR1 hs1 hH
  go_wp2_with fail
  refine (next_rd hR1H.out).mono ?_
  rintro e w2 ⟨b, L2, rfl, hb, hR2, hn⟩
  rw [hs1H.out] at hn
  have hR2H := Lib.hid hR2
  have hM2 := hMH.out
  simp only [hn] at hM2
  have hMH2 := Lib.hid hM2
  clear hR2 hn hM2 hR1H hs1H hMH
  go_wp2_with fail
  refine (atom_rd hEH.out hR2H.out (by omega) b hb).mono ?_
  rintro e w3 (⟨m, T1, hA, rfl, hm, hR3, hl1, hl2⟩ | ⟨hA, rfl, hR3⟩)
  · have hM3 := hMH2.out
    rw [hA, Option.bind_some] at hM3
    have hMH3 := Lib.hid hM3
    have hR3H := Lib.hid hR3
    clear hM3 hA hR3 hMH2 hR2H
    go_wp2_with fail
    go_loopw [4, 15] (fun ok i wr => plRel (fun _ => polM s f) (btk L2, T1) m T1.length W0 rb mb a1 c1 s ok i wr) (fun _ i _ => m - (intOf i).toNat)
    case atStart => exact ⟨0, rfl, Nat.zero_le _, .inl ⟨L2, T1, rfl, rfl, hR3H.out, Nat.le_refl _, by omega⟩⟩
    case round =>
      obtain ⟨j, rfl, hj, hrel2⟩ := hrel
      by_cases hjm : j < m
      · rcases hrel2 with ⟨L', T', hl, rfl, hR', k1, k2⟩ | ⟨hl, rfl, L', T', hR'⟩
        · have hlH := Lib.hid hl
          have hRH := Lib.hid hR'
          clear hl hR'
          go_wp2_with fail
          refine (ihH.out _ _ _ hRH.out k2 (by omega)).mono ?_
          rintro e w4 (⟨L4, T4, hM4, rfl, hR4, q1, q2⟩ | ⟨hM4, rfl, L4, T4, hR4⟩)
          · have hr := Lib.hid (show plRel (fun _ => polM s f) (btk L2, T1) m T1.length W0 rb mb a1 c1 s (.bool true) (.int .i64 ((j + 1 : Nat) : Int)) w4 from ⟨j + 1, rfl, hjm, .inl ⟨L4, T4, by rw [loopM, hlH.out, Option.bind_some]; exact hM4, rfl, hR4, by omega, q2⟩⟩)
            clear hM4 hR4
            go_wp2_with fail
            go_roundw
            case rel => exact hr.out
            case measure => simp [intOf]; omega
          · have hr := Lib.hid (show plRel (fun _ => polM s f) (btk L2, T1) m T1.length W0 rb mb a1 c1 s (.bool false) (.int .i64 ((j + 1 : Nat) : Int)) w4 from ⟨j + 1, rfl, hjm, .inr ⟨by rw [loopM, hlH.out, Option.bind_some]; exact hM4, rfl, L4, T4, hR4⟩⟩)
            clear hM4 hR4
            go_wp2_with fail
            go_roundw
            case rel => exact hr.out
            case measure => simp [intOf]; omega
        · have hr := Lib.hid (show plRel (fun _ => polM s f) (btk L2, T1) m T1.length W0 rb mb a1 c1 s (.bool false) (.int .i64 ((j + 1 : Nat) : Int)) wr from ⟨j + 1, rfl, hjm, .inr ⟨by rw [loopM, hl]; rfl, rfl, L', T', hR'⟩⟩)
          clear hl hR'
          go_wp2_with fail
          go_roundw
          case rel => exact hr.out
          case measure => simp [intOf]; omega
      · have hjj : j = m := by omega
        subst hjj
        rw [hMH3.out] at hrel2
        rcases hrel2 with ⟨L', T', hl, rfl, hR', k1, k2⟩ | ⟨hl, rfl, L', T', hR'⟩
        · have hr := Lib.hid (show rdRet M W0 rb mb a1 c1 s T (.returned (.bool true)) wr from .inl ⟨L', T', hl, rfl, hR', by omega, k2⟩)
          clear hl hR'
          go_wp2_with fail
          go_ret
          exact hr.out
        · have hr := Lib.hid (show rdRet M W0 rb mb a1 c1 s T (.returned (.bool false)) wr from .inr ⟨hl, rfl, L', T', hR'⟩)
          clear hl hR'
          go_wp2_with fail
          go_ret
          exact hr.out
  · have hM3 := hMH2.out
    rw [hA, Option.bind_none] at hM3
    have hr := Lib.hid (show rdRet M W0 rb mb a1 c1 s T (.returned (.bool false)) w3 from .inr ⟨hM3.symm, rfl, L2, T, hR3⟩)
    clear hM3 hA hR3 hMH2 hR2H
    go_wp2_with fail
    go_loopw [4, 15] (fun ok i wr => ok = .bool false ∧ i = .int .i64 0 ∧ wr = w3) (fun _ _ _ => 0)
    case atStart => exact ⟨rfl, rfl, rfl⟩
    case round =>
      obtain ⟨rfl, rfl, rfl⟩ := hrel
      go_wp2_with fail
      go_ret
      exact hr.out
end
end Go.Proofs.YtnhaoalcpbefoaaDoor

/- Walks: the reader brackets. -/
namespace Go.Proofs.YtnhaoalcpbefoaaDoor
open Go Go.RowKit Go.Maps Go.Shelf

section
variable {W0 : World} {rb mb : Nat} {a1 : Option Addr} {c1 : Nat} {s : Sg}
set_option maxRecDepth 20000 in
set_option maxHeartbeats 8000000 in
theorem brackets_rd (hE : RdEnv W0 rb mb a1 c1 s) : ∀ (f : Nat) (W : World) (Lf : List ByteArray) (T : List Int), RdW W0 rb mb a1 c1 s W Lf T → T.length ≤ 61 → 62 ≤ f + T.length →
    Calls Tryd.prog 51 #[.pointer (some ⟨rb, 0, none⟩)] W (rdRet (brkM s f (btk Lf, T)) W0 rb mb a1 c1 s T) := by
  intro f
  induction f with
  | zero => intro W Lf T _ h1 h2; omega
  | succ f ih =>
  intro W Lf T h hT1 hT2
  have ihH := Lib.hid ih
  obtain ⟨M, hM⟩ : ∃ M, brkM s (f + 1) (btk Lf, T) = M := ⟨_, rfl⟩
  rw [hM]
  rw [brkM] at hM
  have hMH := Lib.hid hM
  have hH := Lib.hid h
  have hEH := Lib.hid hE
  clear hM h ih hE
  go_enter Tryd.func51, Tryd.ntmps51
  go_wp2_with fail
  refine (skip_rd hH.out).mono ?_
  rintro e w1 ⟨v, L1, rfl, hR1, hs1⟩
  have hR1H := Lib.hid hR1
  have hs1H := Lib.hid hs1
  clear hR1 hs1 hH
  go_wp2_with fail
  refine (next_rd hR1H.out).mono ?_
  rintro e w2 ⟨b, L2, rfl, hb, hR2, hn⟩
  rw [hs1H.out] at hn
  have hR2H := Lib.hid hR2
  have hM2 := hMH.out
  simp only [hn] at hM2
  clear hR2 hn hR1H hs1H hMH
  by_cases hb91 : b.data.toList = [91]
  · have hq := str_is hb91
    rw [if_pos hb91] at hM2
    have hMH2 := Lib.hid hM2
    clear hM2 hb91
    go_wp2_with fail
    refine (next_rd hR2H.out).mono ?_
    rintro e w3 ⟨b2, L3, rfl, hb2, hR3, hn⟩
    have hM3 := hMH2.out
    simp only [hn] at hM3
    have hMH3 := Lib.hid hM3
    have hR3H := Lib.hid hR3
    clear hM3 hR3 hn hMH2 hR2H hq
    go_wp2_with fail
    refine (atom_rd hEH.out hR3H.out (by omega) b2 hb2).mono ?_
    rintro e w4 (⟨m, T1, hA, rfl, hm, hR4, hl1, hl2⟩ | ⟨hA, rfl, hR4⟩)
    · have hM4 := hMH3.out
      rw [hA, Option.bind_some] at hM4
      have hMH4 := Lib.hid hM4
      have hR4H := Lib.hid hR4
      clear hM4 hA hR4 hMH3 hR3H
      go_wp2_with fail
      go_loopw [6, 23] (fun ok i wr => plRel (fun _ => brkM s f) (btk L3, T1) m T1.length W0 rb mb a1 c1 s ok i wr) (fun _ i _ => m - (intOf i).toNat)
      case atStart => exact ⟨0, rfl, Nat.zero_le _, .inl ⟨L3, T1, rfl, rfl, hR4H.out, Nat.le_refl _, by omega⟩⟩
      case round =>
        obtain ⟨j, rfl, hj, hrel2⟩ := hrel
        by_cases hjm : j < m
        · rcases hrel2 with ⟨L', T', hl, rfl, hR', k1, k2⟩ | ⟨hl, rfl, L', T', hR'⟩
          · have hlH := Lib.hid hl
            have hRH := Lib.hid hR'
            clear hl hR'
            go_wp2_with fail
            refine (ihH.out _ _ _ hRH.out k2 (by omega)).mono ?_
            rintro e w5 (⟨L5, T5, hM5, rfl, hR5, q1, q2⟩ | ⟨hM5, rfl, L5, T5, hR5⟩)
            · have hr := Lib.hid (show plRel (fun _ => brkM s f) (btk L3, T1) m T1.length W0 rb mb a1 c1 s (.bool true) (.int .i64 ((j + 1 : Nat) : Int)) w5 from ⟨j + 1, rfl, hjm, .inl ⟨L5, T5, by rw [loopM, hlH.out, Option.bind_some]; exact hM5, rfl, hR5, by omega, q2⟩⟩)
              clear hM5 hR5
              go_wp2_with fail
              go_roundw
              case rel => exact hr.out
              case measure => simp [intOf]; omega
            · have hr := Lib.hid (show plRel (fun _ => brkM s f) (btk L3, T1) m T1.length W0 rb mb a1 c1 s (.bool false) (.int .i64 ((j + 1 : Nat) : Int)) w5 from ⟨j + 1, rfl, hjm, .inr ⟨by rw [loopM, hlH.out, Option.bind_some]; exact hM5, rfl, L5, T5, hR5⟩⟩)
              clear hM5 hR5
              go_wp2_with fail
              go_roundw
              case rel => exact hr.out
              case measure => simp [intOf]; omega
          · have hr := Lib.hid (show plRel (fun _ => brkM s f) (btk L3, T1) m T1.length W0 rb mb a1 c1 s (.bool false) (.int .i64 ((j + 1 : Nat) : Int)) wr from ⟨j + 1, rfl, hjm, .inr ⟨by rw [loopM, hl]; rfl, rfl, L', T', hR'⟩⟩)
            clear hl hR'
            go_wp2_with fail
            go_roundw
            case rel => exact hr.out
            case measure => simp [intOf]; omega
        · have hjj : j = m := by omega
          subst hjj
          rcases hrel2 with ⟨L', T', hl, rfl, hR', k1, k2⟩ | ⟨hl, rfl, L', T', hR'⟩
          · have hM6 := hMH4.out
            rw [hl, Option.bind_some] at hM6
            unfold closeM at hM6
            have hMH6 := Lib.hid hM6
            have hRH := Lib.hid hR'
            clear hM6 hl hR' hMH4
            go_wp2_with fail
            refine (skip_rd hRH.out).mono ?_
            rintro e w6 ⟨v, L6, rfl, hR6, hs6⟩
            have hR6H := Lib.hid hR6
            have hs6H := Lib.hid hs6
            clear hR6 hs6 hRH
            go_wp2_with fail
            refine (next_rd hR6H.out).mono ?_
            rintro e w7 ⟨b7, L7, rfl, hb7, hR7, hn7⟩
            rw [hs6H.out] at hn7
            have hM7 := hMH6.out
            simp only [hn7] at hM7
            clear hn7 hR6H hs6H hMH6
            by_cases h93 : b7.data.toList = [93]
            · have hq := str_is h93
              rw [if_pos h93] at hM7
              have hr := Lib.hid (show rdRet M W0 rb mb a1 c1 s T (.returned (.bool true)) w7 from .inl ⟨L7, T', hM7.symm, rfl, hR7, by omega, k2⟩)
              clear hM7 h93 hR7
              go_wp2_with fail
              go_ret
              exact hr.out
            · have hq := str_not h93
              rw [if_neg h93] at hM7
              have hr := Lib.hid (show rdRet M W0 rb mb a1 c1 s T (.returned (.bool false)) w7 from .inr ⟨hM7.symm, rfl, L7, T', hR7⟩)
              clear hM7 h93 hR7
              go_wp2_with fail
              go_ret
              exact hr.out
          · have hM6 := hMH4.out
            rw [hl, Option.bind_none] at hM6
            have hMH6 := Lib.hid hM6
            have hRH := Lib.hid hR'
            clear hM6 hl hR' hMH4
            go_wp2_with fail
            refine (skip_rd hRH.out).mono ?_
            rintro e w6 ⟨v, L6, rfl, hR6, hs6⟩
            have hr := Lib.hid (show rdRet M W0 rb mb a1 c1 s T (.returned (.bool false)) w6 from .inr ⟨hMH6.out.symm, rfl, L6, T', hR6⟩)
            clear hR6 hs6 hRH hMH6
            go_wp2_with fail
            go_ret
            exact hr.out
    · have hM4 := hMH3.out
      rw [hA, Option.bind_none] at hM4
      have hMH4 := Lib.hid hM4
      have hR4H := Lib.hid hR4
      clear hM4 hA hR4 hMH3 hR3H
      go_wp2_with fail
      go_loopw [6, 23] (fun ok i wr => ok = .bool false ∧ i = .int .i64 0 ∧ wr = w4) (fun _ _ _ => 0)
      case atStart => exact ⟨rfl, rfl, rfl⟩
      case round =>
        obtain ⟨rfl, rfl, rfl⟩ := hrel
        go_wp2_with fail
        refine (skip_rd hR4H.out).mono ?_
        rintro e w6 ⟨v, L6, rfl, hR6, hs6⟩
        have hr := Lib.hid (show rdRet M W0 rb mb a1 c1 s T (.returned (.bool false)) w6 from .inr ⟨hMH4.out.symm, rfl, L6, T, hR6⟩)
        clear hR6 hs6 hR4H hMH4
        go_wp2_with fail
        go_ret
        exact hr.out
  · have hq := str_not hb91
    rw [if_neg hb91] at hM2
    have hMH2 := Lib.hid hM2
    clear hM2 hb91
    go_wp2_with fail
    refine (atom_rd hEH.out hR2H.out (by omega) b hb).mono ?_
    rintro e w4 (⟨m, T1, hA, rfl, hm, hR4, hl1, hl2⟩ | ⟨hA, rfl, hR4⟩)
    · have hM4 := hMH2.out
      rw [hA, Option.bind_some] at hM4
      have hMH4 := Lib.hid hM4
      have hR4H := Lib.hid hR4
      clear hM4 hA hR4 hMH2 hR2H
      go_wp2_with fail
      go_loopw [6, 23] (fun ok i wr => plRel (fun _ => brkM s f) (btk L2, T1) m T1.length W0 rb mb a1 c1 s ok i wr) (fun _ i _ => m - (intOf i).toNat)
      case atStart => exact ⟨0, rfl, Nat.zero_le _, .inl ⟨L2, T1, rfl, rfl, hR4H.out, Nat.le_refl _, by omega⟩⟩
      case round =>
        obtain ⟨j, rfl, hj, hrel2⟩ := hrel
        by_cases hjm : j < m
        · rcases hrel2 with ⟨L', T', hl, rfl, hR', k1, k2⟩ | ⟨hl, rfl, L', T', hR'⟩
          · have hlH := Lib.hid hl
            have hRH := Lib.hid hR'
            clear hl hR'
            go_wp2_with fail
            refine (ihH.out _ _ _ hRH.out k2 (by omega)).mono ?_
            rintro e w5 (⟨L5, T5, hM5, rfl, hR5, q1, q2⟩ | ⟨hM5, rfl, L5, T5, hR5⟩)
            · have hr := Lib.hid (show plRel (fun _ => brkM s f) (btk L2, T1) m T1.length W0 rb mb a1 c1 s (.bool true) (.int .i64 ((j + 1 : Nat) : Int)) w5 from ⟨j + 1, rfl, hjm, .inl ⟨L5, T5, by rw [loopM, hlH.out, Option.bind_some]; exact hM5, rfl, hR5, by omega, q2⟩⟩)
              clear hM5 hR5
              go_wp2_with fail
              go_roundw
              case rel => exact hr.out
              case measure => simp [intOf]; omega
            · have hr := Lib.hid (show plRel (fun _ => brkM s f) (btk L2, T1) m T1.length W0 rb mb a1 c1 s (.bool false) (.int .i64 ((j + 1 : Nat) : Int)) w5 from ⟨j + 1, rfl, hjm, .inr ⟨by rw [loopM, hlH.out, Option.bind_some]; exact hM5, rfl, L5, T5, hR5⟩⟩)
              clear hM5 hR5
              go_wp2_with fail
              go_roundw
              case rel => exact hr.out
              case measure => simp [intOf]; omega
          · have hr := Lib.hid (show plRel (fun _ => brkM s f) (btk L2, T1) m T1.length W0 rb mb a1 c1 s (.bool false) (.int .i64 ((j + 1 : Nat) : Int)) wr from ⟨j + 1, rfl, hjm, .inr ⟨by rw [loopM, hl]; rfl, rfl, L', T', hR'⟩⟩)
            clear hl hR'
            go_wp2_with fail
            go_roundw
            case rel => exact hr.out
            case measure => simp [intOf]; omega
        · have hjj : j = m := by omega
          subst hjj
          rw [hMH4.out] at hrel2
          rcases hrel2 with ⟨L', T', hl, rfl, hR', k1, k2⟩ | ⟨hl, rfl, L', T', hR'⟩
          · have hr := Lib.hid (show rdRet M W0 rb mb a1 c1 s T (.returned (.bool true)) wr from .inl ⟨L', T', hl, rfl, hR', by omega, k2⟩)
            clear hl hR'
            go_wp2_with fail
            go_ret
            exact hr.out
          · have hr := Lib.hid (show rdRet M W0 rb mb a1 c1 s T (.returned (.bool false)) wr from .inr ⟨hl, rfl, L', T', hR'⟩)
            clear hl hR'
            go_wp2_with fail
            go_ret
            exact hr.out
    · have hM4 := hMH2.out
      rw [hA, Option.bind_none] at hM4
      have hr := Lib.hid (show rdRet M W0 rb mb a1 c1 s T (.returned (.bool false)) w4 from .inr ⟨hM4.symm, rfl, L2, T, hR4⟩)
      clear hM4 hA hR4 hMH2 hR2H
      go_wp2_with fail
      go_loopw [6, 23] (fun ok i wr => ok = .bool false ∧ i = .int .i64 0 ∧ wr = w4) (fun _ _ _ => 0)
      case atStart => exact ⟨rfl, rfl, rfl⟩
      case round =>
        obtain ⟨rfl, rfl, rfl⟩ := hrel
        go_wp2_with fail
        go_ret
        exact hr.out
end
end Go.Proofs.YtnhaoalcpbefoaaDoor
