/- The proof of a statement, some of its texts joined in build order: part D. -/
import Derived.Test.YtljkojpooajlhaaMsB
import Derived.Lib.SlicesCompact
import Derived.Test.YtljkojpooajlhaaShSort
import Derived.Test.YtljkojpooajlhaaWalkF
import Derived.Lib.OwnBridge
import Derived.Shelf.Slices.CompactI
import Derived.Shelf.Sort.Plain
import Derived.Shelf.Slices.In.SortNone
import Derived.Test.YtljkojpooajlhaaMathWays2
import Derived.Test.YtljkojpooajlhaaWalkD
import Derived.Test.YtljkojpooajlhaaMsC
import Derived.Test.YtljkojpooajlhaaMathCarry
import Derived.Test.YtljkojpooajlhaaVMap
import Derived.Test.YtljkojpooajlhaaMathComp
import Derived.Test.YtljkojpooajlhaaWalkE
/- Detachment and proofs step by step, in plain words. No program is named. -/
namespace Go.Proofs.Ytljkojpooajlhaa

abbrev Stp := Int × Int × Int
/-- the detachment of a major and a minor -/
noncomputable def detE (s : Sg) (m n : List Int) : List Int × Int :=
  if okT s m = true ∧ okT s n = true then (if m.headD 0 = 0 then uniE s ((argsT s m).getD 0 []) (apartT n) ((argsT s m).getD 1 []) else ([], 10)) else ([], 1)
theorem ar_zero {s : Sg} (hok : okSign s = true) : ar s 0 = 2 := by
  have hl := (okSign_len hok).1
  unfold okSign at hok
  simp only [Bool.and_eq_true, decide_eq_true_eq] at hok
  unfold ar arC
  rw [if_neg (by omega), if_pos ⟨by omega, by omega⟩]
  have := hok.2
  simp only [Int.toNat_zero] at *
  rw [this]; rfl
theorem halves {s : Sg} {m : List Int} (h : okT s m = true) (h0 : m.headD 0 = 0) : ∃ A B, argsT s m = [A, B] ∧ m = 0 :: (A ++ B) ∧ okT s A = true ∧ okT s B = true := by
  obtain ⟨h1, h2, h3⟩ := argsT_spec h
  rw [h0] at h1 h2
  rw [ar_zero (okT_parts h).1] at h1
  obtain ⟨L, hL⟩ : ∃ L, argsT s m = L := ⟨_, rfl⟩
  rw [hL] at h1 h2 h3
  match L, h1 with
  | [A, B], _ =>
    refine ⟨A, B, hL, ?_, h3 A (by simp), h3 B (by simp)⟩
    rw [h2]; simp
theorem halves_of {s : Sg} {m A B : List Int} (h : okT s m = true) (e : m = 0 :: (A ++ B)) (hA : W1 s A) : argsT s m = [A, B] ∧ okT s A = true ∧ okT s B = true := by
  obtain ⟨A', B', h1, h2, h3, h4⟩ := halves h (by rw [e]; rfl)
  rw [e] at h2
  obtain ⟨e1, e2⟩ := W1.uniq hA (okT_w1 h3) (List.cons.inj h2).2
  subst e1 e2
  exact ⟨h1, h3, h4⟩
theorem detE_at {s : Sg} {m n A B : List Int} (h : okT s m = true) (hn : okT s n = true) (e : m = 0 :: (A ++ B)) (hA : W1 s A) : detE s m n = uniE s A (apartT n) B := by
  unfold detE
  rw [if_pos ⟨h, hn⟩, if_pos (by rw [e]; rfl), (halves_of h e hA).1]; rfl
theorem detE_state {s : Sg} {m n : List Int} (h : okT s m = true) (hn : okT s n = true) (h0 : m.headD 0 ≠ 0) : detE s m n = ([], 10) := by
  unfold detE
  rw [if_pos ⟨h, hn⟩, if_neg h0]
theorem det_cases {s : Sg} {m n : List Int} (h : okT s m = true) (hn : okT s n = true) :
    (m.headD 0 ≠ 0 ∧ detE s m n = ([], 10)) ∨ ∃ A B, argsT s m = [A, B] ∧ m = 0 :: (A ++ B) ∧ okT s A = true ∧ okT s B = true ∧
      ((∃ θ, IsMgu s A (apartT n) θ ∧ detE s m n = madeE θ B ∧ uniB s A (apartT n) = true) ∨ ((∀ η, Wsub s η → ap η A ≠ ap η (apartT n)) ∧ detE s m n = ([], 8) ∧ uniB s A (apartT n) = false)) := by
  by_cases h0 : m.headD 0 = 0
  · obtain ⟨A, B, h1, h2, h3, h4⟩ := halves h h0
    refine .inr ⟨A, B, h1, h2, h3, h4, ?_⟩
    rw [detE_at h hn h2 (okT_w1 h3)]
    rcases uni_cases (okT_parts h).1 (okT_w1 h3) (apartT_w (okT_w1 hn)) (okT_Rg h3) (apartT_rg hn) with ⟨θ, hθ⟩ | ⟨k1, k2, k3⟩
    · exact .inl ⟨θ, hθ, uniE_some hθ B, uniB_some hθ⟩
    · exact .inr ⟨k1, k3 B, k2⟩
  · exact .inl ⟨h0, detE_state h hn h0⟩
theorem det_ok {s : Sg} {m n : List Int} (h : (detE s m n).2 = 0) : okT s m = true ∧ okT s n = true ∧ okT s (detE s m n).1 = true := by
  by_cases hk : okT s m = true ∧ okT s n = true
  · refine ⟨hk.1, hk.2, ?_⟩
    rcases det_cases hk.1 hk.2 with ⟨-, e⟩ | ⟨A, B, -, -, -, hB, (⟨θ, hθ, e, -⟩ | ⟨-, e, -⟩)⟩
    · rw [e] at h; cases h
    · rw [e] at h ⊢; exact (madeE_ok (okT_parts hk.1).1 hθ.th (okT_w1 hB) h).1
    · rw [e] at h; cases h
  · unfold detE at h; rw [if_neg hk] at h; cases h
theorem det_err {s : Sg} {m n : List Int} (hm : okT s m = true) (hn : okT s n = true) : (detE s m n).2 = 0 ∨ ((detE s m n).1 = [] ∧ ((detE s m n).2 = 4 ∨ (detE s m n).2 = 8 ∨ (detE s m n).2 = 10)) := by
  rcases det_cases hm hn with ⟨-, e⟩ | ⟨A, B, -, -, -, hB, (⟨θ, hθ, e, -⟩ | ⟨-, e, -⟩)⟩
  · rw [e]; exact .inr ⟨rfl, .inr (.inr rfl)⟩
  · rw [e]; unfold madeE; split
    · exact .inl rfl
    · exact .inr ⟨rfl, .inl rfl⟩
  · rw [e]; exact .inr ⟨rfl, .inr (.inl rfl)⟩
/-- b is an instance of a -/
def Ins (s : Sg) (a b : List Int) : Prop := ∃ η, Wsub s η ∧ ap η a = b
theorem Ins.canon {s : Sg} {a b : List Int} (h : Ins s a b) : Ins s (canon a) (canon b) := by
  obtain ⟨η, hw, he⟩ := h
  obtain ⟨τ, ht, hb⟩ := canon_back (s := s) a
  refine ⟨fun n => ap (fun n => [canonW (varsC b) n]) (ap η (τ n)), fun n hn => ((ht n hn).ap hw).ap (fun m hm => W1.var (canonW_lt hm)), ?_⟩
  rw [← ap_ap (fun n => ap η (τ n)), ← ap_ap τ η, hb, he, ← canon_ap]
/-- more general ones say more -/
theorem det_mono {s : Sg} {M N M' N' : List Int} (hM : okT s M = true) (hN : okT s N = true) (iM : Ins s M M') (iN : Ins s N N') (h : (detE s M' N').2 = 0) :
    (detE s M N).2 = 4 ∨ (detE s M N).2 = 10 ∨ ((detE s M N).2 = 0 ∧ Ins s (detE s M N).1 (detE s M' N').1) := by
  obtain ⟨hM', hN', -⟩ := det_ok h
  obtain ⟨η, hη, rfl⟩ := iM
  obtain ⟨ζ, hζ, rfl⟩ := iN
  rcases det_cases hM hN with ⟨-, e⟩ | ⟨A, B, -, eM, hA, hB, hU⟩
  · rw [e]; exact .inr (.inl rfl)
  · have eM' : ap η M = 0 :: (ap η A ++ ap η B) := by rw [eM, ap_pos (by decide), ap_append]
    have hd := detE_at hM' hN' eM' ((okT_w1 hA).ap hη)
    have hok := (okT_parts hM).1
    have hA' := (halves_of hM' eM' ((okT_w1 hA).ap hη)).2.1
    have hB' := (halves_of hM' eM' ((okT_w1 hA).ap hη)).2.2
    rcases uni_cases hok (okT_w1 hA') (apartT_w (okT_w1 hN')) (okT_Rg hA') (apartT_rg hN') with ⟨θ', hθ'⟩ | ⟨-, -, k3⟩
    · rw [hd, uniE_some hθ'] at h ⊢
      have hξ : Wsub s (fun n => if n < -12 then ap θ' (apartT (ζ (n + 12))) else ap θ' (η n)) := fun n hn => by
        show W1 s (if n < -12 then ap θ' (apartT (ζ (n + 12))) else ap θ' (η n))
        split
        · exact (apartT_w (hζ _ (by omega))).ap hθ'.th
        · exact (hη n hn).ap hθ'.th
      have low : ∀ t : List Int, okT s t = true → ap (fun n => if n < -12 then ap θ' (apartT (ζ (n + 12))) else ap θ' (η n)) t = ap θ' (ap η t) := fun t ht => by
        rw [ap_ap]
        refine ap_congr (fun n hn h0 => if_neg ?_)
        have := okT_rg ht n hn h0; omega
      have hi : ap (fun n => if n < -12 then ap θ' (apartT (ζ (n + 12))) else ap θ' (η n)) (apartT N) = ap θ' (apartT (ap ζ N)) := by
        rw [ap_apart, apartT_eq (ap ζ N), ap_ap ζ, ap_ap]
        refine ap_congr (fun n hn h0 => ?_)
        rw [if_pos (by omega), show n - 12 + 12 = n by omega, apartT_eq]
      have heq := (low A hA).trans (hθ'.eq.trans hi.symm)
      rcases hU with ⟨θ, hθ, e, -⟩ | ⟨k1, -, -⟩
      · rw [e]
        by_cases hz : (madeE θ B).2 = 0
        · refine .inr (.inr ⟨hz, ?_⟩)
          rw [(madeE_ok hok hθ.th (okT_w1 hB) hz).2, (madeE_ok hok hθ'.th (okT_w1 hB') h).2]
          refine Ins.canon ⟨_, hξ, ?_⟩
          rw [hθ.most hξ heq B, low B hB]
        · refine .inl ?_
          unfold madeE at hz ⊢
          split
          · rename_i hc; rw [if_pos hc] at hz; exact (hz rfl).elim
          · rfl
      · exact (k1 _ hξ heq).elim
    · rw [hd, k3] at h; cases h

/-! ### proofs -/
def rightB (G : Int) (n : Nat) (x : Stp) : Bool := (decide (x.1 = 1) && (decide (0 ≤ x.2.1) && decide (x.2.1 ≤ G - 1)) && decide (x.2.2 = 0)) || (decide (x.1 = 2) && (decide (0 ≤ x.2.1) && decide (x.2.1 ≤ (n : Int) - 1)) && (decide (0 ≤ x.2.2) && decide (x.2.2 ≤ (n : Int) - 1)))
def okSteps (G : Int) : Nat → List Stp → Bool
  | _, [] => true
  | n, x :: p => rightB G n x && okSteps G (n + 1) p
def validP (G : Int) (p : List Stp) : Bool := okSteps G 0 p && (decide (1 ≤ p.length) && decide (p.length ≤ 60))
def proofB (G : Int) (p : List Stp) : Bool := (decide (0 ≤ G) && decide (G ≤ 60)) && validP G p
def givensB (s : Sg) (g : List (List Int)) : Bool := okSign s && decide (g.length ≤ 60) && g.all (okT s)
noncomputable def stepE (s : Sg) (g l : List (List Int)) (x : Stp) : List Int × Int :=
  if x.1 = 1 then (canon (g.getD x.2.1.toNat []), 0) else detE s (l.getD x.2.1.toNat []) (l.getD x.2.2.toNat [])
noncomputable def runL (s : Sg) (g : List (List Int)) : List Stp → List (List Int) → List (List Int) × Int
  | [], l => (l, 0)
  | x :: p, l => if (stepE s g l x).2 = 0 then runL s g p (l ++ [(stepE s g l x).1]) else (l, (stepE s g l x).2)
def askedB (s : Sg) (g : List (List Int)) (p : List Stp) : Bool := givensB s g && validP g.length p
noncomputable def runR (s : Sg) (g : List (List Int)) (p : List Stp) : List (List Int) × Int × Int :=
  if askedB s g p = true then (if (runL s g p []).2 = 0 then ((runL s g p []).1, -1, 0) else ((runL s g p []).1, ((runL s g p []).1.length : Int), (runL s g p []).2)) else ([], 0, 1)
noncomputable def saysE (s : Sg) (g : List (List Int)) (p : List Stp) : List Int × Int :=
  if askedB s g p = true then (if (runL s g p []).2 = 0 then ((runL s g p []).1.getLastD [], 0) else ([], (runL s g p []).2)) else ([], 1)
theorem rightB_cite {G : Int} {n : Nat} {x : Stp} (h : rightB G n x = true) (h1 : x.1 = 1) : 0 ≤ x.2.1 ∧ x.2.1 < G ∧ x.2.2 = 0 := by
  simp only [rightB, Bool.or_eq_true, Bool.and_eq_true, decide_eq_true_eq] at h; omega
theorem rightB_detach {G : Int} {n : Nat} {x : Stp} (h : rightB G n x = true) (h1 : x.1 ≠ 1) : x.1 = 2 ∧ 0 ≤ x.2.1 ∧ x.2.1 < n ∧ 0 ≤ x.2.2 ∧ x.2.2 < n := by
  simp only [rightB, Bool.or_eq_true, Bool.and_eq_true, decide_eq_true_eq] at h; omega
theorem givensB_parts {s : Sg} {g : List (List Int)} (h : givensB s g = true) : okSign s = true ∧ g.length ≤ 60 ∧ ∀ t ∈ g, okT s t = true := by
  simp only [givensB, Bool.and_eq_true, decide_eq_true_eq, List.all_eq_true] at h
  exact ⟨h.1.1, h.1.2, h.2⟩
theorem getD_mem {α : Type} {l : List α} {n : Nat} (d : α) (h : n < l.length) : l.getD n d ∈ l := by
  rw [List.getD_eq_getElem?_getD, List.getElem?_eq_getElem h]; exact List.getElem_mem h
/-- what a right step says is valid -/
theorem step_okT {s : Sg} {g l : List (List Int)} {x : Stp} (hg : ∀ t ∈ g, okT s t = true) (hr : rightB g.length l.length x = true) (h : (stepE s g l x).2 = 0) : okT s (stepE s g l x).1 = true := by
  unfold stepE at h ⊢
  by_cases h1 : x.1 = 1
  · rw [if_pos h1]
    obtain ⟨g1, g2, -⟩ := rightB_cite hr h1
    exact okT_canon (hg _ (getD_mem [] (by omega)))
  · rw [if_neg h1] at h ⊢
    exact (det_ok h).2.2
theorem runL_okT {s : Sg} {g : List (List Int)} (hg : ∀ t ∈ g, okT s t = true) : ∀ (p : List Stp) (l : List (List Int)), (∀ t ∈ l, okT s t = true) → okSteps g.length l.length p = true → (∀ t ∈ (runL s g p l).1, okT s t = true) ∧ ((runL s g p l).2 = 0 → (runL s g p l).1.length = l.length + p.length) ∧ (runL s g p l).1.length ≤ l.length + p.length
  | [], l, hl, _ => ⟨hl, fun _ => rfl, Nat.le_refl _⟩
  | x :: p, l, hl, ho => by
    simp only [okSteps, Bool.and_eq_true] at ho
    rw [runL]
    split
    · rename_i hz
      have hx := step_okT hg ho.1 hz
      have hl' : ∀ t ∈ l ++ [(stepE s g l x).1], okT s t = true := fun t ht => by
        rcases List.mem_append.1 ht with h | h
        · exact hl t h
        · rw [List.mem_singleton] at h; rw [h]; exact hx
      have ih := runL_okT hg p (l ++ [(stepE s g l x).1]) hl' (by rw [List.length_append, List.length_singleton]; exact ho.2)
      rw [List.length_append, List.length_singleton] at ih
      refine ⟨ih.1, fun h => ?_, ?_⟩
      · rw [ih.2.1 h, List.length_cons]; omega
      · rw [List.length_cons]; omega
    · rename_i hz
      exact ⟨hl, fun h => (hz h).elim, by simp⟩
theorem runL_append {s : Sg} {g : List (List Int)} : ∀ (p q : List Stp) (l : List (List Int)), runL s g (p ++ q) l = if (runL s g p l).2 = 0 then runL s g q (runL s g p l).1 else runL s g p l
  | [], q, l => by simp [runL]
  | x :: p, q, l => by
    rw [List.cons_append, runL, runL]
    split
    · exact runL_append p q _
    · rfl
theorem runL_more {s : Sg} {g : List (List Int)} : ∀ (p : List Stp) (l : List (List Int)), l <+: (runL s g p l).1
  | [], l => List.prefix_refl _
  | x :: p, l => by
    rw [runL]
    split
    · exact (List.prefix_append _ _).trans (runL_more p _)
    · exact List.prefix_refl _
/-- P4.3 -/
theorem run_mono {s : Sg} {g g' : List (List Int)} (hg : ∀ t ∈ g, okT s t = true) (hg' : ∀ t ∈ g', okT s t = true) (hlen : g.length = g'.length) (hi : ∀ i, i < g.length → Ins s (g.getD i []) (g'.getD i [])) :
    ∀ (p : List Stp) (l l' : List (List Int)), (∀ t ∈ l, okT s t = true) → (∀ t ∈ l', okT s t = true) → l.length = l'.length → (∀ i, i < l.length → Ins s (l.getD i []) (l'.getD i [])) → okSteps g.length l.length p = true → (runL s g' p l').2 = 0 →
      (runL s g p l).2 = 4 ∨ (runL s g p l).2 = 10 ∨ ((runL s g p l).2 = 0 ∧ (runL s g p l).1.length = (runL s g' p l').1.length ∧ ∀ i, i < (runL s g p l).1.length → Ins s ((runL s g p l).1.getD i []) ((runL s g' p l').1.getD i []))
  | [], l, l', hl, hl', hll, hii, _, _ => .inr (.inr ⟨rfl, hll, hii⟩)
  | x :: p, l, l', hl, hl', hll, hii, ho, hz => by
    simp only [okSteps, Bool.and_eq_true] at ho
    rw [runL] at hz
    by_cases hx' : (stepE s g' l' x).2 = 0
    · rw [if_pos hx'] at hz
      have hs : (stepE s g l x).2 = 4 ∨ (stepE s g l x).2 = 10 ∨ ((stepE s g l x).2 = 0 ∧ Ins s (stepE s g l x).1 (stepE s g' l' x).1) := by
        unfold stepE at hx' ⊢
        by_cases h1 : x.1 = 1
        · simp only [if_pos h1]
          obtain ⟨g1, g2, -⟩ := rightB_cite ho.1 h1
          exact .inr (.inr ⟨trivial, (hi _ (by omega)).canon⟩)
        · simp only [if_neg h1] at hx' ⊢
          obtain ⟨-, d1, d2, d3, d4⟩ := rightB_detach ho.1 h1
          exact det_mono (hl _ (getD_mem [] (by omega))) (hl _ (getD_mem [] (by omega))) (hii _ (by omega)) (hii _ (by omega)) hx'
      rw [runL, runL, if_pos hx']
      rcases hs with h | h | ⟨h, hI⟩
      · rw [if_neg (by omega)]; exact .inl h
      · rw [if_neg (by omega)]; exact .inr (.inl h)
      · rw [if_pos h]
        have o1 := step_okT hg ho.1 h
        have o2 := step_okT hg' (by rw [← hlen, ← hll]; exact ho.1) hx'
        refine run_mono hg hg' hlen hi p _ _ (fun t ht => ?_) (fun t ht => ?_) (by simp [hll]) (fun i hil => ?_) (by rw [List.length_append, List.length_singleton]; exact ho.2) hz
        · rcases List.mem_append.1 ht with k | k
          · exact hl t k
          · rw [List.mem_singleton] at k; rw [k]; exact o1
        · rcases List.mem_append.1 ht with k | k
          · exact hl' t k
          · rw [List.mem_singleton] at k; rw [k]; exact o2
        · rw [List.length_append, List.length_singleton] at hil
          by_cases hlt : i < l.length
          · rw [List.getD_eq_getElem?_getD, List.getD_eq_getElem?_getD, List.getElem?_append_left hlt, List.getElem?_append_left (by omega), ← List.getD_eq_getElem?_getD, ← List.getD_eq_getElem?_getD]
            exact hii i hlt
          · obtain rfl : i = l.length := by omega
            rw [List.getD_eq_getElem?_getD, List.getD_eq_getElem?_getD, List.getElem?_append_right (Nat.le_refl _), List.getElem?_append_right (by omega), hll]
            simpa using hI
    · rw [if_neg hx'] at hz; exact (hx' hz).elim
end Go.Proofs.Ytljkojpooajlhaa

/- Proofs joined and moved, in plain words. No program is named. -/
namespace Go.Proofs.Ytljkojpooajlhaa

def shS (k : Nat) (x : Stp) : Stp := if x.1 = 2 then (x.1, x.2.1 + k, x.2.2 + k) else x
def mvS (to : List Int) (x : Stp) : Stp := if x.1 = 1 then (x.1, to.getD x.2.1.toNat 0, x.2.2) else x
def joinedL (p q : List Stp) : List Stp := p ++ q.map (shS p.length) ++ [(2, (p.length : Int) - 1, (p.length : Int) + q.length - 1)]
def joinedE (G : Int) (p q : List Stp) : List Stp × Int := if proofB G p = true ∧ proofB G q = true then (if p.length + q.length + 1 ≤ 60 then (joinedL p q, 0) else ([], 4)) else ([], 1)
def movedE (G : Int) (p : List Stp) (to : List Int) (count : Int) : List Stp × Int :=
  if proofB G p = true then (if (to.length : Int) = G then (if (decide (0 ≤ count) && decide (count ≤ 60) && to.all (fun n => decide (0 ≤ n) && decide (n ≤ count - 1))) = true then (p.map (mvS to), 0) else ([], 7)) else ([], 9)) else ([], 1)

theorem okSteps_append {G : Int} : ∀ (p q : List Stp) (n : Nat), okSteps G n (p ++ q) = (okSteps G n p && okSteps G (n + p.length) q)
  | [], q, n => by simp [okSteps]
  | x :: p, q, n => by
    rw [List.cons_append, okSteps, okSteps, okSteps_append p q (n + 1), Bool.and_assoc, List.length_cons, show n + 1 + p.length = n + (p.length + 1) by omega]
theorem rightB_sh {G : Int} {n k : Nat} {x : Stp} (h : rightB G n x = true) : rightB G (n + k) (shS k x) = true := by
  unfold shS
  by_cases h2 : x.1 = 2
  · rw [if_pos h2]
    obtain ⟨-, d1, d2, d3, d4⟩ := rightB_detach h (by omega)
    simp only [rightB, Bool.or_eq_true, Bool.and_eq_true, decide_eq_true_eq]
    right
    exact ⟨⟨h2, by omega, by omega⟩, by omega, by omega⟩
  · rw [if_neg h2]
    have h1 : x.1 = 1 := by
      simp only [rightB, Bool.or_eq_true, Bool.and_eq_true, decide_eq_true_eq] at h; omega
    obtain ⟨g1, g2, g3⟩ := rightB_cite h h1
    simp only [rightB, Bool.or_eq_true, Bool.and_eq_true, decide_eq_true_eq]
    left
    exact ⟨⟨h1, by omega, by omega⟩, g3⟩
theorem okSteps_sh {G : Int} {k : Nat} : ∀ (q : List Stp) (n : Nat), okSteps G n q = true → okSteps G (n + k) (q.map (shS k)) = true
  | [], _, _ => rfl
  | x :: q, n, h => by
    simp only [okSteps, Bool.and_eq_true] at h
    rw [List.map_cons, okSteps, Bool.and_eq_true, show n + k + 1 = n + 1 + k by omega]
    exact ⟨rightB_sh h.1, okSteps_sh q (n + 1) h.2⟩
theorem joined_ok {G : Int} {p q : List Stp} (hp : validP G p = true) (hq : validP G q = true) (hl : p.length + q.length + 1 ≤ 60) : validP G (joinedL p q) = true := by
  simp only [validP, Bool.and_eq_true, decide_eq_true_eq] at hp hq ⊢
  refine ⟨?_, ?_, ?_⟩
  · unfold joinedL
    rw [okSteps_append, okSteps_append, Bool.and_eq_true, Bool.and_eq_true]
    refine ⟨⟨hp.1, okSteps_sh q 0 hq.1⟩, ?_⟩
    simp only [okSteps, rightB, Bool.or_eq_true, Bool.and_eq_true, decide_eq_true_eq, List.length_append, List.length_map, and_true]
    right
    exact ⟨⟨trivial, by omega, by omega⟩, by omega, by omega⟩
  · unfold joinedL; simp; omega
  · unfold joinedL; simp; omega
theorem getD_app {α : Type} {l m : List α} (d : α) (n : Nat) : (l ++ m).getD (l.length + n) d = m.getD n d := by
  rw [List.getD_eq_getElem?_getD, List.getElem?_append_right (by omega), List.getD_eq_getElem?_getD]; congr 2; omega
theorem run_sh {s : Sg} {g lp : List (List Int)} : ∀ (q : List Stp) (l : List (List Int)), okSteps g.length l.length q = true → runL s g (q.map (shS lp.length)) (lp ++ l) = (lp ++ (runL s g q l).1, (runL s g q l).2)
  | [], l, _ => rfl
  | x :: q, l, h => by
    simp only [okSteps, Bool.and_eq_true] at h
    have hs : stepE s g (lp ++ l) (shS lp.length x) = stepE s g l x := by
      by_cases h1 : x.1 = 1
      · have e1 : shS lp.length x = x := by unfold shS; exact if_neg (by omega)
        rw [e1]
        unfold stepE
        rw [if_pos h1, if_pos h1]
      · obtain ⟨h2, d1, d2, d3, d4⟩ := rightB_detach h.1 h1
        have e1 : shS lp.length x = (x.1, x.2.1 + lp.length, x.2.2 + lp.length) := by unfold shS; exact if_pos h2
        rw [e1]
        unfold stepE
        simp only
        rw [if_neg h1, if_neg h1, show (x.2.1 + (lp.length : Int)).toNat = lp.length + x.2.1.toNat by omega, show (x.2.2 + (lp.length : Int)).toNat = lp.length + x.2.2.toNat by omega, getD_app, getD_app]
    rw [List.map_cons, runL, runL, hs]
    split
    · have := run_sh (s := s) (g := g) (lp := lp) q (l ++ [(stepE s g l x).1]) (by rw [List.length_append, List.length_singleton]; exact h.2)
      rw [← List.append_assoc] at this
      exact this
    · rfl
theorem validP_parts {G : Int} {p : List Stp} (h : validP G p = true) : okSteps G 0 p = true ∧ 1 ≤ p.length ∧ p.length ≤ 60 := by
  simp only [validP, Bool.and_eq_true, decide_eq_true_eq] at h; exact h
theorem askedB_parts {s : Sg} {g : List (List Int)} {p : List Stp} (h : askedB s g p = true) : givensB s g = true ∧ validP g.length p = true := by
  simpa only [askedB, Bool.and_eq_true] using h
theorem says_ok {s : Sg} {g : List (List Int)} {p : List Stp} (h : (saysE s g p).2 = 0) : askedB s g p = true ∧ (runL s g p []).2 = 0 ∧ (saysE s g p).1 = (runL s g p []).1.getLastD [] ∧ (runL s g p []).1.length = p.length ∧ okT s (saysE s g p).1 = true := by
  unfold saysE at h ⊢
  by_cases ha : askedB s g p = true
  · rw [if_pos ha] at h ⊢
    by_cases hz : (runL s g p []).2 = 0
    · rw [if_pos hz] at h ⊢
      obtain ⟨hg, hv⟩ := askedB_parts ha
      have h3 := (givensB_parts hg).2.2
      have hr := runL_okT h3 p [] (by simp) (validP_parts hv).1
      have hlen := hr.2.1 hz
      simp only [List.length_nil, Nat.zero_add] at hlen
      refine ⟨ha, hz, rfl, hlen, hr.1 _ ?_⟩
      have := (validP_parts hv).2.1
      rw [List.getLastD_eq_getLast?]
      cases hh : (runL s g p []).1.getLast? with
      | none => rw [List.getLast?_eq_none_iff] at hh; rw [hh] at hlen; simp at hlen; omega
      | some y => exact List.mem_of_getLast? hh
    · rw [if_neg hz] at h; exact (hz h).elim
  · rw [if_neg ha] at h; cases h
theorem lastD_getD {l : List (List Int)} : l.getD (l.length - 1) [] = l.getLastD [] := by
  rw [List.getLastD_eq_getLast?, List.getLast?_eq_getElem?, List.getD_eq_getElem?_getD]
/-- joined proofs say the detachment of what both say -/
theorem says_joined {s : Sg} {g : List (List Int)} {p q : List Stp} (hp : (saysE s g p).2 = 0) (hq : (saysE s g q).2 = 0) (hl : p.length + q.length + 1 ≤ 60) : saysE s g (joinedL p q) = detE s (saysE s g p).1 (saysE s g q).1 := by
  obtain ⟨a1, a2, a3, a4, a5⟩ := says_ok hp
  obtain ⟨b1, b2, b3, b4, b5⟩ := says_ok hq
  obtain ⟨hg, vp⟩ := askedB_parts a1
  obtain ⟨-, vq⟩ := askedB_parts b1
  have hask : askedB s g (joinedL p q) = true := by unfold askedB; rw [hg, joined_ok vp vq hl]; rfl
  rw [a3, b3]
  rw [a3] at a5
  rw [b3] at b5
  have hpl := (validP_parts vp).2.1
  have hql := (validP_parts vq).2.1
  obtain ⟨LP, hLP⟩ : ∃ L, (runL s g p []).1 = L := ⟨_, rfl⟩
  obtain ⟨LQ, hLQ⟩ : ∃ L, (runL s g q []).1 = L := ⟨_, rfl⟩
  rw [hLP] at a4 a5 ⊢
  rw [hLQ] at b4 b5 ⊢
  have hrun : runL s g (p ++ q.map (shS p.length)) [] = (LP ++ LQ, 0) := by
    rw [runL_append, if_pos a2, hLP]
    have := run_sh (s := s) (g := g) (lp := LP) q [] (validP_parts vq).1
    rw [List.append_nil, a4, hLQ, b2] at this
    exact this
  have hstep : stepE s g (LP ++ LQ) (2, (p.length : Int) - 1, (p.length : Int) + q.length - 1) = detE s (LP.getLastD []) (LQ.getLastD []) := by
    unfold stepE
    rw [if_neg (fun h => by cases h)]
    simp only
    rw [show ((p.length : Int) - 1).toNat = p.length - 1 by omega, show ((p.length : Int) + q.length - 1).toNat = LP.length + (q.length - 1) by omega, getD_app, ← lastD_getD, ← lastD_getD (l := LQ), a4, b4]
    congr 1
    rw [List.getD_eq_getElem?_getD, List.getElem?_append_left (by omega), ← List.getD_eq_getElem?_getD]
  have hd := det_err a5 b5
  unfold saysE
  rw [if_pos hask]
  unfold joinedL
  rw [runL_append, hrun, if_pos rfl]
  simp only [runL, hstep]
  rcases hd with h | ⟨h1, h2⟩
  · rw [if_pos h]
    simp only [if_true]
    rw [List.getLastD_concat, ← h]
  · have : ¬ (detE s (LP.getLastD []) (LQ.getLastD [])).2 = 0 := by omega
    rw [if_neg this]
    simp only
    rw [if_neg this]
    exact Prod.ext h1.symm rfl
/-- moved proofs say of the moved givens what the proofs say -/
theorem run_moved {s : Sg} {g : List (List Int)} {to : List Int} : ∀ (p : List Stp) (l : List (List Int)), okSteps to.length l.length p = true → runL s (to.map (fun n => g.getD n.toNat [])) p l = runL s g (p.map (mvS to)) l
  | [], l, _ => rfl
  | x :: p, l, h => by
    simp only [okSteps, Bool.and_eq_true] at h
    have hs : stepE s (to.map (fun n => g.getD n.toNat [])) l x = stepE s g l (mvS to x) := by
      by_cases h1 : x.1 = 1
      · obtain ⟨g1, g2, -⟩ := rightB_cite h.1 h1
        have e1 : mvS to x = (x.1, to.getD x.2.1.toNat 0, x.2.2) := by unfold mvS; exact if_pos h1
        rw [e1]
        unfold stepE
        simp only [if_pos h1]
        rw [List.getD_eq_getElem?_getD, List.getElem?_map, List.getD_eq_getElem?_getD (l := to), List.getElem?_eq_getElem (by omega)]
        rfl
      · have e1 : mvS to x = x := by unfold mvS; exact if_neg h1
        rw [e1]
        unfold stepE
        rw [if_neg h1, if_neg h1]
    rw [List.map_cons, runL, runL, hs]
    split
    · exact run_moved p _ (by rw [List.length_append, List.length_singleton]; exact h.2)
    · rfl
theorem moved_ok {G : Int} {to : List Int} {count : Int} (hG : (to.length : Int) = G) (hto : ∀ n ∈ to, 0 ≤ n ∧ n ≤ count - 1) : ∀ (p : List Stp) (n : Nat), okSteps G n p = true → okSteps count n (p.map (mvS to)) = true
  | [], _, _ => rfl
  | x :: p, n, h => by
    simp only [okSteps, Bool.and_eq_true] at h
    rw [List.map_cons, okSteps, Bool.and_eq_true]
    refine ⟨?_, moved_ok hG hto p (n + 1) h.2⟩
    unfold mvS
    by_cases h1 : x.1 = 1
    · obtain ⟨g1, g2, g3⟩ := rightB_cite h.1 h1
      rw [if_pos h1]
      have := hto (to.getD x.2.1.toNat 0) (getD_mem 0 (by omega))
      simp only [rightB, Bool.or_eq_true, Bool.and_eq_true, decide_eq_true_eq]
      left
      exact ⟨⟨h1, by omega, by omega⟩, g3⟩
    · obtain ⟨h2, d1, d2, d3, d4⟩ := rightB_detach h.1 h1
      rw [if_neg h1]
      simp only [rightB, Bool.or_eq_true, Bool.and_eq_true, decide_eq_true_eq]
      right
      exact ⟨⟨h2, by omega, by omega⟩, by omega, by omega⟩
theorem says_moved {s : Sg} {g : List (List Int)} {p : List Stp} {to : List Int} (hg : givensB s g = true) (hto : ∀ n ∈ to, 0 ≤ n ∧ n < g.length) (hp : proofB to.length p = true) :
    saysE s (to.map (fun n => g.getD n.toNat [])) p = saysE s g (p.map (mvS to)) := by
  obtain ⟨g1, g2, g3⟩ := givensB_parts hg
  have hp' := hp
  simp only [proofB, Bool.and_eq_true, decide_eq_true_eq] at hp'
  obtain ⟨⟨-, h60⟩, hv⟩ := hp'
  have a1 : askedB s (to.map (fun n => g.getD n.toNat [])) p = true := by
    unfold askedB givensB
    simp only [Bool.and_eq_true, decide_eq_true_eq, List.all_eq_true, List.length_map]
    refine ⟨⟨⟨g1, by omega⟩, fun t ht => ?_⟩, hv⟩
    obtain ⟨n, hn, rfl⟩ := List.mem_map.1 ht
    have := hto n hn
    exact g3 _ (getD_mem [] (by omega))
  have a2 : askedB s g (p.map (mvS to)) = true := by
    unfold askedB
    rw [hg, Bool.true_and]
    unfold validP
    have := moved_ok rfl (fun n hn => by have := hto n hn; exact ⟨this.1, by omega⟩) p 0 (validP_parts hv).1 (count := (g.length : Int))
    rw [this, List.length_map]
    have h2 := (validP_parts hv).2
    simp only [Bool.true_and, Bool.and_eq_true, decide_eq_true_eq]
    exact h2
  unfold saysE
  rw [if_pos a1, if_pos a2, run_moved p [] (validP_parts hv).1]
end Go.Proofs.Ytljkojpooajlhaa

/- Trees of proofs as texts, and proofs read back from such texts, in plain words. No program is named. -/
namespace Go.Proofs.Ytljkojpooajlhaa

/-! ### trees -/
inductive Tr where
  | g (n : Nat)
  | d (a b : Tr)
def digs (n : Nat) : List UInt8 := [UInt8.ofNat (48 + n / 10), UInt8.ofNat (48 + n % 10)]
def Tr.text : Tr → List UInt8
  | .g n => 103 :: digs n
  | .d a b => 68 :: (a.text ++ b.text)
def Tr.leaves : Tr → List Nat
  | .g n => [n]
  | .d a b => a.leaves ++ b.leaves
def Tr.subs : Tr → List Tr
  | .g n => [.g n]
  | .d a b => .d a b :: (a.subs ++ b.subs)
theorem Tr.text_len (t : Tr) : 3 ≤ t.text.length := by
  induction t with
  | g n => simp [Tr.text, digs]
  | d a b iha ihb => simp [Tr.text]; omega
theorem Tr.sub_self (t : Tr) : t ∈ t.subs := by cases t <;> simp [Tr.subs]
/-- the tree of a step, from those of the steps before it -/
def trS (ts : List Tr) (x : Stp) : Tr := if x.1 = 2 then .d (ts.getD x.2.1.toNat (.g 0)) (ts.getD x.2.2.toNat (.g 0)) else .g x.2.1.toNat
def trL : List Stp → List Tr → List Tr
  | [], ts => ts
  | x :: p, ts => trL p (ts ++ [trS ts x])
def trees (p : List Stp) : List Tr := trL p []
theorem trL_append : ∀ (p q : List Stp) (ts : List Tr), trL (p ++ q) ts = trL q (trL p ts)
  | [], _, _ => rfl
  | x :: p, q, ts => by rw [List.cons_append, trL, trL, trL_append p q]
theorem trL_len : ∀ (p : List Stp) (ts : List Tr), (trL p ts).length = ts.length + p.length
  | [], _ => rfl
  | x :: p, ts => by rw [trL, trL_len p, List.length_append, List.length_singleton, List.length_cons]; omega
theorem trees_len (p : List Stp) : (trees p).length = p.length := by unfold trees; rw [trL_len]; simp
theorem trees_snoc (p : List Stp) (x : Stp) : trees (p ++ [x]) = trees p ++ [trS (trees p) x] := by unfold trees; rw [trL_append]; rfl
theorem trees_more : ∀ (q p : List Stp), ∃ us, trees (p ++ q) = trees p ++ us := by
  intro q
  induction q with
  | nil => intro p; exact ⟨[], by simp⟩
  | cons x q ih =>
    intro p
    obtain ⟨us, h⟩ := ih (p ++ [x])
    rw [trees_snoc, List.append_assoc, List.append_assoc] at h
    exact ⟨_, h⟩
theorem getD_more {α : Type} {ts us : List α} {k : Nat} (d : α) (h : k < ts.length) : (ts ++ us).getD k d = ts.getD k d := by
  rw [List.getD_eq_getElem?_getD, List.getD_eq_getElem?_getD, List.getElem?_append_left h]
theorem getD_end {α : Type} (ts : List α) (x d : α) : (ts ++ [x]).getD ts.length d = x := by
  rw [List.getD_eq_getElem?_getD, List.getElem?_append_right (Nat.le_refl _)]; simp
theorem trS_more {G : Int} {n : Nat} {x : Stp} {ts us : List Tr} (h : rightB G n x = true) (hn : n ≤ ts.length) : trS (ts ++ us) x = trS ts x := by
  unfold trS
  by_cases h2 : x.1 = 2
  · obtain ⟨-, d1, d2, d3, d4⟩ := rightB_detach h (by omega)
    rw [if_pos h2, if_pos h2, getD_more _ (by omega), getD_more _ (by omega)]
  · rw [if_neg h2, if_neg h2]
theorem okS_snoc {G : Int} : ∀ (p : List Stp) (n : Nat) (x : Stp), okSteps G n (p ++ [x]) = (okSteps G n p && rightB G (n + p.length) x)
  | [], n, x => by simp [okSteps]
  | y :: p, n, x => by
    rw [List.cons_append, okSteps, okSteps, okS_snoc p (n + 1) x, Bool.and_assoc, List.length_cons, show n + 1 + p.length = n + (p.length + 1) by omega]
theorem okS_get {G : Int} : ∀ (p : List Stp) (n k : Nat) (hk : k < p.length), okSteps G n p = true → rightB G (n + k) p[k] = true
  | x :: p, n, 0, _, h => by simp only [okSteps, Bool.and_eq_true] at h; exact h.1
  | x :: p, n, k + 1, hk, h => by
    simp only [okSteps, Bool.and_eq_true] at h
    have := okS_get p (n + 1) k (by simpa using hk) h.2
    rw [show n + (k + 1) = n + 1 + k by omega]
    simpa using this
theorem trees_get {G : Int} : ∀ (q p : List Stp), okSteps G 0 (p ++ q) = true → (∀ k (hk : k < p.length), (trees p).getD k (.g 0) = trS (trees p) p[k]) → ∀ k (hk : k < (p ++ q).length), (trees (p ++ q)).getD k (.g 0) = trS (trees (p ++ q)) (p ++ q)[k]
  | [], p, _, h, k, hk => by
    simp only [List.append_nil] at hk ⊢
    exact h k hk
  | x :: q, p, ho, h, k, hk => by
    have e : p ++ x :: q = (p ++ [x]) ++ q := by simp
    have ho' : okSteps G 0 ((p ++ [x]) ++ q) = true := by rw [← e]; exact ho
    have hx : rightB G p.length x = true := by
      have := okS_get (p ++ x :: q) 0 p.length (by simp) ho
      simpa using this
    have hp : ∀ j (hj : j < p.length), rightB G j p[j] = true := fun j hj => by
      have := okS_get (p ++ x :: q) 0 j (by simp; omega) ho
      rw [List.getElem_append_left hj] at this
      simpa using this
    have ih := trees_get q (p ++ [x]) ho' (fun j hj => by
      rw [trees_snoc]
      rw [List.length_append, List.length_singleton] at hj
      by_cases hj' : j < p.length
      · rw [getD_more _ (by rw [trees_len]; exact hj'), h j hj', List.getElem_append_left hj', trS_more (hp j hj') (by rw [trees_len]; omega)]
      · obtain rfl : j = p.length := by omega
        have := getD_end (trees p) (trS (trees p) x) (.g 0)
        rw [trees_len] at this
        rw [this, List.getElem_append_right (Nat.le_refl _)]
        simp only [Nat.sub_self, List.getElem_singleton]
        rw [trS_more hx (by rw [trees_len]; omega)]) k (by rw [← e]; exact hk)
    simp only [← e] at ih
    exact ih
theorem trees_at {G : Int} {p : List Stp} (h : okSteps G 0 p = true) (k : Nat) (hk : k < p.length) : (trees p).getD k (.g 0) = trS (trees p) p[k] := by
  have := trees_get (G := G) p [] (by simpa using h) (fun k hk => by simp at hk) k (by simpa using hk)
  simpa using this

/-! ### reading a tree -/
def addP (p : List Stp) (x : Stp) : List Stp × Nat := if x ∈ p then (p, p.idxOf x) else (p ++ [x], p.length)
structure AddP (G : Int) (p : List Stp) (x : Stp) (p' : List Stp) (k : Nat) : Prop where
  nd : p'.Nodup
  ok : okSteps G 0 p' = true
  more : ∃ us, trees p' = trees p ++ us
  le : p.length ≤ p'.length
  lt : k < p'.length
  len : p'.length ≤ p.length + 1
  new : x ∉ p → k + 1 = p'.length
  tr : (trees p').getD k (.g 0) = trS (trees p) x
  all : ∀ t ∈ trees p', t ∈ trees p ∨ t = trS (trees p) x
  old : x ∈ p → p' = p
  pre : p <+: p'
theorem addP_spec {G : Int} {p : List Stp} {x : Stp} (nd : p.Nodup) (ok : okSteps G 0 p = true) (hx : rightB G p.length x = true) : AddP G p x (addP p x).1 (addP p x).2 := by
  unfold addP
  by_cases hm : x ∈ p
  · rw [if_pos hm]
    have hi := List.idxOf_lt_length_of_mem hm
    exact ⟨nd, ok, ⟨[], by simp⟩, Nat.le_refl _, hi, Nat.le_succ _, fun h => (h hm).elim, by rw [trees_at ok _ hi]; simp, fun t ht => .inl ht, fun _ => rfl, List.prefix_refl _⟩
  · rw [if_neg hm]
    refine ⟨?_, ?_, ⟨_, trees_snoc _ _⟩, by simp, by simp, by simp, fun _ => by simp, ?_, fun t ht => ?_, fun h => (hm h).elim, List.prefix_append _ _⟩
    · rw [List.nodup_append]
      exact ⟨nd, by simp, fun a ha b hb e => by rw [List.mem_singleton] at hb; subst hb; subst e; exact hm ha⟩
    · rw [okS_snoc, ok, Nat.zero_add, hx]; rfl
    · rw [trees_snoc]
      have := getD_end (trees p) (trS (trees p) x) (.g 0)
      rw [trees_len] at this; exact this
    · rw [trees_snoc, List.mem_append, List.mem_singleton] at ht; exact ht
def closeP : List (Option Nat) → List Stp → Nat → List (Option Nat) × List Stp × Option Nat
  | [], p, k => ([], p, some k)
  | none :: st, p, k => (some k :: st, p, none)
  | some m :: st, p, k => closeP st (addP p (2, m, k)).1 (addP p (2, m, k)).2
def isDig (b : UInt8) : Bool := decide (48 ≤ b.toNat) && decide (b.toNat ≤ 57)
def numOf (a b : UInt8) : Nat := 10 * (a.toNat - 48) + (b.toNat - 48)
def untR (G : Int) : List UInt8 → List (Option Nat) → List Stp → Option Nat → List Stp × Int
  | [], _, _, none => ([], 2)
  | [], _, p, some _ => if p.length ≤ 60 then (p, 0) else ([], 4)
  | _ :: _, _, _, some _ => ([], 2)
  | c :: r, st, p, none =>
    if c = 68 then untR G r (none :: st) p none
    else if c = 103 then
      match r with
      | a :: b :: r' => if isDig a = true ∧ isDig b = true ∧ (numOf a b : Int) < G then untR G r' (closeP st (addP p (1, numOf a b, 0)).1 (addP p (1, numOf a b, 0)).2).1 (closeP st (addP p (1, numOf a b, 0)).1 (addP p (1, numOf a b, 0)).2).2.1 (closeP st (addP p (1, numOf a b, 0)).1 (addP p (1, numOf a b, 0)).2).2.2 else ([], 2)
      | _ => ([], 2)
    else ([], 2)
theorem untR_D (G : Int) (r : List UInt8) (st : List (Option Nat)) (p : List Stp) : untR G (68 :: r) st p none = untR G r (none :: st) p none := by
  rw [untR.eq_def]; simp
theorem untR_g (G : Int) (a b : UInt8) (r : List UInt8) (st : List (Option Nat)) (p : List Stp) : untR G (103 :: a :: b :: r) st p none = if isDig a = true ∧ isDig b = true ∧ (numOf a b : Int) < G then untR G r (closeP st (addP p (1, numOf a b, 0)).1 (addP p (1, numOf a b, 0)).2).1 (closeP st (addP p (1, numOf a b, 0)).1 (addP p (1, numOf a b, 0)).2).2.1 (closeP st (addP p (1, numOf a b, 0)).1 (addP p (1, numOf a b, 0)).2).2.2 else ([], 2) := by
  rw [untR.eq_def]; simp
theorem untR_g0 (G : Int) (st : List (Option Nat)) (p : List Stp) : untR G [103] st p none = ([], 2) := by rw [untR.eq_def]; simp
theorem untR_g1 (G : Int) (a : UInt8) (st : List (Option Nat)) (p : List Stp) : untR G [103, a] st p none = ([], 2) := by rw [untR.eq_def]; simp
theorem untR_no (G : Int) (c : UInt8) (r : List UInt8) (st : List (Option Nat)) (p : List Stp) (h1 : c ≠ 68) (h2 : c ≠ 103) : untR G (c :: r) st p none = ([], 2) := by rw [untR.eq_def]; simp [h1, h2]
theorem untR_over (G : Int) (c : UInt8) (r : List UInt8) (st : List (Option Nat)) (p : List Stp) (k : Nat) : untR G (c :: r) st p (some k) = ([], 2) := by rw [untR.eq_def]
theorem untR_end (G : Int) (st : List (Option Nat)) (p : List Stp) (k : Nat) : untR G [] st p (some k) = if p.length ≤ 60 then (p, 0) else ([], 4) := by rw [untR.eq_def]
theorem untR_short (G : Int) (st : List (Option Nat)) (p : List Stp) : untR G [] st p none = ([], 2) := by rw [untR.eq_def]
def untE (G : Int) (t : ByteArray) : List Stp × Int :=
  if 0 ≤ G ∧ G ≤ 60 then (if t.size ≤ 65536 then untR G t.data.toList [] [] none else ([], 3)) else ([], 1)
theorem digs_num {a b : UInt8} (ha : isDig a = true) (hb : isDig b = true) : digs (numOf a b) = [a, b] := by
  simp only [isDig, Bool.and_eq_true, decide_eq_true_eq] at ha hb
  unfold digs numOf
  have e1 : 48 + (10 * (a.toNat - 48) + (b.toNat - 48)) / 10 = a.toNat := by omega
  have e2 : 48 + (10 * (a.toNat - 48) + (b.toNat - 48)) % 10 = b.toNat := by omega
  rw [e1, e2]; simp
theorem num_digs {n : Nat} (h : n < 100) : isDig (UInt8.ofNat (48 + n / 10)) = true ∧ isDig (UInt8.ofNat (48 + n % 10)) = true ∧ numOf (UInt8.ofNat (48 + n / 10)) (UInt8.ofNat (48 + n % 10)) = n := by
  have e1 : (UInt8.ofNat (48 + n / 10)).toNat = 48 + n / 10 := UInt8.toNat_ofNat_of_lt' (by show _ < 256; omega)
  have e2 : (UInt8.ofNat (48 + n % 10)).toNat = 48 + n % 10 := UInt8.toNat_ofNat_of_lt' (by show _ < 256; omega)
  unfold isDig numOf
  rw [e1, e2]
  simp only [Bool.and_eq_true, decide_eq_true_eq]
  omega

def rend (ts : List Tr) : List (Option Nat) → List UInt8
  | [] => []
  | none :: st => rend ts st ++ [68]
  | some m :: st => rend ts st ++ 68 :: (ts.getD m (.g 0)).text
theorem rend_more {ts us : List Tr} : ∀ {st : List (Option Nat)}, (∀ m, some m ∈ st → m < ts.length) → rend (ts ++ us) st = rend ts st
  | [], _ => rfl
  | none :: st, h => by rw [rend, rend, rend_more (fun m hm => h m (by simp [hm]))]
  | some m :: st, h => by rw [rend, rend, rend_more (fun m hm => h m (by simp [hm])), getD_more _ (h m (by simp))]
/-- between two parts of a text -/
structure Jo (G : Int) (st : List (Option Nat)) (p : List Stp) (w : Option Nat) (c : List UInt8) : Prop where
  nd : p.Nodup
  ok : okSteps G 0 p = true
  stl : ∀ m, some m ∈ st → m < p.length
  open_ : w = none → c = rend (trees p) st
  whole : ∀ k, w = some k → st = [] ∧ k + 1 = p.length ∧ c = ((trees p).getD k (.g 0)).text
  le : ∀ t ∈ trees p, t.text.length ≤ c.length
  cnt : p.length + st.length ≤ c.length
/-- behind the end of the part k -/
structure Jc (G : Int) (st : List (Option Nat)) (p : List Stp) (k b : Nat) (c : List UInt8) : Prop where
  nd : p.Nodup
  ok : okSteps G 0 p = true
  stl : ∀ m, some m ∈ st → m < p.length
  kl : k < p.length
  txt : c = rend (trees p) st ++ ((trees p).getD k (.g 0)).text
  le : ∀ t ∈ trees p, t.text.length ≤ b ∨ t.text.length ≤ ((trees p).getD k (.g 0)).text.length
  bl : b < c.length
  last : st = [] → k + 1 = p.length
  cnt : p.length + st.length ≤ c.length
theorem Jo.start (G : Int) : Jo G [] [] none [] := ⟨.nil, rfl, (fun m h => by cases h), fun _ => rfl, (fun k h => by cases h), (fun t h => by cases h), Nat.le_refl _⟩
theorem Jo.d {G : Int} {st : List (Option Nat)} {p : List Stp} {c : List UInt8} (h : Jo G st p none c) : Jo G (none :: st) p none (c ++ [68]) :=
  ⟨h.nd, h.ok, fun m hm => h.stl m (by simpa using hm), fun _ => by rw [rend, ← h.open_ rfl], (fun k e => by cases e), fun t ht => by have := h.le t ht; simp; omega, by have := h.cnt; simp; omega⟩
theorem right_cite {G : Int} {n i : Nat} (h : (n : Int) < G) : rightB G i (1, (n : Int), 0) = true := by
  simp only [rightB, Bool.or_eq_true, Bool.and_eq_true, decide_eq_true_eq]; left; exact ⟨⟨trivial, by omega, by omega⟩, trivial⟩
theorem right_det {G : Int} {m k n : Nat} (hm : m < n) (hk : k < n) : rightB G n (2, (m : Int), (k : Int)) = true := by
  simp only [rightB, Bool.or_eq_true, Bool.and_eq_true, decide_eq_true_eq]; right; exact ⟨⟨trivial, by omega, by omega⟩, by omega, by omega⟩
theorem trS_cite (ts : List Tr) (n : Nat) : trS ts (1, (n : Int), 0) = .g n := by unfold trS; rw [if_neg (by simp)]; rfl
theorem trS_det (ts : List Tr) (m k : Nat) : trS ts (2, (m : Int), (k : Int)) = .d (ts.getD m (.g 0)) (ts.getD k (.g 0)) := by unfold trS; rw [if_pos rfl]; rfl
theorem mem_trees {G : Int} {p : List Stp} {x : Stp} (ok : okSteps G 0 p = true) (h : x ∈ p) : trS (trees p) x ∈ trees p := by
  obtain ⟨i, hi, rfl⟩ := List.getElem_of_mem h
  rw [← trees_at ok i hi, List.getD_eq_getElem?_getD, List.getElem?_eq_getElem (by rw [trees_len]; exact hi)]
  exact List.getElem_mem _
theorem Jo.g {G : Int} {st : List (Option Nat)} {p : List Stp} {c : List UInt8} {a b : UInt8} (h : Jo G st p none c) (ha : isDig a = true) (hb : isDig b = true) (hG : (numOf a b : Int) < G) :
    Jc G st (addP p (1, (numOf a b : Int), 0)).1 (addP p (1, (numOf a b : Int), 0)).2 c.length (c ++ [103, a, b]) := by
  have hS := addP_spec h.nd h.ok (right_cite (i := p.length) hG)
  obtain ⟨us, hus⟩ := hS.more
  have htr := hS.tr
  rw [trS_cite] at htr
  have htx : (Tr.g (numOf a b)).text = [103, a, b] := by rw [Tr.text, digs_num ha hb]
  refine ⟨hS.nd, hS.ok, fun m hm => Nat.lt_of_lt_of_le (h.stl m hm) hS.le, hS.lt, ?_, fun t ht => ?_, by simp, fun hst => hS.new fun hm => ?_, ?_⟩
  · rw [htr, htx, hus, rend_more (by rw [trees_len]; exact h.stl), ← h.open_ rfl]
  · rcases hS.all t ht with h1 | h1
    · exact .inl (h.le t h1)
    · rw [htr, h1, trS_cite]; exact .inr (Nat.le_refl _)
  · have h1 := h.le _ (mem_trees h.ok hm)
    have h2 := Tr.text_len (trS (trees p) (1, (numOf a b : Int), 0))
    rw [h.open_ rfl, hst] at h1
    simp only [rend, List.length_nil] at h1
    omega
  · have := h.cnt
    have := hS.len
    simp; omega
theorem Jc.close {G : Int} {st : List (Option Nat)} {p : List Stp} {m k b : Nat} {c : List UInt8} (h : Jc G (some m :: st) p k b c) : Jc G st (addP p (2, (m : Int), (k : Int))).1 (addP p (2, (m : Int), (k : Int))).2 b c := by
  have hm := h.stl m (by simp)
  have hS := addP_spec h.nd h.ok (right_det (G := G) hm h.kl)
  obtain ⟨us, hus⟩ := hS.more
  have htr := hS.tr
  rw [trS_det] at htr
  have hc := h.txt
  rw [rend] at hc
  have hst : ∀ j, some j ∈ st → j < p.length := fun j hj => h.stl j (by simp [hj])
  have hcl := congrArg List.length hc
  simp only [List.length_append, List.length_cons] at hcl
  refine ⟨hS.nd, hS.ok, fun j hj => Nat.lt_of_lt_of_le (hst j hj) hS.le, hS.lt, ?_, fun t ht => ?_, h.bl, fun e => hS.new fun hx => ?_, ?_⟩
  · rw [htr, hus, rend_more (by rw [trees_len]; exact hst), hc, Tr.text]; simp
  · rw [htr]
    rcases hS.all t ht with h1 | h1
    · rcases h.le t h1 with h2 | h2
      · exact .inl h2
      · right; simp only [Tr.text, List.length_cons, List.length_append]; omega
    · rw [h1, trS_det]; exact .inr (Nat.le_refl _)
  · have h1 := h.le _ (mem_trees h.ok hx)
    rw [trS_det] at h1
    have hb := h.bl
    subst e
    simp only [rend, List.length_nil] at hcl
    simp only [Tr.text, List.length_cons, List.length_append] at h1
    omega
  · have := h.cnt
    have := hS.len
    simp at *; omega
theorem Jc.wait {G : Int} {st : List (Option Nat)} {p : List Stp} {k b : Nat} {c : List UInt8} (h : Jc G (none :: st) p k b c) : Jo G (some k :: st) p none c := by
  have hc := h.txt
  rw [rend] at hc
  have hcl := congrArg List.length hc
  simp only [List.length_append] at hcl
  refine ⟨h.nd, h.ok, fun m hm => ?_, fun _ => by rw [rend, hc]; simp, (fun k e => by cases e), fun t ht => ?_, by simpa using h.cnt⟩
  · rcases List.mem_cons.1 hm with e | e
    · cases e; exact h.kl
    · exact h.stl m (by simp [e])
  · have hb := h.bl
    rcases h.le t ht with h1 | h1 <;> omega
theorem Jc.done {G : Int} {p : List Stp} {k b : Nat} {c : List UInt8} (h : Jc G [] p k b c) : Jo G [] p (some k) c := by
  have hc := h.txt
  rw [rend, List.nil_append] at hc
  refine ⟨h.nd, h.ok, h.stl, (fun e => by cases e), fun j e => by cases e; exact ⟨rfl, h.last rfl, hc⟩, fun t ht => ?_, h.cnt⟩
  have hb := h.bl
  rw [hc] at hb ⊢
  rcases h.le t ht with h1 | h1 <;> omega
theorem closeP_ok {G : Int} {b : Nat} {c : List UInt8} : ∀ (st : List (Option Nat)) (p : List Stp) (k : Nat), Jc G st p k b c → Jo G (closeP st p k).1 (closeP st p k).2.1 (closeP st p k).2.2 c
  | [], _, _, h => h.done
  | none :: _, _, _, h => h.wait
  | some _ :: st, _, _, h => closeP_ok st _ _ h.close
theorem untR_ok {G : Int} {q : List Stp} : ∀ (n : Nat) (r : List UInt8) (st : List (Option Nat)) (p : List Stp) (w : Option Nat) (c : List UInt8), r.length ≤ n → Jo G st p w c → untR G r st p w = (q, 0) → ∃ k, Jo G [] q (some k) (c ++ r) ∧ q.length ≤ 60
  | _, [], st, p, none, c, _, h, e => by rw [untR_short] at e; cases e
  | _, [], st, p, some k, c, _, h, e => by
    rw [untR_end] at e
    split at e
    · cases e
      obtain ⟨rfl, -⟩ := h.whole k rfl
      exact ⟨k, by simpa using h, ‹_›⟩
    · cases e
  | _, x :: r, st, p, some k, c, _, h, e => by rw [untR_over] at e; cases e
  | 0, x :: r, st, p, none, c, hn, h, e => by simp at hn
  | n + 1, x :: r, st, p, none, c, hn, h, e => by
    by_cases hx : x = 68
    · subst hx
      rw [untR_D] at e
      obtain ⟨k, h1, h2⟩ := untR_ok n r _ _ _ _ (by simpa using hn) h.d e
      exact ⟨k, by simpa using h1, h2⟩
    · by_cases hg : x = 103
      · subst hg
        match r with
        | a :: b :: r' =>
          rw [untR_g] at e
          split at e
          · rename_i hc
            obtain ⟨k, h1, h2⟩ := untR_ok n r' _ _ _ _ (by simp at hn; omega) (closeP_ok _ _ _ (h.g hc.1 hc.2.1 hc.2.2)) e
            exact ⟨k, by simpa using h1, h2⟩
          · cases e
        | [] => rw [untR_g0] at e; cases e
        | [a] => rw [untR_g1] at e; cases e
      · rw [untR_no _ _ _ _ _ hx hg] at e; cases e
end Go.Proofs.Ytljkojpooajlhaa

/- A tree's text read back: what the read proof has and says. No program is named. -/
namespace Go.Proofs.Ytljkojpooajlhaa

def insT : List Stp → Tr → List Stp × Nat
  | p, .g n => addP p (1, (n : Int), 0)
  | p, .d a b => addP (insT (insT p a).1 b).1 (2, ((insT p a).2 : Int), ((insT (insT p a).1 b).2 : Int))
theorem untR_cite {G : Int} {n : Nat} (hn : (n : Int) < G) (h100 : n < 100) (r : List UInt8) (st : List (Option Nat)) (p : List Stp) :
    untR G ((Tr.g n).text ++ r) st p none = untR G r (closeP st (addP p (1, (n : Int), 0)).1 (addP p (1, (n : Int), 0)).2).1 (closeP st (addP p (1, (n : Int), 0)).1 (addP p (1, (n : Int), 0)).2).2.1 (closeP st (addP p (1, (n : Int), 0)).1 (addP p (1, (n : Int), 0)).2).2.2 := by
  obtain ⟨h1, h2, h3⟩ := num_digs h100
  rw [Tr.text, digs, List.cons_append, List.cons_append, List.cons_append, List.nil_append, untR_g, if_pos ⟨h1, h2, by rw [h3]; exact hn⟩, h3]
theorem untR_text {G : Int} : ∀ (t : Tr), (∀ n ∈ t.leaves, (n : Int) < G ∧ n < 100) → ∀ (r : List UInt8) (st : List (Option Nat)) (p : List Stp),
    untR G (t.text ++ r) st p none = untR G r (closeP st (insT p t).1 (insT p t).2).1 (closeP st (insT p t).1 (insT p t).2).2.1 (closeP st (insT p t).1 (insT p t).2).2.2
  | .g n, h, r, st, p => untR_cite (h n (by simp [Tr.leaves])).1 (h n (by simp [Tr.leaves])).2 r st p
  | .d a b, h, r, st, p => by
    rw [Tr.text, List.cons_append, untR_D, List.append_assoc, untR_text a (fun n hn => h n (by simp [Tr.leaves, hn])), closeP]
    simp only
    rw [untR_text b (fun n hn => h n (by simp [Tr.leaves, hn])), closeP]
    rfl
structure InsT (G : Int) (p : List Stp) (t : Tr) (p' : List Stp) (k : Nat) : Prop where
  nd : p'.Nodup
  ok : okSteps G 0 p' = true
  pre : p <+: p'
  lt : k < p'.length
  tr : (trees p').getD k (.g 0) = t
  all : ∀ u ∈ trees p', u ∈ trees p ∨ u ∈ t.subs
  new : t ∉ trees p → k + 1 = p'.length
theorem Tr.subs_le {u : Tr} : ∀ {t : Tr}, u ∈ t.subs → u.text.length ≤ t.text.length
  | .g n, h => by rw [Tr.subs, List.mem_singleton] at h; rw [h]; exact Nat.le_refl _
  | .d a b, h => by
    rw [Tr.subs, List.mem_cons, List.mem_append] at h
    rcases h with h | h | h
    · rw [h]; exact Nat.le_refl _
    · have := Tr.subs_le h; simp only [Tr.text, List.length_cons, List.length_append]; omega
    · have := Tr.subs_le h; simp only [Tr.text, List.length_cons, List.length_append]; omega
theorem pre_trees {p p' : List Stp} (h : p <+: p') : ∃ us, trees p' = trees p ++ us := by
  obtain ⟨q, rfl⟩ := h
  exact trees_more q p
theorem insT_spec {G : Int} : ∀ (t : Tr) (p : List Stp), (∀ n ∈ t.leaves, (n : Int) < G) → p.Nodup → okSteps G 0 p = true → InsT G p t (insT p t).1 (insT p t).2
  | .g n, p, h, nd, ok => by
    have hS := addP_spec nd ok (right_cite (i := p.length) (h n (by simp [Tr.leaves])))
    have htr := hS.tr
    rw [trS_cite] at htr
    exact ⟨hS.nd, hS.ok, hS.pre, hS.lt, htr, fun u hu => by
      rcases hS.all u hu with k | k
      · exact .inl k
      · rw [trS_cite] at k; exact .inr (by rw [k]; simp [Tr.subs]), fun hn => hS.new fun hm => hn (by have := mem_trees ok hm; rwa [trS_cite] at this)⟩
  | .d a b, p, h, nd, ok => by
    have ha := insT_spec a p (fun n hn => h n (by simp [Tr.leaves, hn])) nd ok
    have hb := insT_spec b (insT p a).1 (fun n hn => h n (by simp [Tr.leaves, hn])) ha.nd ha.ok
    rw [insT]
    have hka : (insT p a).2 < (insT (insT p a).1 b).1.length := Nat.lt_of_lt_of_le ha.lt hb.pre.length_le
    have hS := addP_spec hb.nd hb.ok (right_det (G := G) hka hb.lt)
    obtain ⟨us, hus⟩ := pre_trees hb.pre
    have hta : (trees (insT (insT p a).1 b).1).getD (insT p a).2 (.g 0) = a := by
      rw [hus, getD_more _ (by rw [trees_len]; exact ha.lt)]; exact ha.tr
    have hx : trS (trees (insT (insT p a).1 b).1) (2, ((insT p a).2 : Int), ((insT (insT p a).1 b).2 : Int)) = .d a b := by rw [trS_det, hta, hb.tr]
    have htr := hS.tr
    rw [hx] at htr
    refine ⟨hS.nd, hS.ok, ha.pre.trans (hb.pre.trans hS.pre), hS.lt, htr, fun u hu => ?_, fun hn => hS.new fun hm => ?_⟩
    rotate_left
    · have hm := mem_trees hb.ok hm
      rw [hx] at hm
      rcases hb.all _ hm with k | k
      · rcases ha.all _ k with k | k
        · exact hn k
        · have := Tr.subs_le k; simp only [Tr.text, List.length_cons, List.length_append] at this; omega
      · have := Tr.subs_le k; simp only [Tr.text, List.length_cons, List.length_append] at this; omega
    rcases hS.all u hu with k | k
    · rcases hb.all u k with k | k
      · rcases ha.all u k with k | k
        · exact .inl k
        · right; simp [Tr.subs, k]
      · right; simp [Tr.subs, k]
    · rw [hx] at k; right; rw [k]; exact Tr.sub_self _

/-- the tree's leaves are givens -/
theorem leaves_ok {G : Int} {p : List Stp} (h : okSteps G 0 p = true) : ∀ (k : Nat) (_ : k < p.length), ∀ n ∈ ((trees p).getD k (.g 0)).leaves, (n : Int) < G := by
  intro k
  induction k using Nat.strongRecOn with
  | _ k ih =>
    intro hk n hn
    rw [trees_at h k hk] at hn
    have hr := okS_get p 0 k hk h
    rw [Nat.zero_add] at hr
    unfold trS at hn
    by_cases h2 : p[k].1 = 2
    · obtain ⟨-, d1, d2, d3, d4⟩ := rightB_detach hr (by omega)
      rw [if_pos h2, Tr.leaves, List.mem_append] at hn
      rcases hn with hn | hn
      · exact ih _ (by omega) (by omega) n hn
      · exact ih _ (by omega) (by omega) n hn
    · have h1 : p[k].1 = 1 := by
        rcases Classical.em (p[k].1 = 1) with e | e
        · exact e
        · exact (h2 (rightB_detach hr e).1).elim
      obtain ⟨c1, c2, -⟩ := rightB_cite hr h1
      rw [if_neg h2, Tr.leaves, List.mem_singleton] at hn
      subst hn; omega
/-- which steps are needed by the step k -/
inductive Nd (p : List Stp) : Nat → Nat → Prop where
  | self (k : Nat) : Nd p k k
  | a {k j : Nat} (hk : k < p.length) (h2 : p[k].1 = 2) (h : Nd p p[k].2.1.toNat j) : Nd p k j
  | b {k j : Nat} (hk : k < p.length) (h2 : p[k].1 = 2) (h : Nd p p[k].2.2.toNat j) : Nd p k j
/-- each part of a step's tree is the tree of a step that it needs -/
theorem subs_nd {G : Int} {p : List Stp} (h : okSteps G 0 p = true) : ∀ (k : Nat) (_ : k < p.length), ∀ u ∈ ((trees p).getD k (.g 0)).subs, ∃ j, ∃ _ : j < p.length, Nd p k j ∧ (trees p).getD j (.g 0) = u := by
  intro k
  induction k using Nat.strongRecOn with
  | _ k ih =>
    intro hk u hu
    have ht := trees_at h k hk
    have hr := okS_get p 0 k hk h
    rw [Nat.zero_add] at hr
    unfold trS at ht
    by_cases h2 : p[k].1 = 2
    · obtain ⟨-, d1, d2, d3, d4⟩ := rightB_detach hr (by omega)
      rw [if_pos h2] at ht
      rw [ht, Tr.subs, List.mem_cons, List.mem_append] at hu
      rcases hu with hu | hu | hu
      · exact ⟨k, hk, .self k, by rw [hu, ht]⟩
      · obtain ⟨j, hj, n1, n2⟩ := ih _ (by omega) (by omega) u hu
        exact ⟨j, hj, .a hk h2 n1, n2⟩
      · obtain ⟨j, hj, n1, n2⟩ := ih _ (by omega) (by omega) u hu
        exact ⟨j, hj, .b hk h2 n1, n2⟩
    · rw [if_neg h2] at ht
      rw [ht, Tr.subs, List.mem_singleton] at hu
      exact ⟨k, hk, .self k, by rw [hu, ht]⟩

/-! ### what trees say -/
noncomputable def sayT (s : Sg) (g : List (List Int)) : Tr → List Int × Int
  | .g n => (canon (g.getD n []), 0)
  | .d a b => detE s (sayT s g a).1 (sayT s g b).1
theorem stepE_tree {s : Sg} {g l : List (List Int)} {ts : List Tr} {x : Stp} {G : Int} (hx : rightB G ts.length x = true) (hl : l = ts.map (fun t => (sayT s g t).1)) : stepE s g l x = sayT s g (trS ts x) := by
  unfold stepE trS
  by_cases h1 : x.1 = 1
  · rw [if_pos h1, if_neg (by omega)]; rfl
  · obtain ⟨h2, d1, d2, d3, d4⟩ := rightB_detach hx h1
    rw [if_neg h1, if_pos h2, sayT, hl]
    have e : ∀ n, n < ts.length → (ts.map (fun t => (sayT s g t).1)).getD n [] = (sayT s g (ts.getD n (.g 0))).1 := fun n hn => by
      rw [List.getD_eq_getElem?_getD, List.getD_eq_getElem?_getD, List.getElem?_map, List.getElem?_eq_getElem hn]; rfl
    rw [e _ (by omega), e _ (by omega)]
theorem trL_pre : ∀ (p : List Stp) (ts : List Tr), ts <+: trL p ts
  | [], _ => List.prefix_refl _
  | _ :: p, _ => (List.prefix_append _ _).trans (trL_pre p _)
theorem runL_of {s : Sg} {g : List (List Int)} {G : Int} : ∀ (p : List Stp) (ts : List Tr), okSteps G ts.length p = true → (∀ t ∈ trL p ts, (sayT s g t).2 = 0) → runL s g p (ts.map (fun t => (sayT s g t).1)) = ((trL p ts).map (fun t => (sayT s g t).1), 0)
  | [], ts, _, _ => rfl
  | x :: p, ts, h, ha => by
    simp only [okSteps, Bool.and_eq_true] at h
    have hx : (sayT s g (trS ts x)).2 = 0 := ha _ ((trL_pre p (ts ++ [trS ts x])).subset (by simp))
    rw [runL, trL, stepE_tree h.1 rfl, if_pos hx]
    have ih := runL_of p (ts ++ [trS ts x]) (by rw [List.length_append, List.length_singleton]; exact h.2) ha
    rw [List.map_append, List.map_singleton] at ih
    exact ih
theorem runL_all {s : Sg} {g : List (List Int)} {G : Int} : ∀ (p : List Stp) (ts : List Tr), okSteps G ts.length p = true → (∀ t ∈ ts, (sayT s g t).2 = 0) → (runL s g p (ts.map (fun t => (sayT s g t).1))).2 = 0 → ∀ t ∈ trL p ts, (sayT s g t).2 = 0
  | [], ts, _, ha, _ => ha
  | x :: p, ts, h, ha, hz => by
    simp only [okSteps, Bool.and_eq_true] at h
    rw [runL, stepE_tree h.1 rfl] at hz
    by_cases hx : (sayT s g (trS ts x)).2 = 0
    · rw [if_pos hx] at hz
      rw [trL]
      refine runL_all p (ts ++ [trS ts x]) (by rw [List.length_append, List.length_singleton]; exact h.2) (fun t ht => ?_) (by rw [List.map_append, List.map_singleton]; exact hz)
      rw [List.mem_append, List.mem_singleton] at ht
      rcases ht with ht | ht
      · exact ha t ht
      · rw [ht]; exact hx
    · rw [if_neg hx] at hz; exact (hx hz).elim
/-- different steps have different trees -/
theorem trees_inj {G : Int} {p : List Stp} (h : okSteps G 0 p = true) (nd : p.Nodup) : ∀ (i j : Nat) (_ : i < p.length) (_ : j < p.length), (trees p).getD i (.g 0) = (trees p).getD j (.g 0) → i = j := by
  intro i
  induction i using Nat.strongRecOn with
  | _ i ih =>
    intro j hi hj e
    rw [trees_at h i hi, trees_at h j hj] at e
    have hri := okS_get p 0 i hi h
    have hrj := okS_get p 0 j hj h
    rw [Nat.zero_add] at hri hrj
    have he : p[i] = p[j] := by
      unfold trS at e
      by_cases h2 : p[i].1 = 2
      · obtain ⟨-, d1, d2, d3, d4⟩ := rightB_detach hri (by omega)
        rw [if_pos h2] at e
        by_cases k2 : p[j].1 = 2
        · obtain ⟨-, e1, e2, e3, e4⟩ := rightB_detach hrj (by omega)
          rw [if_pos k2] at e
          simp only [Tr.d.injEq] at e
          have q1 := ih _ (by omega) _ (by omega) (by omega) e.1
          have q2 := ih _ (by omega) _ (by omega) (by omega) e.2
          exact Prod.ext (by omega) (Prod.ext (by omega) (by omega))
        · rw [if_neg k2] at e; cases e
      · rw [if_neg h2] at e
        by_cases k2 : p[j].1 = 2
        · rw [if_pos k2] at e; cases e
        · rw [if_neg k2] at e
          simp only [Tr.g.injEq] at e
          have h1 : p[i].1 = 1 := Classical.byContradiction fun k => h2 (rightB_detach hri k).1
          have k1 : p[j].1 = 1 := Classical.byContradiction fun k => k2 (rightB_detach hrj k).1
          obtain ⟨c1, -, c2⟩ := rightB_cite hri h1
          obtain ⟨c3, -, c4⟩ := rightB_cite hrj k1
          exact Prod.ext (by omega) (Prod.ext (by omega) (by omega))
    exact (List.getElem_inj nd).1 he
theorem trees_nodup {G : Int} {p : List Stp} (h : okSteps G 0 p = true) (nd : p.Nodup) : (trees p).Nodup := by
  unfold List.Nodup
  rw [List.pairwise_iff_getElem]
  intro i j hi hj hij e
  have hi' := hi
  have hj' := hj
  rw [trees_len] at hi' hj'
  have := trees_inj h nd i j hi' hj' (by rw [List.getD_eq_getElem?_getD, List.getD_eq_getElem?_getD, List.getElem?_eq_getElem hi, List.getElem?_eq_getElem hj, e])
  omega
theorem nodup_le {α : Type} [DecidableEq α] : ∀ {l m : List α}, l.Nodup → (∀ x ∈ l, x ∈ m) → l.length ≤ m.length
  | [], m, _, _ => Nat.zero_le _
  | x :: l, m, hn, hs => by
    rw [List.nodup_cons] at hn
    have hx := hs x (by simp)
    have ih := nodup_le (m := m.erase x) hn.2 (fun y hy => (List.mem_erase_of_ne (fun e => hn.1 (by rw [← e]; exact hy))).2 (hs y (by simp [hy])))
    rw [List.length_erase_of_mem hx] at ih
    have := List.length_pos_of_mem hx
    rw [List.length_cons]; omega
theorem last_tree {p : List Stp} (_ : 1 ≤ p.length) : (trees p).getLastD (.g 0) = (trees p).getD (p.length - 1) (.g 0) := by
  rw [List.getLastD_eq_getLast?, List.getLast?_eq_getElem?, trees_len, List.getD_eq_getElem?_getD]
/-- the text of a proof's tree, read back -/
theorem unt_tree {G : Int} {p : List Stp} (hG : G ≤ 100) (h : okSteps G 0 p = true) (h1 : 1 ≤ p.length) (h60 : p.length ≤ 60) :
    ∃ q, untR G ((trees p).getLastD (.g 0)).text [] [] none = (q, 0) ∧ q.Nodup ∧ okSteps G 0 q = true ∧ 1 ≤ q.length ∧ q.length ≤ 60 ∧ (trees q).getLastD (.g 0) = (trees p).getLastD (.g 0) ∧ ∀ u ∈ trees q, u ∈ ((trees p).getLastD (.g 0)).subs := by
  have hl := leaves_ok h (p.length - 1) (by omega)
  have hs := subs_nd h (p.length - 1) (by omega)
  rw [← last_tree h1] at hl hs
  generalize (trees p).getLastD (.g 0) = t at hl hs
  have hI := insT_spec (G := G) t [] hl .nil rfl
  have ht := untR_text (G := G) t (fun n hn => ⟨hl n hn, by have := hl n hn; omega⟩) [] [] []
  rw [List.append_nil, closeP, untR_end] at ht
  have hall : ∀ u ∈ trees (insT [] t).1, u ∈ t.subs := fun u hu => by
    rcases hI.all u hu with k | k
    · cases k
    · exact k
  have hlen : (insT [] t).1.length ≤ 60 := by
    open Classical in
    have := nodup_le (m := trees p) (trees_nodup hI.ok hI.nd) (fun u hu => by
      obtain ⟨j, hj, -, e⟩ := hs u (hall u hu)
      rw [← e, List.getD_eq_getElem?_getD, List.getElem?_eq_getElem (by rw [trees_len]; exact hj)]
      exact List.getElem_mem _)
    rw [trees_len, trees_len] at this; omega
  rw [if_pos hlen] at ht
  have hk := hI.new (by intro h; cases h)
  have h1' : 1 ≤ (insT [] t).1.length := by omega
  refine ⟨_, ht, hI.nd, hI.ok, h1', hlen, ?_, hall⟩
  rw [last_tree h1', ← hk, Nat.add_sub_cancel]; exact hI.tr
/-- a tree read back says what the proof says -/
theorem says_tree {s : Sg} {g : List (List Int)} {p q : List Stp} (hp : (saysE s g p).2 = 0) (hq : okSteps g.length 0 q = true) (h1 : 1 ≤ q.length) (h60 : q.length ≤ 60)
    (hl : (trees q).getLastD (.g 0) = (trees p).getLastD (.g 0)) (ha : ∀ u ∈ trees q, u ∈ ((trees p).getLastD (.g 0)).subs) : saysE s g q = saysE s g p := by
  unfold saysE at hp ⊢
  by_cases hx : askedB s g p = true
  · rw [if_pos hx] at hp ⊢
    by_cases hz : (runL s g p []).2 = 0
    · rw [if_pos hz]
      simp only [askedB, Bool.and_eq_true] at hx
      obtain ⟨ok, p1, p2⟩ := validP_parts hx.2
      have hq' : askedB s g q = true := by
        simp only [askedB, Bool.and_eq_true]
        refine ⟨hx.1, ?_⟩
        unfold validP
        rw [hq, decide_eq_true h1, decide_eq_true h60]; rfl
      have hall := runL_all (s := s) (g := g) p [] ok (fun t h => by cases h) hz
      have hp2 := runL_of (s := s) (g := g) p [] ok hall
      have hsub := subs_nd ok (p.length - 1) (by omega)
      rw [← last_tree p1] at hsub
      have hq2 := runL_of (s := s) (g := g) q [] hq (fun t ht => by
        obtain ⟨j, hj, -, e⟩ := hsub t (ha t ht)
        refine hall t ?_
        rw [← e, List.getD_eq_getElem?_getD]
        change (trees p)[j]?.getD (.g 0) ∈ trees p
        rw [List.getElem?_eq_getElem (by rw [trees_len]; exact hj)]
        exact List.getElem_mem _)
      rw [List.map_nil] at hp2 hq2
      rw [if_pos hq', hq2, hp2]
      simp only [if_true]
      have e : ∀ r : List Stp, 1 ≤ r.length → ((trL r []).map (fun t => (sayT s g t).1)).getLastD [] = (sayT s g ((trees r).getLastD (.g 0))).1 := fun r hr => by
        have hr' : 1 ≤ (trees r).length := by rw [trees_len]; exact hr
        change ((trees r).map (fun t => (sayT s g t).1)).getLastD [] = _
        rw [List.getLastD_eq_getLast?, List.getLastD_eq_getLast?, List.getLast?_map, List.getLast?_eq_getElem?, List.getElem?_eq_getElem (by omega)]
        rfl
      rw [e q h1, e p p1, hl]
    · rw [if_neg hz] at hp; exact (hz hp).elim
  · rw [if_neg hx] at hp; cases hp
/-- what Tree answers -/
def treeE (G : Int) (p : List Stp) : List UInt8 × Int :=
  if proofB G p = true then (if ((trees p).getLastD (.g 0)).text.length ≤ 65536 then (((trees p).getLastD (.g 0)).text, 0) else ([], 3)) else ([], 1)
/-- a text that is read is the tree of what is read -/
theorem tree_unt {G : Int} {t : ByteArray} {q : List Stp} (h : untE G t = (q, 0)) : treeE G q = (t.data.toList, 0) := by
  unfold untE at h
  by_cases hG : 0 ≤ G ∧ G ≤ 60
  · rw [if_pos hG] at h
    by_cases hs : t.size ≤ 65536
    · rw [if_pos hs] at h
      obtain ⟨k, hJ, h60⟩ := untR_ok _ _ _ _ _ _ (Nat.le_refl _) (.start G) h
      obtain ⟨-, k1, k2⟩ := hJ.whole k rfl
      have hp : proofB G q = true := by
        unfold proofB validP
        rw [decide_eq_true hG.1, decide_eq_true hG.2, hJ.ok, decide_eq_true h60, decide_eq_true (show 1 ≤ q.length by omega)]; rfl
      rw [List.nil_append] at k2
      have hl : (trees q).getLastD (.g 0) = (trees q).getD k (.g 0) := by rw [last_tree (by omega), show q.length - 1 = k by omega]
      unfold treeE
      rw [if_pos hp, hl, ← k2, if_pos (by rw [Array.length_toList]; exact hs)]
    · rw [if_neg hs] at h; cases h
  · rw [if_neg hG] at h; cases h
end Go.Proofs.Ytljkojpooajlhaa

/- Needed steps, counts and heights of proofs by their trees, in plain words. No program is named. -/
namespace Go.Proofs.Ytljkojpooajlhaa

def cntT : Tr → Nat
  | .g _ => 1
  | .d a b => cntT a + cntT b + 1
def hgtT : Tr → Nat
  | .g _ => 1
  | .d a b => max (hgtT a) (hgtT b) + 1
theorem cnt_text (t : Tr) : cntT t ≤ t.text.length := by
  induction t with
  | g n => simp [cntT, Tr.text]
  | d a b iha ihb => simp [cntT, Tr.text]; omega
/-- one step of needed: what step x, needed, makes needed -/
def ndSt (f : List Bool) (x : Stp) (is : Bool) : List Bool := if is = true ∧ x.1 = 2 then (f.set x.2.1.toNat true).set x.2.2.toNat true else f
def ndGo (p : List Stp) : Nat → List Bool → List Bool
  | 0, f => f
  | k + 1, f => ndGo p k (ndSt f (p.getD k (0, 0, 0)) (f.getD k false))
def ndL (p : List Stp) : List Bool := ndGo p p.length ((List.replicate p.length false).set (p.length - 1) true)
theorem ndSt_len (f : List Bool) (x : Stp) (is : Bool) : (ndSt f x is).length = f.length := by unfold ndSt; split <;> simp
theorem ndGo_len (p : List Stp) : ∀ (k : Nat) (f : List Bool), (ndGo p k f).length = f.length
  | 0, _ => rfl
  | k + 1, f => by rw [ndGo, ndGo_len p k, ndSt_len]
theorem ndL_len (p : List Stp) : (ndL p).length = p.length := by unfold ndL; rw [ndGo_len]; simp
theorem set_getD (f : List Bool) (a j : Nat) : (f.set a true).getD j false = (if a = j ∧ j < f.length then true else f.getD j false) := by
  rw [List.getD_eq_getElem?_getD, List.getD_eq_getElem?_getD, List.getElem?_set]
  by_cases h : a = j
  · subst h
    by_cases hl : a < f.length
    · simp [hl]
    · simp [hl]
  · simp [h]
theorem ndSt_mono {f : List Bool} {x : Stp} {is : Bool} {j : Nat} (h : f.getD j false = true) : (ndSt f x is).getD j false = true := by
  unfold ndSt
  split
  · rw [set_getD, set_getD]
    split
    · rfl
    · split
      · rfl
      · exact h
  · exact h
theorem ndGo_mono (p : List Stp) {j : Nat} : ∀ (k : Nat) (f : List Bool), f.getD j false = true → (ndGo p k f).getD j false = true
  | 0, _, h => h
  | k + 1, _, h => ndGo_mono p k _ (ndSt_mono h)
theorem ndSt_same {f : List Bool} {x : Stp} {is : Bool} {j : Nat} (h : x.1 = 2 → x.2.1.toNat < j ∧ x.2.2.toNat < j) : (ndSt f x is).getD j false = f.getD j false := by
  unfold ndSt
  split
  · rename_i hc
    obtain ⟨h1, h2⟩ := h hc.2
    rw [set_getD, set_getD, if_neg (by omega), if_neg (by omega)]
  · rfl
theorem getD_stp {p : List Stp} {k : Nat} (hk : k < p.length) : p.getD k (0, 0, 0) = p[k] := by rw [List.getD_eq_getElem?_getD, List.getElem?_eq_getElem hk]; rfl
theorem ok_less {G : Int} {p : List Stp} (ok : okSteps G 0 p = true) {k : Nat} (hk : k < p.length) (h2 : p[k].1 = 2) : p[k].2.1.toNat < k ∧ p[k].2.2.toNat < k := by
  have := okS_get p 0 k hk ok
  rw [Nat.zero_add] at this
  obtain ⟨-, d1, d2, d3, d4⟩ := rightB_detach this (by omega)
  omega
theorem ndGo_same {G : Int} {p : List Stp} (ok : okSteps G 0 p = true) {j : Nat} : ∀ (k : Nat) (f : List Bool), k ≤ p.length → k ≤ j → (ndGo p k f).getD j false = f.getD j false
  | 0, _, _, _ => rfl
  | k + 1, f, h, hj => by
    rw [ndGo, ndGo_same ok k _ (by omega) (by omega)]
    refine ndSt_same fun h2 => ?_
    rw [getD_stp (by omega)] at h2 ⊢
    have := ok_less ok (by omega) h2
    omega
theorem ndGo_step {G : Int} {p : List Stp} (ok : okSteps G 0 p = true) {i : Nat} (hi : i < p.length) (h2 : p[i].1 = 2) : ∀ (k : Nat) (f : List Bool), f.length = p.length → k ≤ p.length → i < k → (ndGo p k f).getD i false = true →
    (ndGo p k f).getD p[i].2.1.toNat false = true ∧ (ndGo p k f).getD p[i].2.2.toNat false = true
  | 0, _, _, _, h, _ => by omega
  | k + 1, f, hl, hk, hik, ht => by
    rw [ndGo] at ht ⊢
    by_cases hlt : i < k
    · exact ndGo_step ok hi h2 k _ (by rw [ndSt_len]; exact hl) (by omega) hlt ht
    · obtain rfl : i = k := by omega
      have hless := ok_less ok hi h2
      rw [ndGo_same ok i _ (by omega) (Nat.le_refl _), getD_stp hi] at ht
      rw [ndSt_same (fun _ => hless)] at ht
      rw [getD_stp hi, ht]
      have hs : ndSt f p[i] true = (f.set p[i].2.1.toNat true).set p[i].2.2.toNat true := by unfold ndSt; rw [if_pos ⟨rfl, h2⟩]
      rw [hs]
      refine ⟨ndGo_mono p i _ ?_, ndGo_mono p i _ ?_⟩
      · rw [set_getD, set_getD]
        split
        · rfl
        · rw [if_pos ⟨rfl, by omega⟩]
      · rw [set_getD, if_pos ⟨rfl, by rw [List.length_set]; omega⟩]
theorem ndL_step {G : Int} {p : List Stp} (ok : okSteps G 0 p = true) {i : Nat} (hi : i < p.length) (h2 : p[i].1 = 2) (ht : (ndL p).getD i false = true) : (ndL p).getD p[i].2.1.toNat false = true ∧ (ndL p).getD p[i].2.2.toNat false = true :=
  ndGo_step ok hi h2 p.length _ (by simp) (Nat.le_refl _) hi ht
theorem ndL_last {p : List Stp} (h1 : 1 ≤ p.length) : (ndL p).getD (p.length - 1) false = true := by
  refine ndGo_mono p _ _ ?_
  rw [set_getD, if_pos ⟨rfl, by simp; omega⟩]
theorem ndL_nd {G : Int} {p : List Stp} (ok : okSteps G 0 p = true) {k j : Nat} (h : Nd p k j) : (ndL p).getD k false = true → (ndL p).getD j false = true := by
  induction h with
  | self => exact id
  | a hk h2 _ ih => exact fun ht => ih (ndL_step ok hk h2 ht).1
  | b hk h2 _ ih => exact fun ht => ih (ndL_step ok hk h2 ht).2
/-- the needed steps -/
def ndIdx (p : List Stp) : List Nat := (List.range p.length).filter fun i => (ndL p).getD i false
theorem tree_needed {G : Int} {p q : List Stp} (ok : okSteps G 0 p = true) (h1 : 1 ≤ p.length) (hq : okSteps G 0 q = true) (nd : q.Nodup) (hs : ∀ u ∈ trees q, u ∈ ((trees p).getLastD (.g 0)).subs) : q.length ≤ (ndIdx p).length := by
  classical
  have h := nodup_le (m := (ndIdx p).map fun i => (trees p).getD i (.g 0)) (trees_nodup hq nd) (fun u hu => by
    have h2 := hs u hu
    rw [last_tree h1] at h2
    obtain ⟨j, hj, hn, ht⟩ := subs_nd ok (p.length - 1) (by omega) u h2
    rw [List.mem_map]
    refine ⟨j, ?_, ht⟩
    unfold ndIdx
    rw [List.mem_filter, List.mem_range]
    exact ⟨hj, ndL_nd ok hn (ndL_last h1)⟩)
  rw [trees_len, List.length_map] at h
  exact h
end Go.Proofs.Ytljkojpooajlhaa

/- Givens that needed steps cite, in plain words: a sorted list, each once, is what a range is left with. No program is named. -/
namespace Go.Proofs.Ytljkojpooajlhaa

theorem cmp_inv {zs : List Int} (hs : zs.Pairwise (· ≤ ·)) : ∀ m, m ≤ zs.length → (Go.Lib.compactUpTo zs.toArray m).Pairwise (· < ·) ∧ ∀ x, x ∈ Go.Lib.compactUpTo zs.toArray m ↔ x ∈ zs.take m
  | 0, _ => ⟨by simp [Go.Lib.compactUpTo], fun x => by simp [Go.Lib.compactUpTo]⟩
  | m + 1, hm => by
    obtain ⟨ih1, ih2⟩ := cmp_inv hs m (by omega)
    have hlt : m < zs.length := by omega
    have hg : ∀ j, j < zs.length → zs.toArray[j]! = zs[j]! := fun j hj => by simp
    have hge : zs.toArray[m]! = zs[m] := by simp [getElem!_pos, hlt]
    have htk : zs.take (m + 1) = zs.take m ++ [zs[m]] := List.take_succ_eq_append_getElem hlt
    rw [Go.Lib.compactUpTo_succ, htk]
    by_cases hk : Go.Lib.keeps zs.toArray m = true
    · rw [if_pos hk, hge]
      refine ⟨?_, fun x => by rw [List.mem_append, List.mem_append, ih2 x]⟩
      rw [List.pairwise_append]
      refine ⟨ih1, by simp, fun x hx y hy => ?_⟩
      rw [List.mem_singleton] at hy
      subst hy
      rw [ih2] at hx
      obtain ⟨j, hj, rfl⟩ := List.getElem_of_mem hx
      rw [List.length_take] at hj
      rw [List.getElem_take]
      have hjm : j < m := by omega
      rw [List.pairwise_iff_getElem] at hs
      have h1 : zs[j] ≤ zs[m - 1] := by
        by_cases e : j = m - 1
        · subst e; exact Int.le_refl _
        · exact hs j (m - 1) (by omega) (by omega) (by omega)
      have h2 : zs[m - 1] ≤ zs[m] := hs (m - 1) m (by omega) hlt (by omega)
      have h3 : zs[m] ≠ zs[m - 1] := by
        simp only [Go.Lib.keeps, decide_eq_true_eq] at hk
        rcases hk with hk | hk
        · omega
        · rw [hge] at hk
          have : zs.toArray[m - 1]! = zs[m - 1] := by rw [getElem!_pos _ _ (by simp; omega)]; simp
          rw [this] at hk; exact hk
      omega
    · rw [if_neg hk, List.append_nil]
      refine ⟨ih1, fun x => ?_⟩
      rw [ih2 x, List.mem_append, List.mem_singleton]
      refine ⟨.inl, fun h => h.elim id fun e => ?_⟩
      simp only [Go.Lib.keeps, decide_eq_true_eq, not_or] at hk
      have h0 : 0 < m := by omega
      have : zs.toArray[m - 1]! = zs[m - 1] := by rw [getElem!_pos _ _ (by simp; omega)]; simp
      have h3 : zs[m] = zs[m - 1] := by
        have := hk.2
        rw [hge] at this
        rw [‹zs.toArray[m - 1]! = zs[m - 1]›] at this
        exact Classical.byContradiction this
      rw [e, h3, List.mem_iff_getElem]
      exact ⟨m - 1, by rw [List.length_take]; omega, by rw [List.getElem_take]⟩
theorem lt_ext {a b : List Int} (ha : a.Pairwise (· < ·)) (hb : b.Pairwise (· < ·)) (h : ∀ x, x ∈ a ↔ x ∈ b) : a = b := by
  induction a generalizing b with
  | nil =>
    cases b with
    | nil => rfl
    | cons y b => exact absurd ((h y).2 (by simp)) (by simp)
  | cons x a ih =>
    cases b with
    | nil => exact absurd ((h x).1 (by simp)) (by simp)
    | cons y b =>
      rw [List.pairwise_cons] at ha hb
      have hxy : x = y := by
        have h1 := (h x).1 (by simp)
        have h2 := (h y).2 (by simp)
        rw [List.mem_cons] at h1 h2
        rcases h1 with h1 | h1
        · exact h1
        · rcases h2 with h2 | h2
          · exact h2.symm
          · have := hb.1 x h1; have := ha.1 y h2; omega
      subst hxy
      rw [ih ha.2 hb.2 fun z => ?_]
      have hz := h z
      rw [List.mem_cons, List.mem_cons] at hz
      constructor
      · intro hm
        rcases hz.1 (.inr hm) with e | e
        · have := ha.1 z hm; omega
        · exact e
      · intro hm
        rcases hz.2 (.inr hm) with e | e
        · have := hb.1 z hm; omega
        · exact e
theorem sort_le (l : List Int) : (l.mergeSort fun x y => decide (x ≤ y)).Pairwise (· ≤ ·) := by
  have := List.pairwise_mergeSort (le := fun x y : Int => decide (x ≤ y)) (fun a b c h1 h2 => by simp only [decide_eq_true_eq] at h1 h2 ⊢; omega) (fun a b => by simp only [Bool.or_eq_true, decide_eq_true_eq]; omega) l
  exact this.imp fun h => by simpa using h
/-- sorted, each once -/
def uniqI (l : List Int) : List Int := Go.Lib.compact (l.mergeSort fun x y => decide (x ≤ y))
theorem uniqI_lt (l : List Int) : (uniqI l).Pairwise (· < ·) := (cmp_inv (sort_le l) _ (Nat.le_refl _)).1
theorem uniqI_mem (l : List Int) (x : Int) : x ∈ uniqI l ↔ x ∈ l := by
  have := (cmp_inv (sort_le l) _ (Nat.le_refl _)).2 x
  rw [List.take_length] at this
  unfold uniqI Go.Lib.compact
  rw [this, List.mem_mergeSort]
/-- what needed steps cite, in their order -/
def citL (p : List Stp) (L : List Nat) : List Int := (L.filter fun i => decide ((p.getD i (0, 0, 0)).1 = 1)).map fun i => (p.getD i (0, 0, 0)).2.1
/-- whether a needed step cites a given -/
def citB (p : List Stp) (g : Nat) : Bool := (List.range p.length).any fun i => (ndL p).getD i false && (decide ((p.getD i (0, 0, 0)).1 = 1) && decide ((p.getD i (0, 0, 0)).2.1 = (g : Int)))
def citR (G : Nat) (p : List Stp) : List Int := ((List.range G).filter fun g => citB p g).map fun g : Nat => (g : Int)
theorem citL_mem {p : List Stp} {x : Int} : x ∈ citL p (ndIdx p) ↔ ∃ i, i < p.length ∧ (ndL p).getD i false = true ∧ (p.getD i (0, 0, 0)).1 = 1 ∧ (p.getD i (0, 0, 0)).2.1 = x := by
  unfold citL ndIdx
  rw [List.mem_map]
  constructor
  · rintro ⟨i, hi, rfl⟩
    rw [List.mem_filter, List.mem_filter, List.mem_range, decide_eq_true_eq] at hi
    exact ⟨i, hi.1.1, hi.1.2, hi.2, rfl⟩
  · rintro ⟨i, h1, h2, h3, rfl⟩
    exact ⟨i, by rw [List.mem_filter, List.mem_filter, List.mem_range, decide_eq_true_eq]; exact ⟨⟨h1, h2⟩, h3⟩, rfl⟩
theorem cited_eq {G : Nat} {p : List Stp} (ok : okSteps (G : Int) 0 p = true) : uniqI (citL p (ndIdx p)) = citR G p := by
  refine lt_ext (uniqI_lt _) ?_ fun x => ?_
  · unfold citR
    rw [List.pairwise_map]
    exact (List.Pairwise.filter _ List.pairwise_lt_range).imp fun h => by omega
  · rw [uniqI_mem, citL_mem]
    unfold citR citB
    rw [List.mem_map]
    constructor
    · rintro ⟨i, h1, h2, h3, rfl⟩
      have hr := okS_get p 0 i h1 ok
      rw [Nat.zero_add] at hr
      rw [getD_stp h1] at h3 ⊢
      obtain ⟨c1, c2, -⟩ := rightB_cite hr h3
      refine ⟨p[i].2.1.toNat, ?_, by omega⟩
      rw [List.mem_filter, List.mem_range]
      refine ⟨by omega, ?_⟩
      rw [List.any_eq_true]
      refine ⟨i, List.mem_range.2 h1, ?_⟩
      rw [getD_stp h1]
      simp only [Bool.and_eq_true, decide_eq_true_eq]
      exact ⟨h2, h3, by omega⟩
    · rintro ⟨g, hg, rfl⟩
      rw [List.mem_filter, List.any_eq_true] at hg
      obtain ⟨-, i, hi, hb⟩ := hg
      simp only [Bool.and_eq_true, decide_eq_true_eq] at hb
      exact ⟨i, List.mem_range.1 hi, hb.1, hb.2.1, hb.2.2⟩
/-- what Cited answers -/
def citedE (G : Int) (p : List Stp) : List Int × Int := if proofB G p = true then (citR G.toNat p, 0) else ([], 1)
end Go.Proofs.Ytljkojpooajlhaa

/- slices.Sort and slices.Compact at numbers, off the shelf, on a list of the call's own. -/
namespace Go.Proofs.Ytljkojpooajlhaa
open Go Go.RowKit

theorem below_grow {B : Nat} {w0 w : World} (h : Below B w0 w) (hB : B ≤ w.heap.size) (os : Array Obj) : Below B w0 (Go.Sort.grow w os) :=
  ⟨h.os, h.tape, h.output, by simpa [Go.Sort.grow] using Nat.le_trans h.size (Nat.le_add_right _ _), fun k hk => by
    rw [← h.block k hk]
    simp only [Go.Sort.grow]
    rw [Array.getElem?_append_left (by omega)]⟩
theorem ownsRow_grow {w : World} {base : Nat} {e : TypeId} {v : Value} {n : Nat} {xs : List Value} (h : w.ownsRow base e 1 v n xs) (os : Array Obj) : (Go.Sort.grow w os).ownsRow base e 1 v n xs := by
  refine ⟨h.1, ?_⟩
  rcases h.2 with h2 | ⟨g, cap, cur, e0, hb, hg, rest⟩
  · exact .inl h2
  · refine .inr ⟨g, cap, cur, e0, hb, ?_, rest⟩
    simp only [Go.Sort.grow]
    rw [Array.getElem?_append_left (Array.getElem?_eq_some_iff.1 hg).1]; exact hg
theorem sortI_any {w : World} {base : Nat} {v : Value} {l : List Int} (h : OwnI w base v l) (hl : l.length ≤ 1000000) (hb : base ≤ w.heap.size) :
    Calls Try.prog 37 #[v] w fun e w' => e = .returned (.tuple #[]) ∧ OwnI w' base v (l.mergeSort fun x y => decide (x ≤ y)) ∧ Below base w w' := by
  obtain ⟨ho, hr⟩ := OwnL.row h
  by_cases hv : v = .slice none 0 0
  · subst hv
    have h0 : l = [] := by
      obtain ⟨a, c, e, -⟩ := OwnI.ints h
      simp only [Value.slice.injEq] at e
      exact List.length_eq_zero_iff.1 e.2.1.symm
    subst h0
    refine (Any.slices_Sort_int_none sh189 none 0 w).mono ?_
    rintro e w' ⟨rfl, rfl⟩
    exact ⟨rfl, by simpa using h, Below.refl _ _⟩
  · obtain ⟨g, cap, rfl, hg, hlt, hn, hm, hll, hH⟩ := Lib.holds_of_ownsRow ho hv
    refine (Any.slices_Sort_int sh189 g 0 cap l w hH hlt (by omega)).mono ?_
    rintro e w' ⟨rfl, n, os, rfl⟩
    have hml : (l.mergeSort fun x y => decide (x ≤ y)).length = l.length := List.length_mergeSort _
    have hp := Lib.ownsRow_putRow (q := n) (k := l.length) (ys := l.mergeSort fun x y => decide (x ≤ y)) ho hml (Nat.le_refl _)
    rw [List.take_of_length_le (by omega)] at hp
    have hbb := Lib.below_putRow (enc := Value.int .i64) (q := n) (d := (l.mergeSort fun x y => decide (x ≤ y)).toArray) (Below.refl base w) hg
    refine ⟨rfl, OwnL.of_row ?_ (fun x hx => hr x (List.mem_mergeSort.1 hx)), below_grow hbb (Nat.le_trans hb hbb.size) os⟩
    rw [hml]
    exact ownsRow_grow hp os
end Go.Proofs.Ytljkojpooajlhaa

/- Walks: Equal, Clone of []int; tongue.ascending, order. -/
namespace Go.Proofs.Ytljkojpooajlhaa
open Go Go.RowKit Go.Maps

theorem EqualI_any {S1 S2 : Nat → Prop} (a1 a2 : Option Addr) (c1 c2 : Nat) (l1 l2 : List Int) (w : World) (h1 : Ints S1 w a1 c1 l1) (h2 : Ints S2 w a2 c2 l2) :
    Calls Try.prog 23 #[.slice a1 l1.length c1, .slice a2 l2.length c2] w fun e w' => e = .returned (.bool (decide (l1 = l2))) ∧ Drew w w' := by
  have m1 := h1.le
  have m2 := h2.le
  by_cases hl : l1.length = l2.length
  · have hlH := Lib.hid hl
    go_enter Try.func23, Try.ntmps23
    go_wp2
    clear hl
    go_loopw [13] (fun i wr => ∃ k : Nat, k ≤ l1.length ∧ i = .int .i64 k ∧ l1.take k = l2.take k ∧ Drew w wr) (fun i _ => l1.length - (intOf i).toNat)
    case atStart => exact ⟨0, by omega, rfl, rfl, .refl _⟩
    case round =>
      obtain ⟨k, hk, rfl, ht, n, rfl⟩ := hrel
      have htH := Lib.hid ht
      clear ht
      have hle := hlH.out
      by_cases hlt : k < l1.length
      · have hlt2 : k < l2.length := by omega
        obtain ⟨b1, o1, rfl, -, q1, -⟩ := h1.int k hlt
        obtain ⟨b2, o2, rfl, -, q2, -⟩ := h2.int k hlt2
        clear h1 h2 hle
        go_wp2
        go_quiet (fail)
        all_goals go_wp2
        · go_ret
          exact ⟨ret_bool (decide_eq_false (take_ne hlt hlt2 (by assumption))).symm, .mk2 _ _ _⟩
        · exact ⟨⟨k + 1, by omega, by go_num, take_succ_eq hlt hlt2 htH.out (by assumption), .mk _ _⟩, by simp [intOf]; omega⟩
      · clear hle
        have hk2 : ¬ k < l2.length := by have := hlH.out; omega
        go_wp2
        go_ret
        exact ⟨ret_bool (decide_eq_true (take_all_eq hlH.out hk2 htH.out)).symm, .mk _ _⟩
  · go_enter Try.func23, Try.ntmps23
    have hb := int_ne hl
    go_wp2
    go_ret
    exact ⟨ret_bool (decide_eq_false (fun e => hl (by rw [e]))).symm, .refl _⟩

set_option maxHeartbeats 400000 in
theorem CloneI_any {S : Nat → Prop} (a : Option Addr) (c : Nat) (l : List Int) (w : World) (h : Ints S w a c l) (hl : l.length ≤ lim) :
    Calls Try.prog 36 #[.slice a l.length c] w (retOwn w l) := by
  cases a with
  | none =>
    obtain ⟨rfl, rfl⟩ := h.nil rfl
    have hnl := fun W => Lib.run_eql_slice_nil (P := Try.prog) W 34 3 none 0 0 0 0 Try.underlying34
    go_enter Try.func36, Try.ntmps36
    go_wp2_with fail
    go_ret
    exact ⟨_, rfl, .nil _ _ _ _ _, .refl _ _⟩
  | some a =>
    have hnl := fun W => Lib.run_eql_slice_nil (P := Try.prog) W 34 3 (some a) l.length c 0 0 Try.underlying34
    obtain ⟨v', w', hrun, ho, hg, -, -⟩ := (OwnL.made intE (fun _ => False) w w.heap.size 3 (Nat.le_refl _)).append_run (P := Try.prog) (t := 34) (ty := 34) Try.underlying34 infoInt rfl (h.below (below1 w (.cells #[] 3))) (fun _ _ _ h => h) (by unfold lim at hl; simp; omega) (by unfold lim at hl; unfold big; simp; omega) (by simp)
    have hB : Below w.heap.size w w' := (below1 w (.cells #[] 3)).grown hg (by simp) (fun k e => by simp [Value.ownBlock] at e; omega)
    rw [List.nil_append] at ho
    clear hg
    have hrunH := Lib.hid hrun
    clear hrun
    go_enter Try.func36, Try.ntmps36
    go_wp2_with (at_builtin; refine wpList_append_run rfl _ _ _ rfl rfl rfl hrunH.out ?_)
    go_ret
    exact ⟨_, rfl, ho, hB⟩

theorem OwnI.pushU {w wr W : World} {out : Value} {l l' : List Int} (ho : OwnI wr w.heap.size out l) (hB : Below w.heap.size w wr) (hb : Below wr.heap.size wr W) {x : Int} (hx : inRange x) (hl' : l' = l ++ [x]) (hl : l.length ≤ 1000000) :
    ∃ v' w', RowKit.Hid ((Builtin.append_ #[34, 34] 34 #[out, .slice (some ⟨W.heap.size, 0, none⟩) 1 1]).run Try.prog (W.alloc (.cells #[.int .i64 x] 3)) = .ok v' w') ∧ RowKit.Hid (OwnI w' w.heap.size v' l') ∧ RowKit.Hid (Below w.heap.size w w') := by
  have hB2 := bcall hB hb
  have ho1 := OwnL.call ho hb
  obtain ⟨v', w', hrun, ho', hg, -⟩ := ho1.push (P := Try.prog) (t := 34) (ty := 34) Try.underlying34 infoInt rfl (vs := [.int .i64 x]) (x := x) ⟨rfl, hx⟩ (by omega) (by unfold big; omega) hB2.size
  exact ⟨v', w', Lib.hid hrun, Lib.hid (by rw [hl']; exact ho'), Lib.hid (hB2.grown hg hB2.size (fun k e => (ho1.lt k e).1))⟩
def ascRel (n : Nat) (w : World) (out i : Value) (wr : World) : Prop := ∃ k : Nat, i = .int .i64 k ∧ k ≤ n ∧ OwnI wr w.heap.size out (ascL k) ∧ Below w.heap.size w wr
set_option maxRecDepth 20000 in
theorem ascending_any (n : Nat) (hn : n ≤ 100000) (w : World) : Calls Try.prog 38 #[.int .i64 n] w (retOwn w (ascL n)) := by
  go_enter Try.func38, Try.ntmps38
  go_wp2_with fail
  go_loopw [3, 6] (fun out i wr => ascRel n w out i wr) (fun _ i _ => n - (intOf i).toNat)
  case atStart => exact ⟨0, rfl, Nat.zero_le _, .nil _ _ _ _ _, .refl _ _⟩
  case round =>
    obtain ⟨k, rfl, hk, ho, hB⟩ := hrel
    by_cases hlt : k < n
    · obtain ⟨v', w', hrun', ho', hB'⟩ := OwnI.pushU (l' := ascL (k + 1)) ho hB (.refl _ _) (x := (k : Int)) (by unfold inRange; omega) (ascL_succ k) (by rw [ascL_len]; omega)
      clear ho hB
      go_wp2_with (at_builtin; refine wpList_append_run rfl _ _ _ rfl rfl rfl hrun'.out ?_)
      go_roundw
      case rel => exact ⟨k + 1, by go_num, hlt, ho'.out, hB'.out⟩
      case measure => simp [intOf]; omega
    · have hkn : k = n := by omega
      subst hkn
      have hoH := Lib.hid ho
      have hBH := Lib.hid hB
      clear ho hB
      go_wp2_with fail
      go_ret
      exact ⟨_, rfl, hoH.out, hBH.out⟩
set_option maxRecDepth 20000 in
theorem order_any {S : Nat → Prop} (a : Option Addr) (c : Nat) (l : List Int) (w : World) (h : Ints S w a c l) (hl : l.length ≤ 1000) :
    Calls Try.prog 25 #[.slice a l.length c] w fun e w' => e = .returned (.bool (ordB l)) ∧ Below w.heap.size w w' := by
  have m1 := h.le
  have c1 := Lib.hid (CloneI_any a c l w h (by unfold lim; omega))
  have c2 := Lib.hid (fun (W : World) (v : Value) (ho : OwnI W w.heap.size v l) (hb : w.heap.size ≤ W.heap.size) => sortI_any ho (by omega) hb)
  have c3 := Lib.hid (fun W => ascending_any l.length (by omega) W)
  have hsl : (l.mergeSort fun x y => decide (x ≤ y)).length = l.length := (List.mergeSort_perm l _).length_eq
  have hso : decide ((l.mergeSort fun x y => decide (x ≤ y)) = ascL l.length) = ordB l := by
    refine ord_sorted (List.mergeSort_perm l _) ?_
    have := List.pairwise_mergeSort (le := fun x y : Int => decide (x ≤ y)) (fun a b c h1 h2 => by simp at *; omega) (fun a b => by simp; omega) l
    exact this.imp (fun h => by simpa using h)
  have hal := ascL_len l.length
  obtain ⟨m, hm⟩ : ∃ m, (l.mergeSort fun x y => decide (x ≤ y)) = m := ⟨_, rfl⟩
  obtain ⟨q, hq⟩ : ∃ q, ascL l.length = q := ⟨_, rfl⟩
  rw [hm] at hsl hso
  rw [hq] at hso hal
  simp only [hm] at c2
  simp only [hq] at c3
  obtain ⟨d, hd⟩ : ∃ d, ordB l = d := ⟨_, rfl⟩
  rw [hd] at hso ⊢
  clear h hm hq hd
  go_enter Try.func25, Try.ntmps25
  go_wp2_with fail
  (with_reducible refine c1.out.mono ?_)
  rintro e w1 ⟨v1, rfl, ho1, hb1⟩
  have c21 := c2.out w1 v1 ho1 hb1.size
  obtain ⟨a1, d1, rfl, hI1⟩ := OwnI.ints ho1
  have c2H := Lib.hid c21
  have hb1H := Lib.hid hb1
  clear ho1 hI1 c21 hb1 c1 c2
  go_wp2_with fail
  (with_reducible refine c2H.out.mono ?_)
  rintro e w2 ⟨rfl, ho2, hb2⟩
  obtain ⟨a2, d2, he, hI2⟩ := OwnI.ints ho2
  rw [hsl] at he
  simp only [Value.slice.injEq] at he
  obtain ⟨rfl, -, rfl⟩ := he
  have hI2H := Lib.hid hI2
  have hb2H := Lib.hid (hb1H.out.trans hb2)
  clear ho2 hI2 c2H hb1H hb2
  go_wp2_with fail
  (with_reducible refine (c3.out _).mono ?_)
  rintro e w3 ⟨v3, rfl, ho3, hb3⟩
  obtain ⟨a3, d3, rfl, hI3⟩ := OwnI.ints ho3
  have ce := EqualI_any a1 a3 d1 d3 m q w3 (hI2H.out.below hb3) hI3
  rw [hsl, hal, hso] at ce
  have ceH := Lib.hid ce
  have hb3H := Lib.hid (bcall hb2H.out hb3)
  rw [hal]
  clear ho3 hI3 ce c3 hI2H hb2H hb3
  go_wp2_with fail
  (with_reducible refine ceH.out.mono ?_)
  rintro e w4 ⟨rfl, hd4⟩
  go_wp2_with fail
  go_ret
  exact ⟨rfl, bcall hb3H.out (hd4.below _)⟩
end Go.Proofs.Ytljkojpooajlhaa

/- Walks: tongue.Valid. -/
namespace Go.Proofs.Ytljkojpooajlhaa
open Go Go.RowKit Go.Maps

def wayE : Enc (Int × List Int) := pairE intE (slE intE)
abbrev WaysL (S : Nat → Prop) (w : World) (a : Option Addr) (c : Nat) (d : Ways) : Prop := Sl wayE S w a c d
theorem Sl.way {S : Nat → Prop} {w : World} {a : Option Addr} {c : Nat} {d : Ways} (h : WaysL S w a c d) (i : Nat) (hi : i < d.length) :
    ∃ b off a' c', a = some ⟨b, off, none⟩ ∧ S b ∧ w.cell? ⟨b, off + i * 2, none⟩ = some (.int .i64 d[i].1) ∧ w.cell? ⟨b, off + i * 2 + 1, none⟩ = some (.slice a' d[i].2.length c') ∧ inRange d[i].1 ∧ Ints S w a' c' d[i].2 := by
  obtain ⟨b, off, ha, hb, hl, vs, _, hv, hr⟩ := h.at1 i hi
  obtain ⟨us, ts, rfl, ⟨rfl, h1⟩, ⟨a', c', rfl, h2⟩⟩ := hr
  have h0 := hv 0 (by simp)
  have h3 := hv 1 (by simp)
  simp [wayE, pairE, slE, intE] at h0 h3
  exact ⟨b, off, a', c', ha, hb, h0, h3, h1, h2⟩
theorem validD_if {a b : Sg} {d : Ways} : validD a b d = (okSign a && (okSign b && (decide (d.length = a.length) && (decide ((d.getD 0 (0, [])).1 = 0) && (decide ((d.getD 0 (0, [])).2 = [0, 1]) && wysOk a b d d.length))))) := by
  unfold validD
  by_cases h1 : okSign a = true
  · by_cases h3 : d.length = a.length
    · by_cases h4 : wysOk a b d d.length = true
      · rw [first_way h1 h3 h4, h4]
        simp only [Bool.true_and, Bool.and_true]
      · have h4' : wysOk a b d d.length = false := by simpa using h4
        rw [h4']
        simp only [Bool.and_false, Bool.false_and]
    · rw [decide_eq_false h3]
      simp only [Bool.and_false, Bool.false_and]
  · have h1' : okSign a = false := by simpa using h1
    rw [h1', Bool.false_and, Bool.false_and]
def vwRel (a b : Sg) (d : Ways) (w : World) (i : Value) (wr : World) : Prop := ∃ k : Nat, i = .int .i64 k ∧ k ≤ d.length ∧ wysOk a b d k = true ∧ Below w.heap.size w wr
theorem keepV {W1 w1 w2 : World} {p1 p2 p3 p4 : Addr} {v1 v2 v3 v4 : Value} (h : Below W1.heap.size W1 w1 ∧ w1.cell? p1 = some v1 ∧ w1.cell? p2 = some v2 ∧ w1.cell? p3 = some v3 ∧ w1.cell? p4 = some v4) (hb : Below w1.heap.size w1 w2) :
    Below W1.heap.size W1 w2 ∧ w2.cell? p1 = some v1 ∧ w2.cell? p2 = some v2 ∧ w2.cell? p3 = some v3 ∧ w2.cell? p4 = some v4 :=
  ⟨bcall h.1 hb, cell_later hb h.2.1, cell_later hb h.2.2.1, cell_later hb h.2.2.2.1, cell_later hb h.2.2.2.2⟩
set_option maxRecDepth 20000 in
set_option maxHeartbeats 4000000 in
theorem tValid_any {S1 S2 S3 : Nat → Prop} (a1 a2 a3 : Option Addr) (c1 c2 c3 : Nat) (a b : Sg) (d : Ways) (w : World) (h1 : Sign S1 w a1 c1 a) (h2 : Sign S2 w a2 c2 b) (h3 : WaysL S3 w a3 c3 d) (hda : ∀ x ∈ d, x.2.length ≤ 1000) :
    Calls Try.prog 12 #[.slice a1 a.length c1, .slice a2 b.length c2, .slice a3 d.length c3] w fun e w' => e = .returned (.bool (validD a b d)) ∧ Below w.heap.size w w' := by
  have m1 := h1.le
  have m2 := h2.le
  have m3 := h3.le
  have v1 := Lib.hid (ValidSign_any a1 c1 a w h1)
  have v2 := Lib.hid (fun W (hb : Below w.heap.size w W) => ValidSign_any a2 c2 b W (h2.below hb))
  have hV := validD_if (a := a) (b := b) (d := d)
  cases hx : okSign a with
  | false =>
    rw [hx] at v1 hV
    have hR := Lib.hid hV
    clear h1 h2 h3 hda hV hx
    go_enter Try.func12, Try.ntmps12
    go_wp2_with fail
    refine v1.out.mono ?_
    rintro e w1 ⟨rfl, hb1⟩
    go_wp2_with fail
    go_ret
    rw [hR.out]
    exact ⟨rfl, hb1⟩
  | true =>
  rw [hx] at v1 hV
  cases hy : okSign b with
  | false =>
    rw [hy] at v2 hV
    have hR := Lib.hid hV
    clear h1 h2 h3 hda hV hx hy
    go_enter Try.func12, Try.ntmps12
    go_wp2_with fail
    refine v1.out.mono ?_
    rintro e w1 ⟨rfl, hb1⟩
    go_wp2_with fail
    refine (v2.out _ hb1).mono ?_
    rintro e w2 ⟨rfl, hb2⟩
    go_wp2_with fail
    go_ret
    rw [hR.out]
    exact ⟨rfl, bcall hb1 hb2⟩
  | true =>
  rw [hy] at v2 hV
  by_cases hl : d.length = a.length
  case neg =>
    rw [decide_eq_false hl] at hV
    have hn : ((d.length : Int) != (a.length : Int)) = true := by simp; omega
    have hR := Lib.hid hV
    clear h1 h2 h3 hda hV hx hy hl
    go_enter Try.func12, Try.ntmps12
    go_wp2_with fail
    refine v1.out.mono ?_
    rintro e w1 ⟨rfl, hb1⟩
    go_wp2_with fail
    refine (v2.out _ hb1).mono ?_
    rintro e w2 ⟨rfl, hb2⟩
    go_wp2_with fail
    go_ret
    rw [hR.out]
    exact ⟨rfl, bcall hb1 hb2⟩
  rw [decide_eq_true hl] at hV
  have hn : ((d.length : Int) != (a.length : Int)) = false := by simp; omega
  have hap := okSign_len hx
  have hd0 : 0 < d.length := by omega
  obtain ⟨b0, o0, a0, c0, rfl, -, q0, q1, -, hI0⟩ := h3.way 0 hd0
  rw [show o0 + 0 * 2 = o0 by omega] at q0 q1
  have e0 : d.getD 0 (0, []) = d[0] := by rw [List.getD_eq_getElem?_getD, List.getElem?_eq_getElem hd0]; rfl
  rw [e0] at hV
  obtain ⟨x0, hx0⟩ : ∃ x, d[0] = x := ⟨_, rfl⟩
  rw [hx0] at q0 q1 hI0 hV
  obtain ⟨t0, l0⟩ := x0
  dsimp only at q0 q1 hI0 hV
  by_cases ht0 : t0 = 0
  case neg =>
    rw [decide_eq_false ht0] at hV
    have hn2 : (t0 != 0) = true := by simpa using ht0
    have q0L := fun W (hb : Below w.heap.size w W) => cell_later hb q0
    have q0H := Lib.hid q0L
    have hR := Lib.hid hV
    clear h1 h2 h3 hda hV hx hy hl ht0 hI0 q1 q0L q0
    go_enter Try.func12, Try.ntmps12
    go_wp2_with fail
    refine v1.out.mono ?_
    rintro e w1 ⟨rfl, hb1⟩
    go_wp2_with fail
    refine (v2.out _ hb1).mono ?_
    rintro e w2 ⟨rfl, hb2⟩
    have q2 := q0H.out w2 (bcall hb1 hb2)
    go_wp2_with fail
    go_ret
    rw [hR.out]
    exact ⟨rfl, bcall hb1 hb2⟩
  subst ht0
  rw [decide_eq_true rfl] at hV
  have cE := fun W (hb : Below w.heap.size w W) => EqualI_any a0 (some ⟨W.heap.size, 0, none⟩) c0 2 l0 [0, 1] (W.alloc (.cells #[.int .i64 0, .int .i64 1] 3)) ((hI0.below hb).below (below1 W _)) (Ints.new W [0, 1] 3 (by decide) (by unfold inRange; decide))
  obtain ⟨z, hz⟩ : ∃ z, decide (l0 = [0, 1]) = z := ⟨_, rfl⟩
  rw [hz] at hV
  simp only [hz] at cE
  have qL := fun W (hb : Below w.heap.size w W) => And.intro (cell_later hb q0) (cell_later hb q1)
  have qH := Lib.hid qL
  have cEH := Lib.hid cE
  have ml0 := hI0.le
  cases z with
  | false =>
    have hR := Lib.hid hV
    clear h1 h2 h3 hda hV hx hy hl hI0 q1 qL q0 cE hz
    go_enter Try.func12, Try.ntmps12
    go_wp2_with fail
    refine v1.out.mono ?_
    rintro e w1 ⟨rfl, hb1⟩
    go_wp2_with fail
    refine (v2.out _ hb1).mono ?_
    rintro e w2 ⟨rfl, hb2⟩
    have hB2 := bcall hb1 hb2
    obtain ⟨q0, q1⟩ := qH.out w2 hB2
    have cc := Lib.hid (cEH.out w2 hB2)
    go_wp2_with fail
    refine cc.out.mono ?_
    rintro e w3 ⟨rfl, hd3⟩
    go_wp2_with fail
    go_ret
    rw [hR.out]
    exact ⟨rfl, bcall (bcall hB2 (below1 w2 _)) (hd3.below _)⟩
  | true =>
  obtain ⟨bA, oA, rfl, -, -⟩ := h1.sym 0 (by omega)
  have hbp := okSign_len hy
  obtain ⟨bB, oB, rfl, -, -⟩ := h2.sym 0 (by omega)
  have hlen : d.length ≤ 12 := by omega
  simp only [Bool.true_and] at hV
  have hok : wysOk a b d d.length = true → validD a b d = true := fun h => by rw [hV, h]
  have hno : ∀ k, k < d.length → wayOk a b k (d.getD k (0, [])) = false → validD a b d = false := fun k hk h => by rw [hV]; exact wysOk_no h hk
  have hokH := Lib.hid hok
  have hnoH := Lib.hid hno
  have h1H := Lib.hid h1
  have h2H := Lib.hid h2
  have h3H := Lib.hid h3
  have hdaH := Lib.hid hda
  have hlH := Lib.hid hl
  have hwb : IntKind.i64.wrap ((b.length : Int) - 1) = (b.length : Int) - 1 := IntWalk.i64_in _ (by omega)
  clear h1 h2 h3 hda hV hx hy hl hI0 q1 qL q0 cE hz hok hno e0 hx0
  go_enter Try.func12, Try.ntmps12
  go_wp2_with fail
  refine v1.out.mono ?_
  rintro e w1 ⟨rfl, hb1⟩
  go_wp2_with fail
  refine (v2.out _ hb1).mono ?_
  rintro e w2 ⟨rfl, hb2⟩
  have hB2 := bcall hb1 hb2
  obtain ⟨q0, q1⟩ := qH.out w2 hB2
  have cc := Lib.hid (cEH.out w2 hB2)
  go_wp2_with fail
  refine cc.out.mono ?_
  rintro e w3 ⟨rfl, hd3⟩
  have hB3 := Lib.hid (bcall (bcall hB2 (below1 w2 _)) (hd3.below _))
  clear hb1 hb2 hB2 q0 q1 cc hd3 v1 v2 cEH qH
  go_wp2_with fail
  go_loopw [42] (fun i wr => vwRel a b d w i wr) (fun i _ => d.length - (intOf i).toNat)
  case atStart => exact ⟨0, rfl, Nat.zero_le _, rfl, hB3.out⟩
  case round =>
    obtain ⟨k, rfl, hk, hwk, hB⟩ := hrel
    by_cases hlt : k < d.length
    · have hka : k < a.length := by have := hlH.out; omega
      obtain ⟨b3, o3, ak, ck, he, -, qt, qa, -, hIk⟩ := (h3H.out.below hB).way k hlt
      simp only [Option.some.injEq, Addr.mk.injEq, and_true] at he
      obtain ⟨rfl, rfl⟩ := he
      obtain ⟨bA2, oA2, he, -, -, rA, -, -⟩ := (h1H.out.below hB).sym k hka
      simp only [Option.some.injEq, Addr.mk.injEq, and_true] at he
      obtain ⟨rfl, rfl⟩ := he
      have hdk := hdaH.out _ (List.getElem_mem hlt)
      have ek : d.getD k (0, []) = d[k] := by rw [List.getD_eq_getElem?_getD, List.getElem?_eq_getElem hlt]; rfl
      have hnk := hnoH.out k hlt
      have hyk : wayOk a b k (d.getD k (0, [])) = true → wysOk a b d (k + 1) = true := fun h => by rw [wysOk, hwk, h]; rfl
      have eA : a[k].2 = arAt a (k : Int) := by unfold arAt; rw [Int.toNat_natCast, List.getD_eq_getElem?_getD, List.getElem?_eq_getElem hka]; rfl
      rw [ek] at hnk hyk
      rw [eA] at rA
      obtain ⟨x, hxk⟩ : ∃ x, d[k] = x := ⟨_, rfl⟩
      rw [hxk] at qt qa hIk hdk hnk hyk
      obtain ⟨T, A⟩ := x
      dsimp only at qt qa hIk hdk
      obtain ⟨rk, hrk⟩ : ∃ r, arAt a (k : Int) = r := ⟨_, rfl⟩
      rw [hrk] at rA
      obtain ⟨W1, hW1⟩ : ∃ W1, wr.alloc (.cells #[.int .i64 T, .slice ak A.length ck] 44) = W1 := ⟨_, rfl⟩
      have hb1 : Below wr.heap.size wr W1 := by rw [← hW1]; exact below1 _ _
      have p0 : W1.cell? ⟨wr.heap.size, 0, none⟩ = some (.int .i64 T) := by rw [← hW1]; clear hW1; go_simp
      have p1 : W1.cell? ⟨wr.heap.size, 1, none⟩ = some (.slice ak A.length ck) := by rw [← hW1]; clear hW1; go_simp
      have pA := cell_later hb1 rA
      have cw := Lib.hid (fun W => (twithin_any T 0 ((b.length : Int) - 1) W).mono (fun e w' h => And.intro h.1 (h.2 ▸ Drew.refl W : Drew W w')))
      have hBW := Lib.hid (bcall hB hb1)
      have mA := hIk.le
      cases hin : (decide (0 ≤ T) && decide (T ≤ (b.length : Int) - 1)) with
      | false =>
        rw [hin] at cw
        have hf := Lib.hid (hnk (by unfold wayOk; rw [hin]; rfl))
        clear hB hIk hnk hyk hxk hdk hwk p1 pA rA hb1 ek eA hrk hin
        go_wp2_with fail
        go_quiet ((go_at_call 24; exact quiet_drew (cw.out _)))
        all_goals go_wp2_with fail
        all_goals go_ret
        rw [hf.out]
        exact ⟨rfl, bcall hBW.out ((Drew.mk _ _).below _)⟩
      | true =>
        rw [hin] at cw
        have hin' : 0 ≤ T ∧ T ≤ (b.length : Int) - 1 := by simpa using hin
        obtain ⟨n, rfl⟩ : ∃ n : Nat, T = (n : Int) := ⟨T.toNat, by omega⟩
        have hnb : n < b.length := by omega
        obtain ⟨bB2, oB2, he, -, -, rB, -, -⟩ := (h2H.out.below hB).sym n hnb
        simp only [Option.some.injEq, Addr.mk.injEq, and_true] at he
        obtain ⟨rfl, rfl⟩ := he
        have eB : b[n].2 = arAt b (n : Int) := by unfold arAt; rw [Int.toNat_natCast, List.getD_eq_getElem?_getD, List.getElem?_eq_getElem hnb]; rfl
        rw [eB] at rB
        have pB := cell_later hb1 rB
        have hwo : wayOk a b k ((n : Int), A) = (decide (arAt b (n : Int) = rk) && (decide ((A.length : Int) = rk) && ordB A)) := by unfold wayOk; rw [hin, hrk]; rfl
        obtain ⟨rb, hrb⟩ : ∃ r, arAt b (n : Int) = r := ⟨_, rfl⟩
        rw [hrb] at hwo rB pB
        rw [hwo] at hnk hyk
        by_cases h1e : rb = rk
        case neg =>
          have hne : (rb != rk) = true := by simpa using h1e
          have hf := Lib.hid (hnk (by rw [decide_eq_false h1e]; rfl))
          clear hB hIk hnk hyk hxk hdk hwk p1 rA rB hb1 ek eA eB hrk hrb hin hin' hwo h1e
          go_wp2_with fail
          go_quiet ((go_at_call 24; exact quiet_drew (cw.out _)))
          all_goals go_wp2_with fail
          all_goals go_ret
          rw [hf.out]
          exact ⟨rfl, bcall hBW.out ((Drew.mk _ _).below _)⟩
        have hne : (rb != rk) = false := by simpa using h1e
        rw [decide_eq_true h1e] at hnk hyk
        by_cases h2e : (A.length : Int) = rk
        case neg =>
          have hne2 : ((A.length : Int) != rk) = true := by simpa using h2e
          have hf := Lib.hid (hnk (by rw [decide_eq_false h2e]; rfl))
          clear hB hIk hnk hyk hxk hdk hwk rA rB hb1 ek eA eB hrk hrb hin hin' hwo h1e h2e
          go_wp2_with fail
          go_quiet ((go_at_call 24; exact quiet_drew (cw.out _)))
          all_goals go_wp2_with fail
          all_goals go_ret
          rw [hf.out]
          exact ⟨rfl, bcall hBW.out ((Drew.mk _ _).below _)⟩
        have hne2 : ((A.length : Int) != rk) = false := by simpa using h2e
        rw [decide_eq_true h2e] at hnk hyk
        simp only [Bool.true_and] at hnk hyk
        have cO := fun W (hb : Below W1.heap.size W1 W) => order_any ak ck A W ((hIk.below hb1).below hb) hdk
        obtain ⟨o, ho⟩ : ∃ o, ordB A = o := ⟨_, rfl⟩
        rw [ho] at hnk hyk
        simp only [ho] at cO
        have hbd : Below W1.heap.size W1 W1.drew := Below.drew (.refl W1.heap.size _)
        have hk0 : Below W1.heap.size W1 W1.drew ∧ W1.drew.cell? ⟨wr.heap.size, 0, none⟩ = some (.int .i64 (n : Int)) ∧ W1.drew.cell? ⟨wr.heap.size, 1, none⟩ = some (.slice ak A.length ck) ∧ W1.drew.cell? ⟨bA, oA + k * 2 + 1, none⟩ = some (.int .i64 rk) ∧ W1.drew.cell? ⟨bB, oB + n * 2 + 1, none⟩ = some (.int .i64 rb) :=
          ⟨hbd, cell_later hbd p0, cell_later hbd p1, cell_later hbd pA, cell_later hbd pB⟩
        have cOH := Lib.hid cO
        have hnkH := Lib.hid hnk
        have hykH := Lib.hid hyk
        clear hB hIk hnk hyk hxk hdk hwk rA rB ek eA eB hrk hrb hin hin' hwo h1e h2e cO ho hbd p0 p1 pA pB
        go_wp2_with fail
        go_region_held3 (fun w' => Below W1.heap.size W1 w' ∧ w'.cell? ⟨wr.heap.size, 0, none⟩ = some (.int .i64 (n : Int)) ∧ w'.cell? ⟨wr.heap.size, 1, none⟩ = some (.slice ak A.length ck) ∧ w'.cell? ⟨bA, oA + k * 2 + 1, none⟩ = some (.int .i64 rk) ∧ w'.cell? ⟨bB, oB + n * 2 + 1, none⟩ = some (.int .i64 rb))
          ((first | exact hk0 | exact keepV ‹_› (hdW.below _) | exact keepV ‹_› hbO))
          ((first
            | (go_at_call 24; (with_reducible refine (cw.out _).mono ?_); rintro e wW ⟨rfl, hdW⟩)
            | (go_at_call 25; (with_reducible refine (cOH.out _ ?_).mono ?_); exact (And.left ‹_›); rintro e wO ⟨rfl, hbO⟩)))
        have hBO := And.left (‹Below W1.heap.size W1 wO ∧ _›)
        have hBF := Lib.hid (bcall hBW.out hBO)
        clear hBO hbO hdW hk0 cOH cw hBW
        cases o with
        | false =>
          have hf := Lib.hid (hnkH.out rfl)
          clear hnkH hykH
          go_wp2_with fail
          go_ret
          rw [hf.out]
          exact ⟨rfl, hBF.out⟩
        | true =>
          have hf := Lib.hid (hykH.out rfl)
          clear hnkH hykH
          go_wp2_with fail
          go_roundw
          case rel => exact ⟨k + 1, by go_num, by omega, hf.out, hBF.out⟩
          case measure => simp [intOf]; omega
    · have hkk : k = d.length := by omega
      subst hkk
      have hf := Lib.hid (hokH.out hwk)
      have hBH := Lib.hid hB
      clear hB hwk
      go_wp2_with fail
      go_ret
      rw [hf.out]
      exact ⟨rfl, hBH.out⟩
end Go.Proofs.Ytljkojpooajlhaa

/- Walks: the closure of tongue.carried. -/
namespace Go.Proofs.Ytljkojpooajlhaa
open Go Go.RowKit Go.Maps

theorem OwnI.appU {T : Nat → Prop} {w wr W : World} {out : Value} {l l2 l' : List Int} (ho : OwnI wr w.heap.size out l) (hB : Below w.heap.size w wr) (hb : Below wr.heap.size wr W) {a : Option Addr} {c : Nat} (hx : Ints T W a c l2) (hl' : l' = l ++ l2) (hl : l.length ≤ 1000) (hl2 : l2.length ≤ 1000) :
    ∃ v' w', RowKit.Hid ((Builtin.append_ #[35, 35] 35 #[out, .slice a l2.length c]).run Try.prog W = .ok v' w') ∧ RowKit.Hid (OwnI w' w.heap.size v' l') ∧ RowKit.Hid (Below w.heap.size w w') := by
  have hB2 := bcall hB hb
  have ho1 := OwnL.call ho hb
  obtain ⟨v', w', hrun, ho', hg, -⟩ := ho1.append_run (P := Try.prog) (t := 35) (ty := 35) Try.underlying35 infoInt rfl hx (fun _ _ _ h => h) (by omega) (by unfold big; omega) hB2.size
  exact ⟨v', w', Lib.hid hrun, Lib.hid (by rw [hl']; exact ho'), Lib.hid (hB2.grown hg hB2.size (fun k e => (ho1.lt k e).1))⟩
theorem flat_le {A : List (List Int)} {n : Nat} (h : ∀ u ∈ A, u.length ≤ n) : A.flatten.length ≤ A.length * n := by
  induction A with
  | nil => simp
  | cons x A ih =>
    have h1 := h x (by simp)
    have h2 := ih (fun u hu => h u (by simp [hu]))
    rw [List.flatten_cons, List.length_append, List.length_cons, Nat.succ_mul]
    omega
abbrev caV (bt ba bs bw bd : Nat) : Value := .func (.func 30) #[] #[.pointer (some ⟨bt, 0, none⟩), .pointer (some ⟨ba, 0, none⟩), .pointer (some ⟨bs, 0, none⟩), .pointer (some ⟨bw, 0, none⟩), .pointer (some ⟨bd, 0, none⟩)]
/-- the boxes of a call of carried -/
structure CBox (wI : World) (bt ba bs bw bd : Nat) (a1 a2 a3 : Option Addr) (c1 c2 c3 : Nat) (s : Sg) (t : List Int) (d : Ways) : Prop where
  ct : wI.cell? ⟨bt, 0, none⟩ = some (.slice a2 t.length c2)
  cs : wI.cell? ⟨bs, 0, none⟩ = some (.slice a1 s.length c1)
  cw : wI.cell? ⟨bw, 0, none⟩ = some (caV bt ba bs bw bd)
  cd : wI.cell? ⟨bd, 0, none⟩ = some (.slice a3 d.length c3)
  nt : bt ≠ ba
  ns : bs ≠ ba
  nw : bw ≠ ba
  nd : bd ≠ ba
  sg : Sign (fun b => b ≠ ba) wI a1 c1 s
  tm : Ints (fun b => b ≠ ba) wI a2 c2 t
  wy : WaysL (fun b => b ≠ ba) wI a3 c3 d
def caRet (W : World) (ba p : Nat) (s : Sg) (d : Ways) (u : List Int) (e : Ending) (w' : World) : Prop := ∃ v, e = .returned v ∧ OwnI w' W.heap.size v (carT s d u) ∧ W.grownBy w' (some ba) ∧ AtBox w' ba (p + u.length)
def CaAt (wI : World) (bt ba bs bw bd : Nat) (s : Sg) (d : Ways) (p : Nat) (u : List Int) : Prop :=
  ∀ W, wI.grownBy W (some ba) → AtBox W ba p → Calls Try.prog 30 #[.pointer (some ⟨bt, 0, none⟩), .pointer (some ⟨ba, 0, none⟩), .pointer (some ⟨bs, 0, none⟩), .pointer (some ⟨bw, 0, none⟩), .pointer (some ⟨bd, 0, none⟩)] W (caRet W ba p s d u)
set_option maxRecDepth 20000 in
set_option maxHeartbeats 2000000 in
/-- a variable is carried -/
theorem ca_var {wI : World} {bt ba bs bw bd : Nat} {a1 a2 a3 : Option Addr} {c1 c2 c3 : Nat} {s : Sg} {t : List Int} {d : Ways} (hb : CBox wI bt ba bs bw bd a1 a2 a3 c1 c2 c3 s t d) (hl : t.length ≤ 60) {p : Nat} (hp : p < t.length) (hn : t[p] < 0) :
    CaAt wI bt ba bs bw bd s d p [t[p]] := by
  intro W hg hA
  have hAg : Agree (fun b => b ≠ ba) wI W := .of_grown hg (fun b hb e => hb (by cases e; rfl))
  obtain ⟨b2, o2, rfl, hb2, q2, r2⟩ := (hb.tm.same hAg).int p hp
  have qt := gby_cell hg hb.ct hb.nt
  have qa := hA.cell
  have fa := hA.frozen
  obtain ⟨x, hx⟩ : ∃ x, t[p] = x := ⟨_, rfl⟩
  rw [hx] at q2 hn r2 ⊢
  have hcar : carT s d [x] = [x] := carT_neg hn
  have hw0 : IntKind.i64.wrap ((p : Int) + 1) = (p : Int) + 1 := by rw [IntWalk.i64_in _ (by omega)]
  have e1 : ((p + 1 : Nat) : Int) = (p : Int) + 1 := by omega
  have hdv : decide (x < 0) = true := by simpa using hn
  have m2 := hb.tm.le
  obtain ⟨W2, hW2⟩ : ∃ W2, W.setCell ⟨ba, 0, none⟩ (.int .i64 ((p : Int) + 1)) = W2 := ⟨_, rfl⟩
  have hA2 : AtBox W2 ba (p + 1) := by rw [← hW2, ← e1]; exact hA.set (p + 1)
  have hg2 : W.grownBy W2 (some ba) := by rw [← hW2]; exact gby_setAt _ _ _
  have hlit : OwnI (W2.alloc (.cells #[.int .i64 x] 3)) W2.heap.size (.slice (some ⟨W2.heap.size, 0, none⟩) 1 1) [x] := OwnL.lit W2 [x] 3 (by intro y hy; rw [List.mem_singleton] at hy; rw [hy]; exact r2) (by show 1 ≤ maxLen; decide)
  have hA3 : AtBox (W2.alloc (.cells #[.int .i64 x] 3)) ba (p + 1) := hA2.below (below1 _ _)
  have hg3 : W.grownBy (W2.alloc (.cells #[.int .i64 x] 3)) (some ba) := gby_trans' hg2 (gby_below' (below1 _ _))
  have hA3H := Lib.hid hA3
  have hg3H := Lib.hid hg3
  have hW2H := Lib.hid hW2
  have hlH := Lib.hid (OwnL.baseMono hlit hg2.size)
  have hcH := Lib.hid hcar
  clear hb hg hA hAg hn hA2 hg2 hW2 hx e1 hA3 hg3 hlit hcar
  go_enter Try.func30, Try.ntmps30
  go_upto_region 3 with fail
  rw [hW2H.out]
  clear qt qa fa q2 hb2
  go_wp2_with fail
  go_ret
  exact ⟨_, rfl, by rw [hcH.out]; exact hlH.out, hg3H.out, hA3H.out⟩
def caRel1 (s : Sg) (d : Ways) (t : List Int) (p m ba : Nat) (W2 : World) (out i : Value) (wr : World) : Prop :=
  ∃ (j p' : Nat) (A : List (List Int)), i = .int .i64 j ∧ j ≤ m ∧ A = ((splitK s m (t.drop (p + 1))).take j).map (carT s d) ∧ skip s j (t.drop (p + 1)) = some (t.drop p') ∧ p + 1 ≤ p' ∧ p' ≤ t.length ∧ OwnL (slE intE) (fun b => b ≠ ba) wr W2.heap.size 35 out A ∧ W2.grownBy wr (some ba) ∧ AtBox wr ba p'
def caRel2 (A : List (List Int)) (T : Int) (L : List Int) (W5 : World) (out i : Value) (wr : World) : Prop :=
  ∃ q : Nat, i = .int .i64 q ∧ q ≤ L.length ∧ OwnI wr W5.heap.size out (T :: ((L.take q).map (fun k => A.getD k.toNat [])).flatten) ∧ Below W5.heap.size W5 wr
set_option maxRecDepth 20000 in
set_option maxHeartbeats 4000000 in
/-- a symbol is carried -/
theorem ca_node {wI : World} {bt ba bs bw bd : Nat} {a1 a2 a3 : Option Addr} {c1 c2 c3 : Nat} {s b : Sg} {t : List Int} {d : Ways} (hb : CBox wI bt ba bs bw bd a1 a2 a3 c1 c2 c3 s t d) (hv : validD s b d = true) (hl : t.length ≤ 60)
    {p : Nat} {r : List Int} (hsk : skip s 1 (t.drop p) = some r) (hp : p < t.length) (hn : ¬ t[p] < 0)
    (hrec : ∀ p' r', p < p' → skip s 1 (t.drop p') = some r' → CaAt wI bt ba bs bw bd s d p' (partAt s (t.drop p'))) : CaAt wI bt ba bs bw bd s d p (partAt s (t.drop p)) := by
  intro W hg hA
  obtain ⟨hok, -, hdl, -⟩ := validD_parts hv
  have hAg : Agree (fun b => b ≠ ba) wI W := .of_grown hg (fun b hb e => hb (by cases e; rfl))
  obtain ⟨b2, o2, rfl, hb2, q2, -⟩ := (hb.tm.same hAg).int p hp
  obtain ⟨hp', hc, hss⟩ := skip_drop (k := 0) hsk
  rw [Nat.zero_add] at hss
  obtain ⟨g1, -, -, -⟩ := part_args hsk
  rw [List.getD_eq_getElem?_getD, List.getElem?_eq_getElem hp, Option.getD_some] at g1
  obtain ⟨pr1, pr2, pr3⟩ := part_rest hsk (by omega)
  have hpe := partAt_eq hsk
  obtain ⟨u, hu⟩ : ∃ u, partAt s (t.drop p) = u := ⟨_, rfl⟩
  rw [hu] at g1 pr1 pr2 pr3 hpe ⊢
  have huok : okT s u = true := okT_of_skip hok hpe.2.1 (by omega)
  have hhead : u.headD 0 = t[p] := by
    have h1 := hpe.1
    rw [List.drop_eq_getElem_cons hp] at h1
    cases hu2 : u with
    | nil => rw [hu2] at pr3; simp at pr3
    | cons y z => rw [hu2, List.cons_append] at h1; rw [List.headD_cons]; exact (List.cons.inj h1).1.symm
  obtain ⟨x, hx⟩ : ∃ x, t[p] = x := ⟨_, rfl⟩
  rw [hx] at q2 hn hc hss g1 hhead
  obtain ⟨n, rfl⟩ : ∃ n : Nat, x = (n : Int) := ⟨x.toNat, by omega⟩
  have hns : n < s.length := by
    simp only [codeOk, Bool.or_eq_true, decide_eq_true_eq] at hc
    omega
  have har3 := (arC_ok hok hc).2
  have hari : s[n].2 = ((ar s (n : Int) : Nat) : Int) := by
    have harc := (arC_ok hok hc).1
    rw [← harc]
    unfold arC
    rw [if_neg (by omega), if_pos ⟨by omega, by omega⟩, Int.toNat_natCast, List.getD_eq_getElem?_getD, List.getElem?_eq_getElem hns]; rfl
  have harA : (ar s (n : Int) : Int) = arAt s (n : Int) := (ar_at hok (by omega) (by omega)).1
  obtain ⟨m, hm⟩ : ∃ m, ar s (n : Int) = m := ⟨_, rfl⟩
  rw [hm] at hss g1 har3 hari harA
  have hnd : n < d.length := by omega
  have hdn : d.getD n (0, []) = d[n] := by rw [List.getD_eq_getElem?_getD, List.getElem?_eq_getElem hnd]; rfl
  obtain ⟨w1, w2, w3, w4, w5⟩ := validD_way hv (n := (n : Int)) (by omega) (by omega)
  rw [Int.toNat_natCast, hdn] at w1 w2 w3 w4 w5
  have htx : carT s d u = d[n].1 :: (d[n].2.map (fun k => ((splitK s m (t.drop (p + 1))).map (carT s d)).getD k.toNat [])).flatten := by
    rw [carT_node huok (by rw [hhead]; omega), hhead, g1]
    unfold carA
    rw [Int.toNat_natCast, hdn]
  have hspl : (splitK s m (t.drop (p + 1))).length = m := by
    obtain ⟨f1, -, -⟩ := argsT_spec huok
    rw [g1] at f1; rw [f1, hhead, hm]
  have hlen60 : ∀ y ∈ (splitK s m (t.drop (p + 1))).map (carT s d), y.length ≤ 60 := fun y hy => by
    obtain ⟨f1, f2, f3⟩ := argsT_spec huok
    rw [g1] at f1 f2 f3
    obtain ⟨z, hz, rfl⟩ := List.mem_map.1 hy
    rw [(carT_ok hv z.length (f3 z hz) (Nat.le_refl _)).2]
    exact (okT_parts (f3 z hz)).2.2.1
  have hLr : ∀ k ∈ d[n].2, 0 ≤ k ∧ k < m := fun k hk => by
    have := mem_ascL.1 (w5.mem_iff.1 hk)
    omega
  have qt := gby_cell hg hb.ct hb.nt
  have qa := hA.cell
  have fa := hA.frozen
  have m2 := hb.tm.le
  have hw0 : IntKind.i64.wrap ((p : Int) + 1) = (p : Int) + 1 := by rw [IntWalk.i64_in _ (by omega)]
  have e1 : ((p + 1 : Nat) : Int) = (p : Int) + 1 := by omega
  have hdv : decide ((n : Int) < 0) = false := by simp
  obtain ⟨W2, hW2⟩ : ∃ W2, W.setCell ⟨ba, 0, none⟩ (.int .i64 ((p : Int) + 1)) = W2 := ⟨_, rfl⟩
  have hA2 : AtBox W2 ba (p + 1) := by rw [← hW2, ← e1]; exact hA.set (p + 1)
  have hg2 : W.grownBy W2 (some ba) := by rw [← hW2]; exact gby_setAt _ _ _
  have hI2 := gby_trans' hg hg2
  have hAg2 : Agree (fun b => b ≠ ba) wI W2 := .of_grown hI2 (fun b hb e => hb (by cases e; rfl))
  have qs2 := gby_cell hI2 hb.cs hb.ns
  obtain ⟨bS, oS, rfl, hbS, -, r1, -⟩ := (hb.sg.same hAg2).sym n hns
  rw [hari] at r1
  have hbaI : ba < W2.heap.size := hA2.lt
  obtain ⟨bD, oD, aL, cL, rfl, hbD, t0, t1, rT, hL⟩ := hb.wy.way n hnd
  obtain ⟨y, hy⟩ : ∃ y, d[n] = y := ⟨_, rfl⟩
  rw [hy] at t0 t1 rT hL htx hLr w4
  obtain ⟨T, L⟩ := y
  dsimp only at t0 t1 rT hL htx hLr w4
  have hLm : L.length = m := by omega
  have hcx : ∀ w', wI.grownBy w' (some ba) → w'.cell? ⟨bd, 0, none⟩ = some (.slice (some ⟨bD, oD, none⟩) d.length c3) ∧ w'.cell? ⟨bw, 0, none⟩ = some (caV bt ba bs bw bd) ∧ w'.cell? ⟨bD, oD + n * 2, none⟩ = some (.int .i64 T) ∧ w'.cell? ⟨bD, oD + n * 2 + 1, none⟩ = some (.slice aL L.length cL) ∧ Ints (fun b => b ≠ ba) w' aL cL L := fun w' h =>
    ⟨gby_cell h hb.cd hb.nd, gby_cell h hb.cw hb.nw, gby_cell h t0 hbD, gby_cell h t1 hbD, hL.same (.of_grown h (fun b hb e => hb (by cases e; rfl)))⟩
  have hcxH := Lib.hid hcx
  have hI2H := Lib.hid hI2
  have hg2H := Lib.hid hg2
  have hA2H := Lib.hid hA2
  have hW2H := Lib.hid hW2
  have hrecH := Lib.hid hrec
  have hssH := Lib.hid hss
  have h60H := Lib.hid hlen60
  have hsplH := Lib.hid hspl
  have htxH := Lib.hid htx
  have prH := Lib.hid pr1
  have hskH := Lib.hid hsk
  have hvH := Lib.hid hv
  have hLrH := Lib.hid hLr
  have hLmH := Lib.hid hLm
  have m3 := hb.sg.le
  have m4 := hL.le
  have m5 := hb.wy.le
  clear hb hg hA hAg hc hn hrec hss g1 hpe huok hhead hx hm htx hlen60 hspl hari harA hA2 hg2 hI2 hAg2 hcx hW2 hu pr1 hsk e1 hp' hv hLr hLm w1 w2 w3 w4 w5 hdn t0 t1 hL hy
  go_enter Try.func30, Try.ntmps30
  go_upto_region 3 with fail
  rw [hW2H.out]
  clear qt qa fa q2 hb2
  go_wp2_with fail
  go_loopw [7, 26] (fun out i wr => caRel1 s d t p m ba W2 out i wr) (fun _ i _ => m - (intOf i).toNat)
  case atStart => exact ⟨0, p + 1, [], rfl, Nat.zero_le _, rfl, skip_zero _ _, Nat.le_refl _, hp, .nil _ _ _ _ _, gby_refl' _ _, hA2H.out⟩
  case round =>
    obtain ⟨j, p', A, rfl, hj, hA, hs, hp1, hp2, ho, hg, hAt⟩ := hrel
    have hIr := gby_trans' hI2H.out hg
    have hAl : A.length = j := by rw [hA, List.length_map, List.length_take, hsplH.out]; omega
    have hol := OwnL.lt ho
    by_cases hjm : j < m
    · obtain ⟨l2, n1, n2⟩ := skip_stepK hs hssH.out hjm
      have hcall := hrecH.out p' l2 (by omega) n1
      obtain ⟨y1, y2, y3⟩ := part_rest n1 hp2
      rw [y1] at n2
      have hel := splitK_get hs hjm
      obtain ⟨v, hv⟩ : ∃ v, partAt s (t.drop p') = v := ⟨_, rfl⟩
      rw [hv] at hcall y2 y3 n2 hel
      have hA2 : A ++ [carT s d v] = ((splitK s m (t.drop (p + 1))).take (j + 1)).map (carT s d) := by
        rw [List.take_add_one, hel, List.map_append, ← hA]; rfl
      have qw := (hcxH.out wr hIr).2.1
      have hc0 : Calls _ _ _ _ (caRet wr ba p' s d v) := hcall wr hIr hAt
      obtain ⟨X, hX⟩ : ∃ X, carT s d v = X := ⟨_, rfl⟩
      have hpush : ∀ w1 aX cX, Ints (fun b => wr.heap.size ≤ b) w1 aX cX X → wr.grownBy w1 (some ba) → AtBox w1 ba (p' + v.length) → ∃ v' w', RowKit.Hid ((Builtin.append_ #[27, 27] 27 #[_, .slice (some ⟨w1.heap.size, 0, none⟩) 1 1]).run Try.prog (w1.alloc (.cells #[.slice aX X.length cX] 35)) = .ok v' w') ∧ RowKit.Hid (caRel1 s d t p m ba W2 v' (.int .i64 ((j + 1 : Nat) : Int)) w') := fun w1 aX cX hI h1 h2 => by
        have ho1 : OwnL (slE intE) (fun b => b ≠ ba) w1 W2.heap.size 35 _ A := OwnL.grown ho h1 (fun k hk e => by
          injection e with e
          have := (hol k hk).1
          omega) (fun b hb _ e => hb (by injection e with e; exact e.symm))
        have hW2 : W2.heap.size ≤ w1.heap.size := Nat.le_trans hg.size h1.size
        have hba' : ba < wr.heap.size := hAt.lt
        obtain ⟨v', w', f1, f2, f3, -⟩ := ho1.push (P := Try.prog) (t := 27) (ty := 27) Try.underlying27 infoTerm rfl (vs := [.slice aX X.length cX]) (x := X) ⟨aX, cX, rfl, hI.mono (fun b _ hb => ⟨fun e => by omega, fun e => by
          have := (hol b e.symm).2
          omega⟩) (.refl _ _)⟩ (by omega) (by unfold big; omega) hW2
        have hlt1 := OwnL.lt ho1
        refine ⟨v', w', Lib.hid f1, Lib.hid ⟨j + 1, p' + v.length, A ++ [X], rfl, hjm, by rw [← hX]; exact hA2, n2, by omega, y2, f2, gby_more (gby_trans' hg h1) f3 (fun i e => (hlt1 i e).1), h2.kept f3 (fun e => ?_)⟩⟩
        have := (hlt1 ba e).1
        omega
      unfold caRet at hc0
      rw [hX] at hc0
      have hc := Lib.hid hc0
      have hpushH := Lib.hid hpush
      clear hc0 hA hs ho hg hAt hIr hol n1 n2 hcall hel hA2 hpush hv hX
      go_wp2_with (first
        | (go_at_call 30; (with_reducible refine hc.out.mono ?_); rintro e w1 ⟨vX, rfl, hoX, hg1, hA1⟩; obtain ⟨aX, cX, rfl, hIX⟩ := OwnI.ints hoX; obtain ⟨v', w', hrun', hrel'⟩ := hpushH.out w1 aX cX hIX hg1 hA1)
        | (at_builtin; refine wpList_append_run rfl _ _ _ rfl rfl rfl hrun'.out ?_))
      go_roundw
      case rel => exact hrel'.out
      case measure => simp [intOf]; omega
    · have hjm' : j = m := by omega
      subst hjm'
      have hA' : A = (splitK s j (t.drop (p + 1))).map (carT s d) := by rw [hA, List.take_of_length_le (by rw [hsplH.out]; exact Nat.le_refl _)]
      have hpp : p' = p + u.length := by
        have h1 := Option.some.inj (hs.symm.trans hssH.out)
        rw [prH.out] at h1
        have h2 := congrArg List.length h1
        rw [List.length_drop, List.length_drop] at h2
        omega
      obtain ⟨aA, cA, hout, hsl⟩ := OwnL.sl ho
      subst hout
      obtain ⟨qd, -, qT, qL, hL⟩ := hcxH.out wr hIr
      have h60 := h60H.out
      have htx := htxH.out
      rw [← hA'] at h60 htx
      rw [hpp] at hAt
      obtain ⟨W5, hW5⟩ : ∃ W5, W5 = wr := ⟨_, rfl⟩
      subst hW5
      obtain ⟨W6, hW6⟩ : ∃ W6, W5.alloc (.cells #[.int .i64 T] 3) = W6 := ⟨_, rfl⟩
      have hb6 : Below W5.heap.size W5 W6 := by rw [← hW6]; exact below1 _ _
      have hlit : OwnI W6 W5.heap.size (.slice (some ⟨W5.heap.size, 0, none⟩) 1 1) [T] := by rw [← hW6]; exact OwnL.lit W5 [T] 3 (by intro y hy; rw [List.mem_singleton] at hy; rw [hy]; exact rT) (by show 1 ≤ maxLen; decide)
      have qd6 := cell_later hb6 qd
      have qT6 := cell_later hb6 qT
      have qL6 := cell_later hb6 qL
      have hmL := hLmH.out
      have hWW := Lib.hid (Nat.le_trans hg2H.out.size hg.size)
      have hgH := Lib.hid (gby_trans' hg2H.out hg)
      have hAtH := Lib.hid hAt
      have hslH := Lib.hid hsl
      have hLH := Lib.hid hL
      have hb6H := Lib.hid hb6
      have hlitH := Lib.hid hlit
      have h60K := Lib.hid h60
      have htxK := Lib.hid htx
      have hmLH := Lib.hid hmL
      have mA := hsl.le
      have mj : L.length ≤ 3 := by omega
      have hAlH := Lib.hid hAl
      clear hAl hA hA' hs ho hg hAt hIr hol hsl hpp hA2H hI2H hg2H hL hb6 hlit h60 htx hmL
      go_wp2_with fail
      clear qd qT qL qd6 qT6 qL6 hW6
      go_loopw [8, 46] (fun out i wr => caRel2 A T L W5 out i wr) (fun _ i _ => L.length - (intOf i).toNat)
      case atStart => exact ⟨0, rfl, Nat.zero_le _, hlitH.out, hb6H.out⟩
      case round =>
        obtain ⟨q, rfl, hq, hoq, hBq⟩ := hrel
        by_cases hlt : q < L.length
        · obtain ⟨w7, hw7⟩ : ∃ w7, w7 = wr := ⟨_, rfl⟩
          subst hw7
          obtain ⟨bL, oL, rfl, -, y1, -⟩ := (hLH.out.below hBq).int q hlt
          obtain ⟨g0, g1⟩ := hLrH.out _ (List.getElem_mem hlt)
          have htk : (L.take (q + 1)).map (fun k => A.getD k.toNat []) = (L.take q).map (fun k => A.getD k.toNat []) ++ [A.getD (L[q]).toNat []] := by
            rw [List.take_succ_eq_append_getElem hlt, List.map_append]; rfl
          obtain ⟨x, hx⟩ : ∃ x, L[q] = x := ⟨_, rfl⟩
          rw [hx] at y1 g0 g1 htk
          obtain ⟨i, rfl⟩ : ∃ i : Nat, x = (i : Int) := ⟨x.toNat, by omega⟩
          rw [Int.toNat_natCast] at htk
          have hiA : i < A.length := by
            have := hAlH.out
            omega
          obtain ⟨bA, oA, aX, cX, rfl, -, y2, hX⟩ := (hslH.out.below hBq).sub i hiA
          have hgd2 : A.getD i [] = A[i] := by rw [List.getD_eq_getElem?_getD, List.getElem?_eq_getElem hiA]; rfl
          rw [hgd2] at htk
          have hX60 := h60K.out _ (List.getElem_mem hiA)
          have hfl : ((L.take q).map (fun k => A.getD k.toNat [])).flatten.length ≤ 180 := by
            have := flat_le (A := (L.take q).map (fun k => A.getD k.toNat [])) (n := 60) (fun u hu => by
              obtain ⟨k, -, rfl⟩ := List.mem_map.1 hu
              by_cases hk : k.toNat < A.length
              · rw [List.getD_eq_getElem?_getD, List.getElem?_eq_getElem hk]; exact h60K.out _ (List.getElem_mem hk)
              · rw [List.getD_eq_getElem?_getD, List.getElem?_eq_none (by omega)]; simp)
            rw [List.length_map, List.length_take] at this
            omega
          obtain ⟨Y, hY⟩ : ∃ Y, A[i] = Y := ⟨_, rfl⟩
          rw [hY] at y2 hX htk hX60
          obtain ⟨v', w', hrun', ho', hB'⟩ := OwnI.appU (l' := T :: ((L.take (q + 1)).map (fun k => A.getD k.toNat [])).flatten) hoq hBq (.refl _ _) hX (by rw [htk, List.flatten_append, List.flatten_cons, List.flatten_nil, List.append_nil]; rfl) (by rw [List.length_cons]; omega) (by omega)
          have mX := hX.le
          clear hoq hBq htk hgd2 hX60 hfl hx hX hY
          go_wp2_with (at_builtin; refine wpList_append_run rfl _ _ _ rfl rfl rfl hrun'.out ?_)
          go_roundw
          case rel => exact ⟨q + 1, by go_num, hlt, ho'.out, hB'.out⟩
          case measure => simp [intOf]; omega
        · have hqq : q = L.length := by omega
          subst hqq
          rw [List.take_length] at hoq
          have hoH := Lib.hid hoq
          have hBH := Lib.hid hBq
          clear hoq hBq
          go_wp2_with fail
          go_ret
          exact ⟨_, rfl, by rw [htxK.out]; exact OwnL.baseMono hoH.out hWW.out, gby_trans' hgH.out (gby_below' hBH.out), hAtH.out.below hBH.out⟩
end Go.Proofs.Ytljkojpooajlhaa

/- Walks: tongue.single, OneToOne, Image. -/
namespace Go.Proofs.Ytljkojpooajlhaa
open Go Go.RowKit Go.Maps

theorem dedupI_snoc (l : List Int) (x : Int) : (dedupI (l ++ [x])).length = if x ∈ l then (dedupI l).length else (dedupI l).length + 1 := by
  split
  · rename_i h
    refine (dedupI_uniq (dedupI_nodup l) (fun y => ?_)).symm
    rw [mem_dedupI, List.mem_append, List.mem_singleton]
    exact ⟨Or.inl, fun e => e.elim id (fun e => by rw [e]; exact h)⟩
  · rename_i h
    have hn : (x :: dedupI l).Nodup := by rw [List.nodup_cons]; exact ⟨fun e => h (mem_dedupI.1 e), dedupI_nodup l⟩
    rw [← dedupI_uniq hn (fun y => ?_), List.length_cons]
    rw [List.mem_cons, mem_dedupI, List.mem_append, List.mem_singleton, or_comm]
theorem tos_take {d : Ways} {k : Nat} (hk : k < d.length) : tosD (d.take (k + 1)) = tosD (d.take k) ++ [d[k].1] := by
  unfold tosD
  rw [List.take_succ_eq_append_getElem hk, List.map_append]; rfl
noncomputable abbrev metK : KeyK Int Try.prog 3 := intK Try.underlying3
def mtoF (l : List Int) (x : Int) : Option Value := if x ∈ l then some (.bool true) else none
def sgRel (d : Ways) (w : World) (i : Value) (wr : World) : Prop := ∃ k : Nat, i = .int .i64 k ∧ k ≤ d.length ∧ VMap metK wr w.heap.size (dedupI (tosD (d.take k))).length (mtoF (tosD (d.take k))) ∧ Below w.heap.size w wr
set_option maxRecDepth 20000 in
set_option maxHeartbeats 1000000 in
theorem single_any {S3 : Nat → Prop} (a1 a2 a3 : Option Addr) (c1 c2 c3 : Nat) (a b : Sg) (d : Ways) (w : World) (h3 : WaysL S3 w a3 c3 d) (hd : d.length ≤ 1000) :
    Calls Try.prog 13 #[.slice a1 a.length c1, .slice a2 b.length c2, .slice a3 d.length c3] w fun e w' => e = .returned (.bool (oneB a b d)) ∧ Below w.heap.size w w' := by
  have m3 := h3.le
  have hmm := @run_makeMap Try.prog
  have h3H := Lib.hid h3
  clear h3
  go_enter Try.func13, Try.ntmps13
  go_wp2_with fail
  go_loopw [13] (fun i wr => sgRel d w i wr) (fun i _ => d.length - (intOf i).toNat)
  case atStart => exact ⟨0, rfl, Nat.zero_le _, VMap.made metK w, below1 w _⟩
  case round =>
    obtain ⟨k, rfl, hk, hm, hB⟩ := hrel
    by_cases hlt : k < d.length
    · obtain ⟨b3, o3, ak, ck, rfl, -, qt, qa, rT, -⟩ := (h3H.out.below hB).way k hlt
      have htk := tos_take hlt
      obtain ⟨x, hxk⟩ : ∃ x, d[k] = x := ⟨_, rfl⟩
      rw [hxk] at qt qa rT htk
      obtain ⟨T, A⟩ := x
      dsimp only at qt qa rT htk
      obtain ⟨W1, hW1⟩ : ∃ W1, wr.alloc (.cells #[.int .i64 T, .slice ak A.length ck] 44) = W1 := ⟨_, rfl⟩
      have hb1 : Below wr.heap.size wr W1 := by rw [← hW1]; exact below1 _ _
      have p0 : W1.cell? ⟨wr.heap.size, 0, none⟩ = some (.int .i64 T) := by rw [← hW1]; clear hW1; go_simp
      have hm1 := hm.below hb1 hm.lt
      obtain ⟨w', hrun, hm2, hg⟩ := hm1.store (tm := 58) (te := 4) Try.underlying58 (by
        have h := dedupI_len (tosD (d.take k))
        have h2 : (tosD (d.take k)).length ≤ 1000 := by unfold tosD; rw [List.length_map, List.length_take]; omega
        have h3 : (1000 : Nat) < maxLen := by decide
        omega) T rT (.bool true)
      have hrun' : (Instr.mapUpdate 58 (.map (some w.heap.size)) (.int .i64 T) (.bool true)).run Try.prog W1 = .ok () w' := hrun
      have hm3 : VMap metK w' w.heap.size (dedupI (tosD (d.take (k + 1)))).length (mtoF (tosD (d.take (k + 1)))) := by
        rw [htk, dedupI_snoc]
        have e1 : (if (mtoF (tosD (d.take k)) T).isSome = true then (dedupI (tosD (d.take k))).length else (dedupI (tosD (d.take k))).length + 1) = (if T ∈ tosD (d.take k) then (dedupI (tosD (d.take k))).length else (dedupI (tosD (d.take k))).length + 1) := by
          unfold mtoF
          by_cases h : T ∈ tosD (d.take k)
          · rw [if_pos h, if_pos h]; rfl
          · rw [if_neg h, if_neg h]; rfl
        have e2 : (fun z => if z = T then some (Value.bool true) else mtoF (tosD (d.take k)) z) = mtoF (tosD (d.take k) ++ [T]) := by
          funext z
          unfold mtoF
          by_cases h : z = T
          · rw [if_pos h, if_pos (List.mem_append.2 (.inr (List.mem_singleton.2 h)))]
          · rw [if_neg h]
            by_cases h2 : z ∈ tosD (d.take k)
            · rw [if_pos h2, if_pos (List.mem_append.2 (.inl h2))]
            · rw [if_neg h2, if_neg (fun e => (List.mem_append.1 e).elim h2 (fun e => h (List.mem_singleton.1 e)))]
        rw [← e1, ← e2]
        exact hm2
      have hB2 : Below w.heap.size w w' := (bcall hB hb1).grown hg (Nat.le_trans hB.size hb1.size) (fun j e => by injection e with e; omega)
      have hm3H := Lib.hid hm3
      have hB2H := Lib.hid hB2
      clear hm hB hm1 hm2 hm3 hrun hg hb1 htk hxk hB2
      go_wp2_with fail
      go_roundw
      case rel => exact ⟨k + 1, by go_num, hlt, hm3H.out, hB2H.out⟩
      case measure => simp [intOf]; omega
    · have hkk : k = d.length := by omega
      subst hkk
      rw [List.take_length] at hm
      have hlen := fun ty => hm.len (tm := 58) (te := 4) Try.underlying58 ty
      have hBH := Lib.hid hB
      have hdl : decide ((dedupI (tosD d)).length = d.length) = decide ((tosD d).Nodup) := by
        rw [Bool.eq_iff_iff, decide_eq_true_eq, decide_eq_true_eq]
        have := dedupI_all (l := tosD d)
        rw [show (tosD d).length = d.length by simp [tosD]] at this
        exact this
      have hone : oneB a b d = (decide (a.length = b.length) && decide ((dedupI (tosD d)).length = d.length)) := by rw [oneB, hdl]
      obtain ⟨n, hn⟩ : ∃ n, (dedupI (tosD d)).length = n := ⟨_, rfl⟩
      rw [hn] at hlen hone
      have hoH := Lib.hid hone
      clear hm hB hdl hone hn
      by_cases hab : a.length = b.length
      · have h1 : ((a.length : Int) == (b.length : Int)) = true := by simp; omega
        by_cases hnd : n = d.length
        · have h2 : ((n : Int) == (d.length : Int)) = true := by simp; omega
          have ho := hoH.out
          rw [decide_eq_true hab, decide_eq_true hnd] at ho
          have hoK := Lib.hid ho
          clear ho hoH hab hnd
          go_wp2_with fail
          go_ret
          rw [hoK.out]
          exact ⟨rfl, hBH.out⟩
        · have h2 : ((n : Int) == (d.length : Int)) = false := by simp; omega
          have ho := hoH.out
          rw [decide_eq_true hab, decide_eq_false hnd] at ho
          have hoK := Lib.hid ho
          clear ho hoH hab hnd
          go_wp2_with fail
          go_ret
          rw [hoK.out]
          exact ⟨rfl, hBH.out⟩
      · have h1 : ((a.length : Int) == (b.length : Int)) = false := by simp; omega
        have ho := hoH.out
        rw [decide_eq_false hab] at ho
        have hoK := Lib.hid ho
        clear ho hoH hab
        go_wp2_with fail
        go_ret
        rw [hoK.out]
        exact ⟨rfl, hBH.out⟩
theorem validD_len {a b : Sg} {d : Ways} (h : validD a b d = true) : a.length ≤ 12 ∧ b.length ≤ 12 ∧ d.length ≤ 12 := by
  obtain ⟨h1, h2, h3, -⟩ := validD_parts h
  have := okSign_len h1
  have := okSign_len h2
  omega
set_option maxHeartbeats 1000000 in
theorem OneToOne_any {S1 S2 S3 : Nat → Prop} (a1 a2 a3 : Option Addr) (c1 c2 c3 : Nat) (a b : Sg) (d : Ways) (w : World) (h1 : Sign S1 w a1 c1 a) (h2 : Sign S2 w a2 c2 b) (h3 : WaysL S3 w a3 c3 d) (hda : ∀ x ∈ d, x.2.length ≤ 1000) :
    Calls Try.prog 7 #[.slice a1 a.length c1, .slice a2 b.length c2, .slice a3 d.length c3] w fun e w' => e = .returned (.bool (validD a b d && oneB a b d)) ∧ Below w.heap.size w w' := by
  have m1 := h1.le
  have m2 := h2.le
  have m3 := h3.le
  have v1 := tValid_any a1 a2 a3 c1 c2 c3 a b d w h1 h2 h3 hda
  cases hx : validD a b d with
  | false =>
    rw [hx] at v1
    have v1H := Lib.hid v1
    clear v1 h1 h2 h3 hda hx
    go_enter Try.func7, Try.ntmps7
    go_wp2_with fail
    refine v1H.out.mono ?_
    rintro e w1 ⟨rfl, hb1⟩
    go_wp2_with fail
    go_ret
    exact ⟨rfl, hb1⟩
  | true =>
    rw [hx] at v1
    obtain ⟨l1, l2, l3⟩ := validD_len hx
    have v2 := fun W (hb : Below w.heap.size w W) => single_any a1 a2 a3 c1 c2 c3 a b d W (h3.below hb) (by omega)
    obtain ⟨o, ho⟩ : ∃ o, oneB a b d = o := ⟨_, rfl⟩
    simp only [ho] at v2
    rw [ho]
    have v1H := Lib.hid v1
    have v2H := Lib.hid v2
    clear v1 v2 h1 h2 h3 hda hx ho
    go_enter Try.func7, Try.ntmps7
    go_wp2_with fail
    refine v1H.out.mono ?_
    rintro e w1 ⟨rfl, hb1⟩
    go_wp2_with fail
    refine (v2H.out _ hb1).mono ?_
    rintro e w2 ⟨rfl, hb2⟩
    go_wp2_with fail
    go_ret
    exact ⟨by simp, bcall hb1 hb2⟩
def imRel (d : Ways) (w : World) (out i : Value) (wr : World) : Prop := ∃ k : Nat, i = .int .i64 k ∧ k ≤ d.length ∧ OwnI wr w.heap.size out (tosD (d.take k)) ∧ Below w.heap.size w wr
def imgE (a b : Sg) (d : Ways) : List Int × Int := if validD a b d = true then (imgK d b.length, 0) else ([], 1)
def retIE (r : List Int × Int) (w : World) (e : Ending) (w' : World) : Prop := ∃ a c, e = .returned (.tuple #[.slice a r.1.length c, .int .i64 r.2]) ∧ Ints (fun b => w.heap.size ≤ b) w' a c r.1 ∧ Below w.heap.size w w'
end Go.Proofs.Ytljkojpooajlhaa

/- Lists of ways of a call's own: made, set; made lists of numbers. -/
namespace Go.Proofs.Ytljkojpooajlhaa
open Go Go.RowKit Go.Maps

abbrev OwnW (w : World) (base : Nat) (v : Value) (l : Ways) : Prop := OwnL wayE (fun _ => True) w base 44 v l
theorem infoWay : (Try.prog.info? 44).map (fun i => (i.zero, i.size, i.bytes)) = some (some (.agg #[.int .i64 0, .slice none 0 0]), 2, 32) := by kernel_rfl
theorem flat2_set {v1 v2 : Value} : ∀ {xs : List (List Value)} (_ : ∀ x ∈ xs, x.length = 2) (j : Nat) (_ : j < xs.length), (xs.flatten.set (j * 2) v1).set (j * 2 + 1) v2 = (xs.set j [v1, v2]).flatten
  | [], _, j, hj => by simp at hj
  | x :: xs, h, 0, _ => by
    have hx := h x (by simp)
    match x, hx with
    | [p, q], _ => rfl
  | x :: xs, h, j + 1, hj => by
    have hx := h x (by simp)
    have ih := flat2_set (v1 := v1) (v2 := v2) (xs := xs) (fun y hy => h y (by simp [hy])) j (by simpa using hj)
    match x, hx with
    | [p, q], _ =>
      rw [List.flatten_cons, List.set_cons_succ, List.flatten_cons, ← ih]
      have e1 : (j + 1) * 2 = j * 2 + 2 := by omega
      rw [e1]; rfl
theorem OwnW.set {w : World} {base g n cap : Nat} {l : Ways} (h : OwnW w base (.slice (some ⟨g, 0, none⟩) n cap) l) (hn : n = l.length) {j : Nat} (hj : j < l.length) {x : Int × List Int} {S : Nat → Prop} {a : Option Addr} {c : Nat} (hx : inRange x.1) (hI : Ints S w a c x.2) (hS : ∀ b, S b → b ≠ g) :
    OwnW ((w.setCell ⟨g, j * 2, none⟩ (.int .i64 x.1)).setCell ⟨g, j * 2 + 1, none⟩ (.slice a x.2.length c)) base (.slice (some ⟨g, 0, none⟩) n cap) (l.set j x) ∧ w.grownBy ((w.setCell ⟨g, j * 2, none⟩ (.int .i64 x.1)).setCell ⟨g, j * 2 + 1, none⟩ (.slice a x.2.length c)) (some g) := by
  subst hn
  obtain ⟨xs, ho, hl, hR⟩ := h
  obtain ⟨h1, g1⟩ := ho.stored (j * 2) (.int .i64 x.1)
  obtain ⟨h2, g2⟩ := h1.stored (j * 2 + 1) (.slice a x.2.length c)
  have hg := gby_trans' g1 g2
  have hln : ∀ y ∈ xs, y.length = 2 := fun y hy => by
    obtain ⟨i, hi, rfl⟩ := List.getElem_of_mem hy
    exact wayE.len (hR i hi (by omega))
  rw [flat2_set hln j (by omega)] at h2
  have hA : Agree (Off (fun _ => True) (.slice (some ⟨g, 0, none⟩) l.length cap)) w ((w.setCell ⟨g, j * 2, none⟩ (.int .i64 x.1)).setCell ⟨g, j * 2 + 1, none⟩ (.slice a x.2.length c)) :=
    .of_grown hg (fun b hb e => hb.2 (by injection e with e; rw [e]; rfl))
  refine ⟨⟨xs.set j [.int .i64 x.1, .slice a x.2.length c], by rw [List.length_set]; exact h2, by rw [List.length_set, List.length_set]; exact hl, fun i hi1 hi2 => ?_⟩, hg⟩
  rw [List.length_set] at hi1 hi2
  rw [List.getElem_set, List.getElem_set]
  by_cases e : j = i
  · rw [if_pos e, if_pos e]
    exact ⟨[.int .i64 x.1], [.slice a x.2.length c], rfl, ⟨rfl, hx⟩, ⟨a, c, rfl, hI.mono (fun b _ hb => ⟨trivial, fun e => hS b hb (by simpa [Value.ownBlock] using e)⟩) (.of_grown hg (fun b hb e => hS b hb (Option.some.inj e)))⟩⟩
  · rw [if_neg e, if_neg e]
    exact wayE.mono (hR i hi1 hi2) (fun _ _ h => h) hA
theorem flat_rep2 (v1 v2 : Value) : ∀ n : Nat, (List.replicate n [v1, v2]).flatten = (List.range (n * 2)).map (fun i => if i % 2 = 0 then v1 else v2)
  | 0 => rfl
  | n + 1 => by
    rw [List.replicate_succ', List.flatten_append, flat_rep2 v1 v2 n, show (n + 1) * 2 = n * 2 + 1 + 1 by omega, List.range_succ, List.range_succ, List.map_append, List.map_append, List.append_assoc]
    congr 1
    simp [show n * 2 % 2 = 0 by omega, show (n * 2 + 1) % 2 = 1 by omega]
theorem makeWays {W : World} (n : Nat) (hn : n ≤ 1000) : (Instr.makeSlice 24 (.int .i64 (n : Int)) (.int .i64 (n : Int))).run Try.prog W = .ok (.slice (some ⟨W.heap.size, 0, none⟩) n n) (W.alloc (.cells (List.replicate n [Value.int .i64 0, .slice none 0 0]).flatten.toArray 44)) := by
  obtain ⟨i, hi, hz0, hz1, hz2⟩ := info_parts infoWay
  have := run_make (P := Try.prog) W 24 44 i (.agg #[.int .i64 0, .slice none 0 0]) Try.underlying24 hi hz0 .i64 .i64 n n (by omega) (by omega) (by rw [hz2]; omega) (by omega)
  rw [this, hz1, Int.toNat_natCast]
  have hm : madeCells (Value.agg #[.int .i64 0, .slice none 0 0]).cells (n * 2) = (List.replicate n [Value.int .i64 0, .slice none 0 0]).flatten.toArray := by
    rw [flat_rep2]
    apply Array.ext
    · simp [madeCells]
    · intro i h1 h2
      have : i % 2 = 0 ∨ i % 2 = 1 := by omega
      rcases this with e | e <;> simp [madeCells, Value.cells, e]
  rw [hm]
theorem OwnW.made (w : World) (n : Nat) (hn : n ≤ 1000) : OwnW (w.alloc (.cells (List.replicate n [Value.int .i64 0, .slice none 0 0]).flatten.toArray 44)) w.heap.size (.slice (some ⟨w.heap.size, 0, none⟩) n n) (List.replicate n (0, [])) := by
  have hfl : (List.replicate n [Value.int .i64 0, .slice none 0 0]).flatten.length = n * 2 := by rw [flat_rep2]; simp
  refine ⟨List.replicate n [.int .i64 0, .slice none 0 0], ⟨?_, .inr ⟨w.heap.size, n, _, ?_, Nat.le_refl _, heap_alloc_new w _, ?_, ?_, ?_, ?_⟩⟩, by simp, fun i h1 h2 => ?_⟩
  · rw [hfl]; simp [wayE, pairE, slE, intE]
  · rw [List.length_replicate]
  · rw [List.length_replicate]; exact Nat.le_refl _
  · have : (1000 : Nat) < maxLen := by decide
    omega
  · simp [hfl, wayE, pairE, slE, intE]
  · rw [List.length_replicate]; simp [wayE, pairE, slE, intE]; exact List.take_of_length_le (Nat.le_of_eq hfl)
  · rw [List.getElem_replicate, List.getElem_replicate]
    exact ⟨[.int .i64 0], [.slice none 0 0], rfl, ⟨rfl, by unfold inRange; decide⟩, ⟨none, 0, rfl, Sl.empty⟩⟩
theorem makeInts {W : World} (n : Nat) (hn : n ≤ 1000) : (Instr.makeSlice 34 (.int .i64 (n : Int)) (.int .i64 (n : Int))).run Try.prog W = .ok (.slice (some ⟨W.heap.size, 0, none⟩) n n) (W.alloc (.cells (Array.replicate n (Value.int .i64 0)) 3)) := by
  obtain ⟨i, hi, hz0, hz1, hz2⟩ := info_parts infoInt
  have := run_make (P := Try.prog) W 34 3 i (.int .i64 0) Try.underlying34 hi hz0 .i64 .i64 n n (by omega) (by omega) (by rw [hz2]; omega) (by omega)
  rw [this, hz1, Int.toNat_natCast, Nat.mul_one]
  have hm : madeCells (Value.int .i64 0).cells n = Array.replicate n (Value.int .i64 0) := by
    apply Array.ext
    · simp [madeCells]
    · intro i h1 h2; simp [madeCells, Value.cells, Nat.mod_one]
  rw [hm]
theorem OwnI.madeZ (w : World) (n : Nat) (hn : n ≤ 1000) : OwnI (w.alloc (.cells (Array.replicate n (Value.int .i64 0)) 3)) w.heap.size (.slice (some ⟨w.heap.size, 0, none⟩) n n) (List.replicate n 0) := by
  refine ⟨List.replicate n [.int .i64 0], ⟨?_, .inr ⟨w.heap.size, n, _, ?_, Nat.le_refl _, heap_alloc_new w _, ?_, ?_, ?_, ?_⟩⟩, by simp, fun i h1 h2 => ?_⟩
  · simp [intE]
  · rw [List.length_replicate]
  · rw [List.length_replicate]; exact Nat.le_refl _
  · have : (1000 : Nat) < maxLen := by decide
    omega
  · simp [intE]
  · simp [intE]
  · rw [List.getElem_replicate, List.getElem_replicate]
    exact ⟨rfl, by unfold inRange; decide⟩
theorem OwnW.cellW {w : World} {base g n cap : Nat} {l : Ways} (h : OwnW w base (.slice (some ⟨g, 0, none⟩) n cap) l) (hn : n = l.length) {j : Nat} (hj : j < l.length) : (∃ v, w.cell? ⟨g, j * 2, none⟩ = some v) ∧ (∃ v, w.cell? ⟨g, j * 2 + 1, none⟩ = some v) ∧ (∀ i, w.frozen? ⟨g, i, none⟩ = false) := by
  subst hn
  obtain ⟨xs, ho, hl, hR⟩ := h
  have hln : ∀ y ∈ xs, y.length = 2 := fun y hy => by
    obtain ⟨i, hi, rfl⟩ := List.getElem_of_mem hy
    exact wayE.len (hR i hi (by omega))
  have hfl : xs.flatten.length = xs.length * 2 := flatten_len hln
  exact ⟨⟨_, (ho.cellAt (j * 2) (by show j * 2 < l.length * 2; omega)).trans (List.getElem?_eq_getElem (by rw [hfl]; omega))⟩, ⟨_, (ho.cellAt (j * 2 + 1) (by show j * 2 + 1 < l.length * 2; omega)).trans (List.getElem?_eq_getElem (by rw [hfl]; omega))⟩, fun i => ho.frozenAt i⟩
def invE (a b : Sg) (d : Ways) : Ways × Int := if validD a b d = true then (if oneB a b d = true then (invD d b.length d.length, 0) else ([], 8)) else ([], 1)
def retWE (r : Ways × Int) (w : World) (e : Ending) (w' : World) : Prop := ∃ a c, e = .returned (.tuple #[.slice a r.1.length c, .int .i64 r.2]) ∧ WaysL (fun _ => True) w' a c r.1 ∧ Below w.heap.size w w'
def ivRel (d : Ways) (n g : Nat) (w : World) (i : Value) (wr : World) : Prop := ∃ k : Nat, i = .int .i64 k ∧ k ≤ d.length ∧ OwnW wr w.heap.size (.slice (some ⟨g, 0, none⟩) n n) (invD d n k) ∧ Below w.heap.size w wr
def iaRel (A : List Int) (g : Nat) (W1 : World) (i : Value) (wr : World) : Prop := ∃ q : Nat, i = .int .i64 q ∧ q ≤ A.length ∧ OwnI wr W1.heap.size (.slice (some ⟨g, 0, none⟩) A.length A.length) (invA A A.length q) ∧ Below W1.heap.size W1 wr
end Go.Proofs.Ytljkojpooajlhaa

/- Walks: lemmaryref03.order, Valid, Same; few, small of the laws on tongues. -/
namespace Go.Proofs.Ytljkojpooajlhaa
open Go Go.RowKit Go.Maps

def roRel (l : List Int) (w : World) (i : Value) (wr : World) : Prop := ∃ k : Nat, i = .int .i64 k ∧ k ≤ l.length ∧ (∀ j : Nat, j < k → (j : Int) ∈ l) ∧ w = wr
def vrRel (a b : Sg) (d : Ways) (w : World) (i : Value) (wr : World) : Prop := ∃ k : Nat, i = .int .i64 k ∧ k ≤ d.length ∧ wysOk a b d k = true ∧ Drew w wr
theorem drew_trans3 {a b c : World} (h : Drew a b) (k : Drew b c) : Drew a c := by obtain ⟨n, rfl⟩ := h; obtain ⟨m, rfl⟩ := k; exact Drew.mk2 _ _ _
def smRel (d e : Ways) (w : World) (i : Value) (wr : World) : Prop := ∃ k : Nat, i = .int .i64 k ∧ k ≤ d.length ∧ d.take k = e.take k ∧ Drew w wr
theorem take_oneW {d e : Ways} {k : Nat} (h1 : k < d.length) (h2 : k < e.length) (ht : d.take k = e.take k) (hx : d[k] = e[k]) : d.take (k + 1) = e.take (k + 1) := by
  rw [List.take_succ_eq_append_getElem h1, List.take_succ_eq_append_getElem h2, ht, hx]
end Go.Proofs.Ytljkojpooajlhaa

/- Walks: tongue.carried, Carried. -/
namespace Go.Proofs.Ytljkojpooajlhaa
open Go Go.RowKit Go.Maps

theorem ca_any {wI : World} {bt ba bs bw bd : Nat} {a1 a2 a3 : Option Addr} {c1 c2 c3 : Nat} {s b : Sg} {t : List Int} {d : Ways} (hb : CBox wI bt ba bs bw bd a1 a2 a3 c1 c2 c3 s t d) (hv : validD s b d = true) (hl : t.length ≤ 60) :
    ∀ (N p : Nat) (r : List Int), t.length - p ≤ N → skip s 1 (t.drop p) = some r → CaAt wI bt ba bs bw bd s d p (partAt s (t.drop p)) := by
  intro N
  induction N with
  | zero =>
    intro p r hN h
    obtain ⟨hp, -, -⟩ := skip_drop (k := 0) h
    omega
  | succ N ih =>
    intro p r hN h
    obtain ⟨hp, hc, -⟩ := skip_drop (k := 0) h
    by_cases hn : t[p] < 0
    · rw [part_neg h hp hn]
      exact ca_var hb hl hp hn
    · exact ca_node hb hv hl h hp hn (fun p' r' h1 h2 => ih p' r' (by omega) h2)
set_option maxRecDepth 20000 in
set_option maxHeartbeats 1000000 in
theorem carried_any {S1 S2 S3 : Nat → Prop} (a1 a2 a3 : Option Addr) (c1 c2 c3 : Nat) (s b : Sg) (d : Ways) (t : List Int) (w : World) (h1 : Sign S1 w a1 c1 s) (h3 : WaysL S3 w a3 c3 d) (h2 : Ints S2 w a2 c2 t) (hv : validD s b d = true) (hok : okT s t = true) :
    Calls Try.prog 17 #[.slice a1 s.length c1, .slice a3 d.length c3, .slice a2 t.length c2] w (retOwn w (carT s d t)) := by
  have m1 := h1.le
  have m2 := h2.le
  have m3 := h3.le
  obtain ⟨w3, hw3⟩ : ∃ w3, ((w.alloc (.cells #[.slice a1 s.length c1] 23)).alloc (.cells #[.slice a3 d.length c3] 24)).alloc (.cells #[.slice a2 t.length c2] 35) = w3 := ⟨_, rfl⟩
  have hz3 : w3.heap.size = w.heap.size + 1 + 1 + 1 := by rw [← hw3]; simp
  obtain ⟨wI, hwI⟩ : ∃ wI, (w3.alloc (.cells #[.int .i64 0] 3)).alloc (.cells #[caV (w.heap.size + 1 + 1) (w.heap.size + 1 + 1 + 1) w.heap.size (w.heap.size + 1 + 1 + 1 + 1) (w.heap.size + 1)] 64) = wI := ⟨_, rfl⟩
  have hb3 : Below w.heap.size w w3 := by rw [← hw3]; exact below3 _ _ _ _
  have hbI : Below w.heap.size w wI := by rw [← hwI]; exact bcall hb3 (below2 _ _ _)
  have hzI : wI.heap.size = w.heap.size + 1 + 1 + 1 + 1 + 1 := by rw [← hwI]; simp [hz3]
  have hA0 : AtBox wI (w.heap.size + 1 + 1 + 1) 0 := by
    have h0 : AtBox (w3.alloc (.cells #[.int .i64 0] 3)) w3.heap.size 0 := heap_alloc_new w3 _
    rw [hz3] at h0
    rw [← hwI]
    exact h0.below (below1 _ _)
  have ct : wI.cell? ⟨w.heap.size + 1 + 1, 0, none⟩ = some (.slice a2 t.length c2) := by rw [← hwI, ← hw3]; clear hwI hw3; go_simp
  have cs : wI.cell? ⟨w.heap.size, 0, none⟩ = some (.slice a1 s.length c1) := by rw [← hwI, ← hw3]; clear hwI hw3; go_simp
  have cx : wI.cell? ⟨w.heap.size + 1, 0, none⟩ = some (.slice a3 d.length c3) := by rw [← hwI, ← hw3]; clear hwI hw3; go_simp
  have cw : wI.cell? ⟨w.heap.size + 1 + 1 + 1 + 1, 0, none⟩ = some (caV (w.heap.size + 1 + 1) (w.heap.size + 1 + 1 + 1) w.heap.size (w.heap.size + 1 + 1 + 1 + 1) (w.heap.size + 1)) := by rw [← hwI, ← hw3]; clear hwI hw3; go_simp
  have hbox : CBox wI (w.heap.size + 1 + 1) (w.heap.size + 1 + 1 + 1) w.heap.size (w.heap.size + 1 + 1 + 1 + 1) (w.heap.size + 1) a1 a2 a3 c1 c2 c3 s t d :=
    ⟨ct, cs, cw, cx, by omega, by omega, by omega, by omega, (h1.lt.below hbI).weak (fun b hb => by have := hb.2; omega), (h2.lt.below hbI).weak (fun b hb => by have := hb.2; omega), (h3.lt.below hbI).weak (fun b hb => by have := hb.2; omega)⟩
  obtain ⟨hs, -, hl, hsk⟩ := okT_parts hok
  have hc := ca_any hbox hv hl t.length 0 [] (Nat.sub_le _ _) hsk wI (gby_refl' _ _) hA0
  have hpt : partAt s (t.drop 0) = t := by
    rw [List.drop_zero]; unfold partAt; rw [hsk]; simp
  rw [hpt] at hc
  have hc0 : Calls _ _ _ _ (retOwn w (carT s d t)) := hc.mono fun e w' ⟨v, h, ho, hg, _⟩ => ⟨v, h, OwnL.baseMono ho hbI.size, hbI.grown hg hbI.size (fun j e => by injection e with e; omega)⟩
  have hcH := Lib.hid hc0
  have hwIH := Lib.hid hwI
  rw [← hw3] at hwIH
  clear h1 h2 h3 hok hv hw3 hz3 hwI hb3 hbI hzI hA0 ct cs hbox hc hc0 hpt cx hs hsk
  go_enter Try.func17, Try.ntmps17
  go_upto_region 4 with fail
  rw [hwIH.out]
  go_wp2_with fail
  (with_reducible refine hcH.out.mono ?_)
  rintro e w2 ⟨v, rfl, hov, hb2⟩
  go_wp2_with fail
  go_ret
  exact ⟨_, rfl, hov, hb2⟩
/-- a term carried, with its error -/
def crdE (a b : Sg) (d : Ways) (t : List Int) : List Int × Int := if (validD a b d && okT a t) = true then (carT a d t, 0) else ([], 1)
set_option maxHeartbeats 1000000 in
theorem Carried_any {S1 S2 S3 S4 : Nat → Prop} (a1 a2 a3 a4 : Option Addr) (c1 c2 c3 c4 : Nat) (a b : Sg) (d : Ways) (t : List Int) (w : World) (h1 : Sign S1 w a1 c1 a) (h2 : Sign S2 w a2 c2 b) (h3 : WaysL S3 w a3 c3 d) (h4 : Ints S4 w a4 c4 t) (hda : ∀ x ∈ d, x.2.length ≤ 1000) :
    Calls Try.prog 9 #[.slice a1 a.length c1, .slice a2 b.length c2, .slice a3 d.length c3, .slice a4 t.length c4] w (retIE (crdE a b d t) w) := by
  have m1 := h1.le
  have m2 := h2.le
  have m3 := h3.le
  have m4 := h4.le
  have v1 := tValid_any a1 a2 a3 c1 c2 c3 a b d w h1 h2 h3 hda
  have v2 := fun W (hb : Below w.heap.size w W) => Valid_any a1 a4 c1 c4 a t W (h1.below hb) (h4.below hb)
  unfold crdE
  cases hx : validD a b d with
  | false =>
    rw [hx] at v1
    have v1H := Lib.hid v1
    clear v1 v2 h1 h2 h3 h4 hda hx
    go_enter Try.func9, Try.ntmps9
    go_wp2_with fail
    refine v1H.out.mono ?_
    rintro e w1 ⟨rfl, hb1⟩
    go_wp2_with fail
    go_ret2
    exact ⟨_, _, rfl, Sl.empty, hb1⟩
  | true =>
  rw [hx] at v1
  cases hy : okT a t with
  | false =>
    simp only [hy] at v2
    have v1H := Lib.hid v1
    have v2H := Lib.hid v2
    clear v1 v2 h1 h2 h3 h4 hda hx hy
    go_enter Try.func9, Try.ntmps9
    go_wp2_with fail
    refine v1H.out.mono ?_
    rintro e w1 ⟨rfl, hb1⟩
    go_wp2_with fail
    refine (v2H.out _ hb1).mono ?_
    rintro e w2 ⟨rfl, hb2⟩
    go_wp2_with fail
    go_ret2
    exact ⟨_, _, rfl, Sl.empty, bcall hb1 hb2⟩
  | true =>
  simp only [hy] at v2
  have v1H := Lib.hid v1
  have v2H := Lib.hid v2
  have v3 := fun W (hb : Below w.heap.size w W) => carried_any a1 a4 a3 c1 c4 c3 a b d t W (h1.below hb) (h3.below hb) (h4.below hb) hx hy
  rw [show (true && true) = true from rfl, if_pos rfl]
  obtain ⟨R, hR⟩ : ∃ R, carT a d t = R := ⟨_, rfl⟩
  simp only [hR] at v3 ⊢
  have v3H := Lib.hid v3
  clear v1 v2 v3 h1 h2 h3 h4 hda hx hy hR
  go_enter Try.func9, Try.ntmps9
  go_wp2_with fail
  refine v1H.out.mono ?_
  rintro e w1 ⟨rfl, hb1⟩
  go_wp2_with fail
  refine (v2H.out _ hb1).mono ?_
  rintro e w2 ⟨rfl, hb2⟩
  have hB2 := bcall hb1 hb2
  go_wp2_with fail
  refine (v3H.out _ hB2).mono ?_
  rintro e w3 ⟨v3, rfl, ho3, hb3⟩
  obtain ⟨aZ, cZ, rfl, hI⟩ := OwnI.ints ho3
  go_wp2_with fail
  go_ret2
  exact ⟨_, _, rfl, hI.weak (fun b hb => Nat.le_trans hB2.size hb), bcall hB2 hb3⟩
end Go.Proofs.Ytljkojpooajlhaa

/- Walks: lemmaryref03.OneToOne, in, Image; few, small of the laws on tongues. -/
namespace Go.Proofs.Ytljkojpooajlhaa
open Go Go.RowKit Go.Maps

def roRel1 (d : Ways) (w : World) (i : Value) (wr : World) : Prop := ∃ k : Nat, i = .int .i64 k ∧ k ≤ d.length ∧ (tosD (d.take k)).Nodup ∧ Drew w wr
def roRel2 (d : Ways) (i : Nat) (w : World) (j : Value) (wr : World) : Prop := ∃ k : Nat, j = .int .i64 k ∧ k ≤ i ∧ (∀ (m : Nat) (h : m < d.length) (hi : i < d.length), m < k → d[m].1 ≠ d[i].1) ∧ Drew w wr
theorem nodup_snoc {l : List Int} {x : Int} (h : l.Nodup) (hx : x ∉ l) : (l ++ [x]).Nodup := by
  rw [List.nodup_append]
  exact ⟨h, by simp, fun a ha b hb => by rw [List.mem_singleton] at hb; rw [hb]; exact fun e => hx (by rw [← e]; exact ha)⟩
def rinnRel (d : Ways) (x : Int) (w : World) (i : Value) (wr : World) : Prop := ∃ k : Nat, i = .int .i64 k ∧ k ≤ d.length ∧ x ∉ tosD (d.take k) ∧ w = wr
def rimgRel (d : Ways) (n : Nat) (w : World) (out i : Value) (wr : World) : Prop := ∃ k : Nat, i = .int .i64 k ∧ k ≤ n ∧ OwnI wr w.heap.size out (imgK d k) ∧ Below w.heap.size w wr
theorem imgK_len (d : Ways) (n : Nat) : (imgK d n).length ≤ n := by unfold imgK; exact Nat.le_trans (List.length_filter_le _ _) (by rw [ascL_len]; exact Nat.le_refl _)
end Go.Proofs.Ytljkojpooajlhaa

/- Walks: few, small of the laws on tongues. -/
namespace Go.Proofs.Ytljkojpooajlhaa
open Go Go.RowKit Go.Maps

def fewB (d : Ways) : Bool := d.all (fun x => decide (x.2.length ≤ 40)) && decide (d.length ≤ 40)
theorem fewB_le {d : Ways} (h : fewB d = true) : d.length ≤ 40 ∧ ∀ x ∈ d, x.2.length ≤ 1000 := by
  unfold fewB at h
  rw [Bool.and_eq_true, List.all_eq_true, decide_eq_true_eq] at h
  refine ⟨h.2, fun x hx => ?_⟩
  have := h.1 x hx
  rw [decide_eq_true_eq] at this
  omega
def fewRel (d : Ways) (w : World) (i : Value) (wr : World) : Prop := ∃ k : Nat, i = .int .i64 k ∧ k ≤ d.length ∧ (d.take k).all (fun x => decide (x.2.length ≤ 40)) = true ∧ w = wr
def smallTr (a b : Sg) (d : Ways) : Bool := smallT a [] && (smallT b [] && fewB d)
end Go.Proofs.Ytljkojpooajlhaa
