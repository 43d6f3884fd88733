/- The proof of a statement, some of its texts joined in build order: part A. -/
import Derived.Test.YtpmnnoopoblpgaaGreatMuB
import Derived.Test.YtpmnnoopoblpgaaGreatWalkF
import Derived.Test.YtpmnnoopoblpgaaGreatKeys
import Derived.Test.YtpmnnoopoblpgaaGreatBoxList
import Derived.Test.YtpmnnoopoblpgaaGreatRegion
import Derived.Deep.RegionLaw
import Derived.Test.YtpmnnoopoblpgaaGreatShAtoi
/- Detachment and proofs step by step, in plain words. No program is named. -/
namespace Go.Proofs.YtpmnnoopoblpgaaGreat

abbrev Stp := Int × Int × Int
noncomputable def detE (s : Sg) (m n : List Int) : List Int × Int :=
 if okT s m = true ∧ okT s n = true then (if m.headD 0 = 0 then uniE s ((argsT s m).getD 0 []) (apartT n) ((argsT s m).getD 1 []) else ([], 10)) else ([], 1)
theorem ar_zero {s : Sg} (hok : okSign s = true) : ar s 0 = 2 := by
 have hl := (okSign_len hok).1
 unfold okSign at hok
 simp only [Bool.and_eq_true, decide_eq_true_eq] at hok
 unfold ar arC
 rw [if_neg (by omega), if_pos ⟨by omega, by omega⟩]
 have := hok.2
 simp only [Int.toNat_zero] at *
 rw [this]; rfl
theorem halves {s : Sg} {m : List Int} (h : okT s m = true) (h0 : m.headD 0 = 0) : ∃ A B, argsT s m = [A, B] ∧ m = 0 :: (A ++ B) ∧ okT s A = true ∧ okT s B = true := by
 obtain ⟨h1, h2, h3⟩ := argsT_spec h
 rw [h0] at h1 h2
 rw [ar_zero (okT_parts h).1] at h1
 obtain ⟨L, hL⟩ : ∃ L, argsT s m = L := ⟨_, rfl⟩
 rw [hL] at h1 h2 h3
 match L, h1 with
 | [A, B], _ =>
  refine ⟨A, B, hL, ?_, h3 A (by simp), h3 B (by simp)⟩
  rw [h2]; simp
theorem halves_of {s : Sg} {m A B : List Int} (h : okT s m = true) (e : m = 0 :: (A ++ B)) (hA : W1 s A) : argsT s m = [A, B] ∧ okT s A = true ∧ okT s B = true := by
 obtain ⟨A', B', h1, h2, h3, h4⟩ := halves h (by rw [e]; rfl)
 rw [e] at h2
 obtain ⟨e1, e2⟩ := W1.uniq hA (okT_w1 h3) (List.cons.inj h2).2
 subst e1 e2
 exact ⟨h1, h3, h4⟩
theorem detE_at {s : Sg} {m n A B : List Int} (h : okT s m = true) (hn : okT s n = true) (e : m = 0 :: (A ++ B)) (hA : W1 s A) : detE s m n = uniE s A (apartT n) B := by
 unfold detE
 rw [if_pos ⟨h, hn⟩, if_pos (by rw [e]; rfl), (halves_of h e hA).1]; rfl
theorem detE_state {s : Sg} {m n : List Int} (h : okT s m = true) (hn : okT s n = true) (h0 : m.headD 0 ≠ 0) : detE s m n = ([], 10) := by
 unfold detE
 rw [if_pos ⟨h, hn⟩, if_neg h0]
theorem det_cases {s : Sg} {m n : List Int} (h : okT s m = true) (hn : okT s n = true) :
  (m.headD 0 ≠ 0 ∧ detE s m n = ([], 10)) ∨ ∃ A B, argsT s m = [A, B] ∧ m = 0 :: (A ++ B) ∧ okT s A = true ∧ okT s B = true ∧
   ((∃ θ, IsMgu s A (apartT n) θ ∧ detE s m n = madeE θ B ∧ uniB s A (apartT n) = true) ∨ ((∀ η, Wsub s η → ap η A ≠ ap η (apartT n)) ∧ detE s m n = ([], 8) ∧ uniB s A (apartT n) = false)) := by
 by_cases h0 : m.headD 0 = 0
 ·obtain ⟨A, B, h1, h2, h3, h4⟩ := halves h h0
  refine .inr ⟨A, B, h1, h2, h3, h4, ?_⟩
  rw [detE_at h hn h2 (okT_w1 h3)]
  rcases uni_cases (okT_parts h).1 (okT_w1 h3) (apartT_w (okT_w1 hn)) (okT_Rg h3) (apartT_rg hn) with ⟨θ, hθ⟩ | ⟨k1, k2, k3⟩
  ·exact .inl ⟨θ, hθ, uniE_some hθ B, uniB_some hθ⟩
  ·exact .inr ⟨k1, k3 B, k2⟩
 ·exact .inl ⟨h0, detE_state h hn h0⟩
theorem det_ok {s : Sg} {m n : List Int} (h : (detE s m n).2 = 0) : okT s m = true ∧ okT s n = true ∧ okT s (detE s m n).1 = true := by
 by_cases hk : okT s m = true ∧ okT s n = true
 ·refine ⟨hk.1, hk.2, ?_⟩
  rcases det_cases hk.1 hk.2 with ⟨-, e⟩ | ⟨A, B, -, -, -, hB, (⟨θ, hθ, e, -⟩ | ⟨-, e, -⟩)⟩
  ·rw [e] at h; cases h
  ·rw [e] at h ⊢; exact (madeE_ok (okT_parts hk.1).1 hθ.th (okT_w1 hB) h).1
  ·rw [e] at h; cases h
 ·unfold detE at h; rw [if_neg hk] at h; cases h
theorem det_err {s : Sg} {m n : List Int} (hm : okT s m = true) (hn : okT s n = true) : (detE s m n).2 = 0 ∨ ((detE s m n).1 = [] ∧ ((detE s m n).2 = 4 ∨ (detE s m n).2 = 8 ∨ (detE s m n).2 = 10)) := by
 rcases det_cases hm hn with ⟨-, e⟩ | ⟨A, B, -, -, -, hB, (⟨θ, hθ, e, -⟩ | ⟨-, e, -⟩)⟩
 ·rw [e]; exact .inr ⟨rfl, .inr (.inr rfl)⟩
 ·rw [e]; unfold madeE; split
  ·exact .inl rfl
  ·exact .inr ⟨rfl, .inl rfl⟩
 ·rw [e]; exact .inr ⟨rfl, .inr (.inl rfl)⟩
def Ins (s : Sg) (a b : List Int) : Prop := ∃ η, Wsub s η ∧ ap η a = b
theorem Ins.canon {s : Sg} {a b : List Int} (h : Ins s a b) : Ins s (canon a) (canon b) := by
 obtain ⟨η, hw, he⟩ := h
 obtain ⟨τ, ht, hb⟩ := canon_back (s := s) a
 refine ⟨fun n => ap (fun n => [canonW (varsC b) n]) (ap η (τ n)), fun n hn => ((ht n hn).ap hw).ap (fun m hm => W1.var (canonW_lt hm)), ?_⟩
 rw [← ap_ap (fun n => ap η (τ n)), ← ap_ap τ η, hb, he, ← canon_ap]
theorem det_mono {s : Sg} {M N M' N' : List Int} (hM : okT s M = true) (hN : okT s N = true) (iM : Ins s M M') (iN : Ins s N N') (h : (detE s M' N').2 = 0) :
  (detE s M N).2 = 4 ∨ (detE s M N).2 = 10 ∨ ((detE s M N).2 = 0 ∧ Ins s (detE s M N).1 (detE s M' N').1) := by
 obtain ⟨hM', hN', -⟩ := det_ok h
 obtain ⟨η, hη, rfl⟩ := iM
 obtain ⟨ζ, hζ, rfl⟩ := iN
 rcases det_cases hM hN with ⟨-, e⟩ | ⟨A, B, -, eM, hA, hB, hU⟩
 ·rw [e]; exact .inr (.inl rfl)
 ·have eM' : ap η M = 0 :: (ap η A ++ ap η B) := by rw [eM, ap_pos (by decide), ap_append]
  have hd := detE_at hM' hN' eM' ((okT_w1 hA).ap hη)
  have hok := (okT_parts hM).1
  have hA' := (halves_of hM' eM' ((okT_w1 hA).ap hη)).2.1
  have hB' := (halves_of hM' eM' ((okT_w1 hA).ap hη)).2.2
  rcases uni_cases hok (okT_w1 hA') (apartT_w (okT_w1 hN')) (okT_Rg hA') (apartT_rg hN') with ⟨θ', hθ'⟩ | ⟨-, -, k3⟩
  ·rw [hd, uniE_some hθ'] at h ⊢
   have hξ : Wsub s (fun n => if n < -12 then ap θ' (apartT (ζ (n + 12))) else ap θ' (η n)) := fun n hn => by
    show W1 s (if n < -12 then ap θ' (apartT (ζ (n + 12))) else ap θ' (η n))
    split
    ·exact (apartT_w (hζ _ (by omega))).ap hθ'.th
    ·exact (hη n hn).ap hθ'.th
   have low : ∀ t : List Int, okT s t = true → ap (fun n => if n < -12 then ap θ' (apartT (ζ (n + 12))) else ap θ' (η n)) t = ap θ' (ap η t) := fun t ht => by
    rw [ap_ap]
    refine ap_congr (fun n hn h0 => if_neg ?_)
    have := okT_rg ht n hn h0; omega
   have hi : ap (fun n => if n < -12 then ap θ' (apartT (ζ (n + 12))) else ap θ' (η n)) (apartT N) = ap θ' (apartT (ap ζ N)) := by
    rw [ap_apart, apartT_eq (ap ζ N), ap_ap ζ, ap_ap]
    refine ap_congr (fun n hn h0 => ?_)
    rw [if_pos (by omega), show n - 12 + 12 = n by omega, apartT_eq]
   have heq := (low A hA).trans (hθ'.eq.trans hi.symm)
   rcases hU with ⟨θ, hθ, e, -⟩ | ⟨k1, -, -⟩
   ·rw [e]
    by_cases hz : (madeE θ B).2 = 0
    ·refine .inr (.inr ⟨hz, ?_⟩)
     rw [(madeE_ok hok hθ.th (okT_w1 hB) hz).2, (madeE_ok hok hθ'.th (okT_w1 hB') h).2]
     refine Ins.canon ⟨_, hξ, ?_⟩
     rw [hθ.most hξ heq B, low B hB]
    ·refine .inl ?_
     unfold madeE at hz ⊢
     split
     ·rename_i hc; rw [if_pos hc] at hz; exact (hz rfl).elim
     ·rfl
   ·exact (k1 _ hξ heq).elim
  ·rw [hd, k3] at h; cases h

/-! ### proofs -/
def rightB (G : Int) (n : Nat) (x : Stp) : Bool := (decide (x.1 = 1) && (decide (0 ≤ x.2.1) && decide (x.2.1 ≤ G - 1)) && decide (x.2.2 = 0)) || (decide (x.1 = 2) && (decide (0 ≤ x.2.1) && decide (x.2.1 ≤ (n : Int) - 1)) && (decide (0 ≤ x.2.2) && decide (x.2.2 ≤ (n : Int) - 1)))
def okSteps (G : Int) : Nat → List Stp → Bool
 | _, [] => true
 | n, x :: p => rightB G n x && okSteps G (n + 1) p
def validP (G : Int) (p : List Stp) : Bool := okSteps G 0 p && (decide (1 ≤ p.length) && decide (p.length ≤ 60))
def proofB (G : Int) (p : List Stp) : Bool := (decide (0 ≤ G) && decide (G ≤ 60)) && validP G p
def givensB (s : Sg) (g : List (List Int)) : Bool := okSign s && decide (g.length ≤ 60) && g.all (okT s)
noncomputable def stepE (s : Sg) (g l : List (List Int)) (x : Stp) : List Int × Int :=
 if x.1 = 1 then (canon (g.getD x.2.1.toNat []), 0) else detE s (l.getD x.2.1.toNat []) (l.getD x.2.2.toNat [])
noncomputable def runL (s : Sg) (g : List (List Int)) : List Stp → List (List Int) → List (List Int) × Int
 | [], l => (l, 0)
 | x :: p, l => if (stepE s g l x).2 = 0 then runL s g p (l ++ [(stepE s g l x).1]) else (l, (stepE s g l x).2)
def askedB (s : Sg) (g : List (List Int)) (p : List Stp) : Bool := givensB s g && validP g.length p
noncomputable def runR (s : Sg) (g : List (List Int)) (p : List Stp) : List (List Int) × Int × Int :=
 if askedB s g p = true then (if (runL s g p []).2 = 0 then ((runL s g p []).1, -1, 0) else ((runL s g p []).1, ((runL s g p []).1.length : Int), (runL s g p []).2)) else ([], 0, 1)
noncomputable def saysE (s : Sg) (g : List (List Int)) (p : List Stp) : List Int × Int :=
 if askedB s g p = true then (if (runL s g p []).2 = 0 then ((runL s g p []).1.getLastD [], 0) else ([], (runL s g p []).2)) else ([], 1)
theorem rightB_cite {G : Int} {n : Nat} {x : Stp} (h : rightB G n x = true) (h1 : x.1 = 1) : 0 ≤ x.2.1 ∧ x.2.1 < G ∧ x.2.2 = 0 := by
 simp only [rightB, Bool.or_eq_true, Bool.and_eq_true, decide_eq_true_eq] at h; omega
theorem rightB_detach {G : Int} {n : Nat} {x : Stp} (h : rightB G n x = true) (h1 : x.1 ≠ 1) : x.1 = 2 ∧ 0 ≤ x.2.1 ∧ x.2.1 < n ∧ 0 ≤ x.2.2 ∧ x.2.2 < n := by
 simp only [rightB, Bool.or_eq_true, Bool.and_eq_true, decide_eq_true_eq] at h; omega
theorem givensB_parts {s : Sg} {g : List (List Int)} (h : givensB s g = true) : okSign s = true ∧ g.length ≤ 60 ∧ ∀ t ∈ g, okT s t = true := by
 simp only [givensB, Bool.and_eq_true, decide_eq_true_eq, List.all_eq_true] at h
 exact ⟨h.1.1, h.1.2, h.2⟩
theorem getD_mem {α : Type} {l : List α} {n : Nat} (d : α) (h : n < l.length) : l.getD n d ∈ l := by
 rw [List.getD_eq_getElem?_getD, List.getElem?_eq_getElem h]; exact List.getElem_mem h
theorem step_okT {s : Sg} {g l : List (List Int)} {x : Stp} (hg : ∀ t ∈ g, okT s t = true) (hr : rightB g.length l.length x = true) (h : (stepE s g l x).2 = 0) : okT s (stepE s g l x).1 = true := by
 unfold stepE at h ⊢
 by_cases h1 : x.1 = 1
 ·rw [if_pos h1]
  obtain ⟨g1, g2, -⟩ := rightB_cite hr h1
  exact okT_canon (hg _ (getD_mem [] (by omega)))
 ·rw [if_neg h1] at h ⊢
  exact (det_ok h).2.2
theorem runL_okT {s : Sg} {g : List (List Int)} (hg : ∀ t ∈ g, okT s t = true) : ∀ (p : List Stp) (l : List (List Int)), (∀ t ∈ l, okT s t = true) → okSteps g.length l.length p = true → (∀ t ∈ (runL s g p l).1, okT s t = true) ∧ ((runL s g p l).2 = 0 → (runL s g p l).1.length = l.length + p.length) ∧ (runL s g p l).1.length ≤ l.length + p.length
 | [], l, hl, _ => ⟨hl, fun _ => rfl, Nat.le_refl _⟩
 | x :: p, l, hl, ho => by
  simp only [okSteps, Bool.and_eq_true] at ho
  rw [runL]
  split
  ·rename_i hz
   have hx := step_okT hg ho.1 hz
   have hl' : ∀ t ∈ l ++ [(stepE s g l x).1], okT s t = true := fun t ht => by
    rcases List.mem_append.1 ht with h | h
    ·exact hl t h
    ·rw [List.mem_singleton] at h; rw [h]; exact hx
   have ih := runL_okT hg p (l ++ [(stepE s g l x).1]) hl' (by rw [List.length_append, List.length_singleton]; exact ho.2)
   rw [List.length_append, List.length_singleton] at ih
   refine ⟨ih.1, fun h => ?_, ?_⟩
   ·rw [ih.2.1 h, List.length_cons]; omega
   ·rw [List.length_cons]; omega
  ·rename_i hz
   exact ⟨hl, fun h => (hz h).elim, by simp⟩
theorem run_mono {s : Sg} {g g' : List (List Int)} (hg : ∀ t ∈ g, okT s t = true) (hg' : ∀ t ∈ g', okT s t = true) (hlen : g.length = g'.length) (hi : ∀ i, i < g.length → Ins s (g.getD i []) (g'.getD i [])) :
  ∀ (p : List Stp) (l l' : List (List Int)), (∀ t ∈ l, okT s t = true) → (∀ t ∈ l', okT s t = true) → l.length = l'.length → (∀ i, i < l.length → Ins s (l.getD i []) (l'.getD i [])) → okSteps g.length l.length p = true → (runL s g' p l').2 = 0 →
   (runL s g p l).2 = 4 ∨ (runL s g p l).2 = 10 ∨ ((runL s g p l).2 = 0 ∧ (runL s g p l).1.length = (runL s g' p l').1.length ∧ ∀ i, i < (runL s g p l).1.length → Ins s ((runL s g p l).1.getD i []) ((runL s g' p l').1.getD i []))
 | [], l, l', hl, hl', hll, hii, _, _ => .inr (.inr ⟨rfl, hll, hii⟩)
 | x :: p, l, l', hl, hl', hll, hii, ho, hz => by
  simp only [okSteps, Bool.and_eq_true] at ho
  rw [runL] at hz
  by_cases hx' : (stepE s g' l' x).2 = 0
  ·rw [if_pos hx'] at hz
   have hs : (stepE s g l x).2 = 4 ∨ (stepE s g l x).2 = 10 ∨ ((stepE s g l x).2 = 0 ∧ Ins s (stepE s g l x).1 (stepE s g' l' x).1) := by
    unfold stepE at hx' ⊢
    by_cases h1 : x.1 = 1
    ·simp only [if_pos h1]
     obtain ⟨g1, g2, -⟩ := rightB_cite ho.1 h1
     exact .inr (.inr ⟨trivial, (hi _ (by omega)).canon⟩)
    ·simp only [if_neg h1] at hx' ⊢
     obtain ⟨-, d1, d2, d3, d4⟩ := rightB_detach ho.1 h1
     exact det_mono (hl _ (getD_mem [] (by omega))) (hl _ (getD_mem [] (by omega))) (hii _ (by omega)) (hii _ (by omega)) hx'
   rw [runL, runL, if_pos hx']
   rcases hs with h | h | ⟨h, hI⟩
   ·rw [if_neg (by omega)]; exact .inl h
   ·rw [if_neg (by omega)]; exact .inr (.inl h)
   ·rw [if_pos h]
    have o1 := step_okT hg ho.1 h
    have o2 := step_okT hg' (by rw [← hlen, ← hll]; exact ho.1) hx'
    refine run_mono hg hg' hlen hi p _ _ (fun t ht => ?_) (fun t ht => ?_) (by simp [hll]) (fun i hil => ?_) (by rw [List.length_append, List.length_singleton]; exact ho.2) hz
    ·rcases List.mem_append.1 ht with k | k
     ·exact hl t k
     ·rw [List.mem_singleton] at k; rw [k]; exact o1
    ·rcases List.mem_append.1 ht with k | k
     ·exact hl' t k
     ·rw [List.mem_singleton] at k; rw [k]; exact o2
    ·rw [List.length_append, List.length_singleton] at hil
     by_cases hlt : i < l.length
     ·rw [List.getD_eq_getElem?_getD, List.getD_eq_getElem?_getD, List.getElem?_append_left hlt, List.getElem?_append_left (by omega), ← List.getD_eq_getElem?_getD, ← List.getD_eq_getElem?_getD]
      exact hii i hlt
     ·obtain rfl : i = l.length := by omega
      rw [List.getD_eq_getElem?_getD, List.getD_eq_getElem?_getD, List.getElem?_append_right (Nat.le_refl _), List.getElem?_append_right (by omega), hll]
      simpa using hI
  ·rw [if_neg hx'] at hz; exact (hx' hz).elim
end Go.Proofs.YtpmnnoopoblpgaaGreat

/- Proofs joined and moved, in plain words. No program is named. -/
namespace Go.Proofs.YtpmnnoopoblpgaaGreat

theorem validP_parts {G : Int} {p : List Stp} (h : validP G p = true) : okSteps G 0 p = true ∧ 1 ≤ p.length ∧ p.length ≤ 60 := by
 simp only [validP, Bool.and_eq_true, decide_eq_true_eq] at h; exact h
theorem askedB_parts {s : Sg} {g : List (List Int)} {p : List Stp} (h : askedB s g p = true) : givensB s g = true ∧ validP g.length p = true := by
 simpa only [askedB, Bool.and_eq_true] using h
end Go.Proofs.YtpmnnoopoblpgaaGreat

/- Trees of proofs as texts, and proofs read back from such texts, in plain words. No program is named. -/
namespace Go.Proofs.YtpmnnoopoblpgaaGreat

/-! ### trees -/
inductive Tr where
 | g (n : Nat)
 | d (a b : Tr)
def digs (n : Nat) : List UInt8 := [UInt8.ofNat (48 + n / 10), UInt8.ofNat (48 + n % 10)]
def Tr.text : Tr → List UInt8
 | .g n => 103 :: digs n
 | .d a b => 68 :: (a.text ++ b.text)
def Tr.leaves : Tr → List Nat
 | .g n => [n]
 | .d a b => a.leaves ++ b.leaves
def Tr.subs : Tr → List Tr
 | .g n => [.g n]
 | .d a b => .d a b :: (a.subs ++ b.subs)
theorem Tr.text_len (t : Tr) : 3 ≤ t.text.length := by
 induction t with
 | g n => simp [Tr.text, digs]
 | d a b iha ihb => simp [Tr.text]; omega
theorem Tr.sub_self (t : Tr) : t ∈ t.subs := by cases t <;> simp [Tr.subs]
def trS (ts : List Tr) (x : Stp) : Tr := if x.1 = 2 then .d (ts.getD x.2.1.toNat (.g 0)) (ts.getD x.2.2.toNat (.g 0)) else .g x.2.1.toNat
def trL : List Stp → List Tr → List Tr
 | [], ts => ts
 | x :: p, ts => trL p (ts ++ [trS ts x])
def trees (p : List Stp) : List Tr := trL p []
theorem trL_append : ∀ (p q : List Stp) (ts : List Tr), trL (p ++ q) ts = trL q (trL p ts)
 | [], _, _ => rfl
 | x :: p, q, ts => by rw [List.cons_append, trL, trL, trL_append p q]
theorem trL_len : ∀ (p : List Stp) (ts : List Tr), (trL p ts).length = ts.length + p.length
 | [], _ => rfl
 | x :: p, ts => by rw [trL, trL_len p, List.length_append, List.length_singleton, List.length_cons]; omega
theorem trees_len (p : List Stp) : (trees p).length = p.length := by unfold trees; rw [trL_len]; simp
theorem trees_snoc (p : List Stp) (x : Stp) : trees (p ++ [x]) = trees p ++ [trS (trees p) x] := by unfold trees; rw [trL_append]; rfl
theorem getD_more {α : Type} {ts us : List α} {k : Nat} (d : α) (h : k < ts.length) : (ts ++ us).getD k d = ts.getD k d := by
 rw [List.getD_eq_getElem?_getD, List.getD_eq_getElem?_getD, List.getElem?_append_left h]
theorem getD_end {α : Type} (ts : List α) (x d : α) : (ts ++ [x]).getD ts.length d = x := by
 rw [List.getD_eq_getElem?_getD, List.getElem?_append_right (Nat.le_refl _)]; simp
theorem trS_more {G : Int} {n : Nat} {x : Stp} {ts us : List Tr} (h : rightB G n x = true) (hn : n ≤ ts.length) : trS (ts ++ us) x = trS ts x := by
 unfold trS
 by_cases h2 : x.1 = 2
 ·obtain ⟨-, d1, d2, d3, d4⟩ := rightB_detach h (by omega)
  rw [if_pos h2, if_pos h2, getD_more _ (by omega), getD_more _ (by omega)]
 ·rw [if_neg h2, if_neg h2]
theorem okS_snoc {G : Int} : ∀ (p : List Stp) (n : Nat) (x : Stp), okSteps G n (p ++ [x]) = (okSteps G n p && rightB G (n + p.length) x)
 | [], n, x => by simp [okSteps]
 | y :: p, n, x => by
  rw [List.cons_append, okSteps, okSteps, okS_snoc p (n + 1) x, Bool.and_assoc, List.length_cons, show n + 1 + p.length = n + (p.length + 1) by omega]
theorem okS_get {G : Int} : ∀ (p : List Stp) (n k : Nat) (hk : k < p.length), okSteps G n p = true → rightB G (n + k) p[k] = true
 | x :: p, n, 0, _, h => by simp only [okSteps, Bool.and_eq_true] at h; exact h.1
 | x :: p, n, k + 1, hk, h => by
  simp only [okSteps, Bool.and_eq_true] at h
  have := okS_get p (n + 1) k (by simpa using hk) h.2
  rw [show n + (k + 1) = n + 1 + k by omega]
  simpa using this
theorem trees_get {G : Int} : ∀ (q p : List Stp), okSteps G 0 (p ++ q) = true → (∀ k (hk : k < p.length), (trees p).getD k (.g 0) = trS (trees p) p[k]) → ∀ k (hk : k < (p ++ q).length), (trees (p ++ q)).getD k (.g 0) = trS (trees (p ++ q)) (p ++ q)[k]
 | [], p, _, h, k, hk => by
  simp only [List.append_nil] at hk ⊢
  exact h k hk
 | x :: q, p, ho, h, k, hk => by
  have e : p ++ x :: q = (p ++ [x]) ++ q := by simp
  have ho' : okSteps G 0 ((p ++ [x]) ++ q) = true := by rw [← e]; exact ho
  have hx : rightB G p.length x = true := by
   have := okS_get (p ++ x :: q) 0 p.length (by simp) ho
   simpa using this
  have hp : ∀ j (hj : j < p.length), rightB G j p[j] = true := fun j hj => by
   have := okS_get (p ++ x :: q) 0 j (by simp; omega) ho
   rw [List.getElem_append_left hj] at this
   simpa using this
  have ih := trees_get q (p ++ [x]) ho' (fun j hj => by
   rw [trees_snoc]
   rw [List.length_append, List.length_singleton] at hj
   by_cases hj' : j < p.length
   ·rw [getD_more _ (by rw [trees_len]; exact hj'), h j hj', List.getElem_append_left hj', trS_more (hp j hj') (by rw [trees_len]; omega)]
   ·obtain rfl : j = p.length := by omega
    have := getD_end (trees p) (trS (trees p) x) (.g 0)
    rw [trees_len] at this
    rw [this, List.getElem_append_right (Nat.le_refl _)]
    simp only [Nat.sub_self, List.getElem_singleton]
    rw [trS_more hx (by rw [trees_len]; omega)]) k (by rw [← e]; exact hk)
  simp only [← e] at ih
  exact ih
theorem trees_at {G : Int} {p : List Stp} (h : okSteps G 0 p = true) (k : Nat) (hk : k < p.length) : (trees p).getD k (.g 0) = trS (trees p) p[k] := by
 have := trees_get (G := G) p [] (by simpa using h) (fun k hk => by simp at hk) k (by simpa using hk)
 simpa using this

/-! ### reading a tree -/
def addP (p : List Stp) (x : Stp) : List Stp × Nat := if x ∈ p then (p, p.idxOf x) else (p ++ [x], p.length)
structure AddP (G : Int) (p : List Stp) (x : Stp) (p' : List Stp) (k : Nat) : Prop where
 nd : p'.Nodup
 ok : okSteps G 0 p' = true
 more : ∃ us, trees p' = trees p ++ us
 le : p.length ≤ p'.length
 lt : k < p'.length
 len : p'.length ≤ p.length + 1
 new : x ∉ p → k + 1 = p'.length
 tr : (trees p').getD k (.g 0) = trS (trees p) x
 all : ∀ t ∈ trees p', t ∈ trees p ∨ t = trS (trees p) x
 old : x ∈ p → p' = p
 pre : p <+: p'
theorem addP_spec {G : Int} {p : List Stp} {x : Stp} (nd : p.Nodup) (ok : okSteps G 0 p = true) (hx : rightB G p.length x = true) : AddP G p x (addP p x).1 (addP p x).2 := by
 unfold addP
 by_cases hm : x ∈ p
 ·rw [if_pos hm]
  have hi := List.idxOf_lt_length_of_mem hm
  exact ⟨nd, ok, ⟨[], by simp⟩, Nat.le_refl _, hi, Nat.le_succ _, fun h => (h hm).elim, by rw [trees_at ok _ hi]; simp, fun t ht => .inl ht, fun _ => rfl, List.prefix_refl _⟩
 ·rw [if_neg hm]
  refine ⟨?_, ?_, ⟨_, trees_snoc _ _⟩, by simp, by simp, by simp, fun _ => by simp, ?_, fun t ht => ?_, fun h => (hm h).elim, List.prefix_append _ _⟩
  ·rw [List.nodup_append]
   exact ⟨nd, by simp, fun a ha b hb e => by rw [List.mem_singleton] at hb; subst hb; subst e; exact hm ha⟩
  ·rw [okS_snoc, ok, Nat.zero_add, hx]; rfl
  ·rw [trees_snoc]
   have := getD_end (trees p) (trS (trees p) x) (.g 0)
   rw [trees_len] at this; exact this
  ·rw [trees_snoc, List.mem_append, List.mem_singleton] at ht; exact ht
def isDig (b : UInt8) : Bool := decide (48 ≤ b.toNat) && decide (b.toNat ≤ 57)
def numOf (a b : UInt8) : Nat := 10 * (a.toNat - 48) + (b.toNat - 48)
theorem digs_num {a b : UInt8} (ha : isDig a = true) (hb : isDig b = true) : digs (numOf a b) = [a, b] := by
 simp only [isDig, Bool.and_eq_true, decide_eq_true_eq] at ha hb
 unfold digs numOf
 have e1 : 48 + (10 * (a.toNat - 48) + (b.toNat - 48)) / 10 = a.toNat := by omega
 have e2 : 48 + (10 * (a.toNat - 48) + (b.toNat - 48)) % 10 = b.toNat := by omega
 rw [e1, e2]; simp
def rend (ts : List Tr) : List (Option Nat) → List UInt8
 | [] => []
 | none :: st => rend ts st ++ [68]
 | some m :: st => rend ts st ++ 68 :: (ts.getD m (.g 0)).text
theorem rend_more {ts us : List Tr} : ∀ {st : List (Option Nat)}, (∀ m, some m ∈ st → m < ts.length) → rend (ts ++ us) st = rend ts st
 | [], _ => rfl
 | none :: st, h => by rw [rend, rend, rend_more (fun m hm => h m (by simp [hm]))]
 | some m :: st, h => by rw [rend, rend, rend_more (fun m hm => h m (by simp [hm])), getD_more _ (h m (by simp))]
structure Jo (G : Int) (st : List (Option Nat)) (p : List Stp) (w : Option Nat) (c : List UInt8) : Prop where
 nd : p.Nodup
 ok : okSteps G 0 p = true
 stl : ∀ m, some m ∈ st → m < p.length
 open_ : w = none → c = rend (trees p) st
 whole : ∀ k, w = some k → st = [] ∧ k + 1 = p.length ∧ c = ((trees p).getD k (.g 0)).text
 le : ∀ t ∈ trees p, t.text.length ≤ c.length
 cnt : p.length + st.length ≤ c.length
structure Jc (G : Int) (st : List (Option Nat)) (p : List Stp) (k b : Nat) (c : List UInt8) : Prop where
 nd : p.Nodup
 ok : okSteps G 0 p = true
 stl : ∀ m, some m ∈ st → m < p.length
 kl : k < p.length
 txt : c = rend (trees p) st ++ ((trees p).getD k (.g 0)).text
 le : ∀ t ∈ trees p, t.text.length ≤ b ∨ t.text.length ≤ ((trees p).getD k (.g 0)).text.length
 bl : b < c.length
 last : st = [] → k + 1 = p.length
 cnt : p.length + st.length ≤ c.length
theorem Jo.start (G : Int) : Jo G [] [] none [] := ⟨.nil, rfl, (fun m h => by cases h), fun _ => rfl, (fun k h => by cases h), (fun t h => by cases h), Nat.le_refl _⟩
theorem Jo.d {G : Int} {st : List (Option Nat)} {p : List Stp} {c : List UInt8} (h : Jo G st p none c) : Jo G (none :: st) p none (c ++ [68]) :=
 ⟨h.nd, h.ok, fun m hm => h.stl m (by simpa using hm), fun _ => by rw [rend, ← h.open_ rfl], (fun k e => by cases e), fun t ht => by have := h.le t ht; simp; omega, by have := h.cnt; simp; omega⟩
theorem right_cite {G : Int} {n i : Nat} (h : (n : Int) < G) : rightB G i (1, (n : Int), 0) = true := by
 simp only [rightB, Bool.or_eq_true, Bool.and_eq_true, decide_eq_true_eq]; left; exact ⟨⟨trivial, by omega, by omega⟩, trivial⟩
theorem trS_cite (ts : List Tr) (n : Nat) : trS ts (1, (n : Int), 0) = .g n := by unfold trS; rw [if_neg (by simp)]; rfl
theorem mem_trees {G : Int} {p : List Stp} {x : Stp} (ok : okSteps G 0 p = true) (h : x ∈ p) : trS (trees p) x ∈ trees p := by
 obtain ⟨i, hi, rfl⟩ := List.getElem_of_mem h
 rw [← trees_at ok i hi, List.getD_eq_getElem?_getD, List.getElem?_eq_getElem (by rw [trees_len]; exact hi)]
 exact List.getElem_mem _
theorem Jo.g {G : Int} {st : List (Option Nat)} {p : List Stp} {c : List UInt8} {a b : UInt8} (h : Jo G st p none c) (ha : isDig a = true) (hb : isDig b = true) (hG : (numOf a b : Int) < G) :
  Jc G st (addP p (1, (numOf a b : Int), 0)).1 (addP p (1, (numOf a b : Int), 0)).2 c.length (c ++ [103, a, b]) := by
 have hS := addP_spec h.nd h.ok (right_cite (i := p.length) hG)
 obtain ⟨us, hus⟩ := hS.more
 have htr := hS.tr
 rw [trS_cite] at htr
 have htx : (Tr.g (numOf a b)).text = [103, a, b] := by rw [Tr.text, digs_num ha hb]
 refine ⟨hS.nd, hS.ok, fun m hm => Nat.lt_of_lt_of_le (h.stl m hm) hS.le, hS.lt, ?_, fun t ht => ?_, by simp, fun hst => hS.new fun hm => ?_, ?_⟩
 ·rw [htr, htx, hus, rend_more (by rw [trees_len]; exact h.stl), ← h.open_ rfl]
 ·rcases hS.all t ht with h1 | h1
  ·exact .inl (h.le t h1)
  ·rw [htr, h1, trS_cite]; exact .inr (Nat.le_refl _)
 ·have h1 := h.le _ (mem_trees h.ok hm)
  have h2 := Tr.text_len (trS (trees p) (1, (numOf a b : Int), 0))
  rw [h.open_ rfl, hst] at h1
  simp only [rend, List.length_nil] at h1
  omega
 ·have := h.cnt
  have := hS.len
  simp; omega
theorem Jc.done {G : Int} {p : List Stp} {k b : Nat} {c : List UInt8} (h : Jc G [] p k b c) : Jo G [] p (some k) c := by
 have hc := h.txt
 rw [rend, List.nil_append] at hc
 refine ⟨h.nd, h.ok, h.stl, (fun e => by cases e), fun j e => by cases e; exact ⟨rfl, h.last rfl, hc⟩, fun t ht => ?_, h.cnt⟩
 have hb := h.bl
 rw [hc] at hb ⊢
 rcases h.le t ht with h1 | h1 <;> omega
end Go.Proofs.YtpmnnoopoblpgaaGreat

/- Walks of package kernel: steps in memory; right, valid, ValidGivens, asked. -/
namespace Go.Proofs.YtpmnnoopoblpgaaGreat
open Go Go.RowKit Go.Maps

def stpE : Enc Stp := pairE intE (pairE intE intE)
abbrev Steps := Sl stpE
abbrev stpV (x : Stp) : Value := .agg #[.int .i64 x.1, .int .i64 x.2.1, .int .i64 x.2.2]
def stpR (x : Stp) : Prop := inRange x.1 ∧ inRange x.2.1 ∧ inRange x.2.2
theorem Sl.stp {S : Nat → Prop} {w : World} {a : Option Addr} {c : Nat} {l : List Stp} (h : Steps S w a c l) (i : Nat) (hi : i < l.length) :
  ∃ b off, a = some ⟨b, off, none⟩ ∧ S b ∧ w.cell? ⟨b, off + i * 3, none⟩ = some (.int .i64 l[i].1) ∧ w.cell? ⟨b, off + i * 3 + 1, none⟩ = some (.int .i64 l[i].2.1) ∧ w.cell? ⟨b, off + i * 3 + 2, none⟩ = some (.int .i64 l[i].2.2) ∧ stpR l[i] := by
 obtain ⟨b, off, ha, hb, _, vs, _, hv, hr⟩ := h.at1 i hi
 obtain ⟨us, ts, rfl, ⟨rfl, h1⟩, us', ts', rfl, ⟨rfl, h2⟩, ⟨rfl, h3⟩⟩ := hr
 have h0 := hv 0 (by simp)
 have h4 := hv 1 (by simp)
 have h5 := hv 2 (by simp)
 simp [stpE, pairE, intE] at h0 h4 h5
 exact ⟨b, off, ha, hb, h0, h4, h5, h1, h2, h3⟩

theorem kwithin_any (n lo hi : Int) (w : World) :
  Calls Tryz.prog 130 #[.int .i64 n, .int .i64 lo, .int .i64 hi] w fun e w' => e = .returned (.bool (decide (lo ≤ n) && decide (n ≤ hi))) ∧ w = w' := by
 go_enter Tryz.func130, Tryz.ntmps130
 go_wp2
 all_goals go_ret
 all_goals exact ⟨ret_bool (by simp; omega), rfl⟩

set_option maxHeartbeats 1000000 in
theorem right_any (G : Int) (n : Nat) (x : Stp) (w : World) (h0 : 0 ≤ G) (h1 : G ≤ 1000000) (hn : n ≤ 9223372036854775807) :
  Calls Tryz.prog 172 #[.int .i64 G, .int .i64 n, stpV x] w fun e w' => e = .returned (.bool (rightB G n x)) ∧ Below w.heap.size w w' := by
 obtain ⟨k, A, B⟩ := x
 have e1 : IntKind.i64.wrap (G - 1) = G - 1 := IntWalk.i64_in _ (by omega)
 have e2 : IntKind.i64.wrap ((n : Int) - 1) = (n : Int) - 1 := IntWalk.i64_in _ (by omega)
 have hb := below1 w (.cells #[.int .i64 k, .int .i64 A, .int .i64 B] 117)
 have c1 := fun W => kwithin_any A 0 (G - 1) W
 have c2 := fun W => kwithin_any A 0 ((n : Int) - 1) W
 have c3 := fun W => kwithin_any B 0 ((n : Int) - 1) W
 by_cases hk1 : k = 1
 ·subst hk1
  have hR : rightB G n (1, A, B) = ((decide (0 ≤ A) && decide (A ≤ G - 1)) && decide (B = 0)) := by simp [rightB]
  obtain ⟨y, hy⟩ : ∃ y, (decide (0 ≤ A) && decide (A ≤ G - 1)) = y := ⟨_, rfl⟩
  rw [hy] at c1 hR
  have c1H := Lib.hid c1
  have hRH := Lib.hid hR
  clear c1 c2 c3 hR hy
  cases y with
  | false =>
   go_enter Tryz.func172, Tryz.ntmps172
   go_wp2_with (go_at_call 130; refine (c1H.out _).mono ?_; rintro e w1 ⟨rfl, rfl⟩)
   go_ret
   exact ⟨by rw [hRH.out]; rfl, hb⟩
  | true =>
   by_cases hB : B = 0
   ·subst hB
    go_enter Tryz.func172, Tryz.ntmps172
    go_wp2_with (go_at_call 130; refine (c1H.out _).mono ?_; rintro e w1 ⟨rfl, rfl⟩)
    go_ret
    exact ⟨by rw [hRH.out]; rfl, hb⟩
   ·have hBb : (B == 0) = false := by simpa using hB
    go_enter Tryz.func172, Tryz.ntmps172
    go_wp2_with (go_at_call 130; refine (c1H.out _).mono ?_; rintro e w1 ⟨rfl, rfl⟩)
    go_ret
    exact ⟨by rw [hRH.out, decide_eq_false hB]; rfl, hb⟩
 ·have hk1b : (k == 1) = false := by simpa using hk1
  by_cases hk2 : k = 2
  ·subst hk2
   have hR : rightB G n (2, A, B) = ((decide (0 ≤ A) && decide (A ≤ (n : Int) - 1)) && (decide (0 ≤ B) && decide (B ≤ (n : Int) - 1))) := by simp [rightB]
   obtain ⟨y, hy⟩ : ∃ y, (decide (0 ≤ A) && decide (A ≤ (n : Int) - 1)) = y := ⟨_, rfl⟩
   obtain ⟨z, hz⟩ : ∃ y, (decide (0 ≤ B) && decide (B ≤ (n : Int) - 1)) = y := ⟨_, rfl⟩
   rw [hy] at c2 hR
   rw [hz] at c3 hR
   have c2H := Lib.hid c2
   have c3H := Lib.hid c3
   have hRH := Lib.hid hR
   clear c1 c2 c3 hR hy hz hk1b
   cases y with
   | false =>
    go_enter Tryz.func172, Tryz.ntmps172
    go_wp2_with fail
    refine (c2H.out _).mono ?_
    rintro e w1 ⟨rfl, rfl⟩
    go_wp2_with fail
    go_ret
    exact ⟨by rw [hRH.out]; rfl, hb⟩
   | true =>
    go_enter Tryz.func172, Tryz.ntmps172
    go_wp2_with fail
    refine (c2H.out _).mono ?_
    rintro e w1 ⟨rfl, rfl⟩
    go_wp2_with fail
    refine (c3H.out _).mono ?_
    rintro e w1 ⟨rfl, rfl⟩
    go_wp2_with fail
    go_ret
    exact ⟨by rw [hRH.out]; rfl, hb⟩
  ·have hk2b : (k == 2) = false := by simpa using hk2
   have hR : rightB G n (k, A, B) = false := by simp [rightB, hk1, hk2]
   go_enter Tryz.func172, Tryz.ntmps172
   go_wp2_with fail
   go_ret
   exact ⟨by rw [hR]; rfl, hb⟩
theorem okSteps_snoc {G : Int} : ∀ (p : List Stp) (n : Nat) (x : Stp), okSteps G n (p ++ [x]) = (okSteps G n p && rightB G (n + p.length) x)
 | [], n, x => by simp [okSteps]
 | y :: p, n, x => by
  rw [List.cons_append, okSteps, okSteps, okSteps_snoc p (n + 1) x, Bool.and_assoc, List.length_cons, show n + 1 + p.length = n + (p.length + 1) by omega]
theorem okSteps_take {G : Int} : ∀ (p : List Stp) (n k : Nat), okSteps G n p = true → okSteps G n (p.take k) = true
 | [], _, _, _ => by simp [okSteps]
 | x :: p, n, 0, _ => rfl
 | x :: p, n, k + 1, h => by
  simp only [okSteps, Bool.and_eq_true] at h
  rw [List.take_succ_cons, okSteps, Bool.and_eq_true]
  exact ⟨h.1, okSteps_take p (n + 1) k h.2⟩
set_option maxHeartbeats 1000000 in
theorem kvalid_any {S : Nat → Prop} (G : Int) (a : Option Addr) (c : Nat) (p : List Stp) (w : World) (h : Steps S w a c p) (h0 : 0 ≤ G) (h1 : G ≤ 1000000) :
  Calls Tryz.prog 131 #[.int .i64 G, .slice a p.length c] w fun e w' => e = .returned (.bool (validP G p)) ∧ Below w.heap.size w w' := by
 have m := h.le
 go_enter Tryz.func131, Tryz.ntmps131
 go_wp2_with fail
 go_loopw [9] (fun i wr => ∃ k : Nat, k ≤ p.length ∧ i = .int .i64 k ∧ okSteps G 0 (p.take k) = true ∧ Below w.heap.size w wr) (fun i _ => p.length - (intOf i).toNat)
 case atStart => exact ⟨0, Nat.zero_le _, rfl, rfl, .refl _ _⟩
 case round =>
  obtain ⟨k, hk, rfl, hall, hB⟩ := hrel
  by_cases hlt : k < p.length
  ·obtain ⟨b, o, rfl, -, q0, q1, q2, hr⟩ := (h.below hB).stp k hlt
   have hstep := okSteps_snoc (G := G) (p.take k) 0 p[k]
   rw [List.length_take, Nat.min_eq_left (by omega), Nat.zero_add, ← List.take_succ_eq_append_getElem hlt, hall, Bool.true_and] at hstep
   have cr := fun W => right_any G k p[k] W h0 h1 (by omega)
   obtain ⟨x, hx⟩ : ∃ x, p[k] = x := ⟨_, rfl⟩
   obtain ⟨y, hy⟩ : ∃ y, rightB G k p[k] = y := ⟨_, rfl⟩
   rw [hy] at hstep cr
   rw [hx] at cr q0 q1 q2
   obtain ⟨x1, x2, x3⟩ := x
   simp only at q0 q1 q2
   have hb2 := fun W => below1 W (.cells #[.int .i64 x1, .int .i64 x2, .int .i64 x3] 117)
   have crH := Lib.hid cr
   have hstH := Lib.hid hstep
   have hBH := Lib.hid hB
   clear cr hstep hB hall hx hy h
   cases y with
   | true =>
    go_wp2_with (go_at_call 172; refine (crH.out _).mono ?_; rintro e w1 ⟨rfl, hb⟩)
    go_roundw
    case rel => exact ⟨k + 1, by omega, by go_num, hstH.out, bcall hBH.out (bcall (hb2 _) hb)⟩
    case measure => simp [intOf]; omega
   | false =>
    go_wp2_with (go_at_call 172; refine (crH.out _).mono ?_; rintro e w1 ⟨rfl, hb⟩)
    go_ret
    have hf : validP G p = false := by
     unfold validP
     cases ho : okSteps G 0 p with
     | false => rfl
     | true => have := okSteps_take p 0 (k + 1) ho; rw [hstH.out] at this; cases this
    exact ⟨ret_bool hf.symm, bcall hBH.out (bcall (hb2 _) hb)⟩
  ·rw [List.take_of_length_le (by omega)] at hall
   have cw := fun W => kwithin_any (p.length : Int) 1 60 W
   have hf : (decide ((1 : Int) ≤ p.length) && decide ((p.length : Int) ≤ 60)) = validP G p := by
    unfold validP
    rw [hall, Bool.true_and, Bool.eq_iff_iff]
    simp only [Bool.and_eq_true, decide_eq_true_eq]
    omega
   rw [hf] at cw
   have cwH := Lib.hid cw
   clear hall cw hf
   go_wp2_with (go_at_call 130; refine (cwH.out _).mono ?_; rintro e w1 ⟨rfl, rfl⟩)
   go_ret
   exact ⟨rfl, hB⟩

set_option maxHeartbeats 1000000 in
theorem IndexVG_any {S1 S2 : Nat → Prop} (a1 a2 : Option Addr) (c1 c2 : Nat) (s : Sg) (L : List (List Int)) (bx : Nat) (w : World) (h1 : Sign S1 w a1 c1 s) (h2 : Terms S2 w a2 c2 L) (hq : w.cell? ⟨bx, 0, none⟩ = some (.slice a1 s.length c1)) :
  Calls Tryz.prog 224 #[.slice a2 L.length c2, .func (.func 205) #[] #[.pointer (some ⟨bx, 0, none⟩)]] w (idxTPost s L w) := by
 have m2 := h2.le
 have hbx : bx < w.heap.size := World.block_lt_of_cell? w _ hq
 go_enter Tryz.func224, Tryz.ntmps224
 go_wp2_with fail
 go_loopw [8] (fun i wr => ∃ k : Nat, k ≤ L.length ∧ i = .int .i64 k ∧ (L.take k).all (okT s) = true ∧ Below w.heap.size w wr) (fun i _ => L.length - (intOf i).toNat)
 case atStart => exact ⟨0, Nat.zero_le _, rfl, rfl, .refl _ _⟩
 case round =>
  obtain ⟨k, hk, rfl, hall, hB⟩ := hrel
  by_cases hlt : k < L.length
  ·obtain ⟨b, o, a', c', rfl, -, q, hI⟩ := h2.sub k hlt
   have q' := (hB.cell (p := ⟨b, o + k, none⟩) (World.block_lt_of_cell? _ _ q)).trans q
   have hq' := (hB.cell (p := ⟨bx, 0, none⟩) hbx).trans hq
   have v1 := Valid_any a1 a' c1 c' s L[k] wr (h1.below hB) (hI.below hB)
   obtain ⟨x, hx⟩ : ∃ x, okT s L[k] = x := ⟨_, rfl⟩
   rw [hx] at v1
   have cf : Calls Tryz.prog 205 #[.slice a' L[k].length c', .pointer (some ⟨bx, 0, none⟩)] wr fun e w' => e = .returned (.bool (!x)) ∧ Below wr.heap.size wr w' := by
    have v1H := Lib.hid v1
    clear v1 hI h1 h2 hx hB hall q hq
    go_enter Tryz.func205, Tryz.ntmps205
    go_wp2_with (go_at_call 119; refine v1H.out.mono ?_; rintro e w1 ⟨rfl, hb⟩)
    go_ret
    exact ⟨rfl, hb⟩
   have cfH := Lib.hid cf
   have hallH := Lib.hid hall
   have hxH := Lib.hid hx
   have hBH := Lib.hid hB
   clear v1 cf hall hI h1 h2 hx hB q hq
   cases x with
   | true =>
    go_wp2_with (go_at_call 205; refine cfH.out.mono ?_; rintro e w1 ⟨rfl, hb⟩)
    go_roundw
    case rel => exact ⟨k + 1, by omega, by go_num, by rw [List.take_succ_eq_append_getElem hlt, List.all_append, hallH.out]; simp [hxH.out], hBH.out.trans (hb.mono hBH.out.size)⟩
    case measure => simp [intOf]; omega
   | false =>
    go_wp2_with (go_at_call 205; refine cfH.out.mono ?_; rintro e w1 ⟨rfl, hb⟩)
    go_ret
    have hf : L.all (okT s) = false := by rw [List.all_eq_false]; exact ⟨L[k], List.getElem_mem hlt, by rw [hxH.out]; simp⟩
    exact ⟨k, rfl, by omega, by rw [hf]; simp, hBH.out.trans (hb.mono hBH.out.size)⟩
  ·rw [List.take_of_length_le (by omega)] at hall
   have hallH := Lib.hid hall
   clear hall
   go_wp2_with fail
   go_ret
   exact ⟨-1, rfl, by omega, by rw [hallH.out]; rfl, hB⟩
set_option maxHeartbeats 1000000 in
theorem ContainsVG_any {S1 S2 : Nat → Prop} (a1 a2 : Option Addr) (c1 c2 : Nat) (s : Sg) (L : List (List Int)) (bx : Nat) (w : World) (h1 : Sign S1 w a1 c1 s) (h2 : Terms S2 w a2 c2 L) (hq : w.cell? ⟨bx, 0, none⟩ = some (.slice a1 s.length c1)) :
  Calls Tryz.prog 204 #[.slice a2 L.length c2, .func (.func 205) #[] #[.pointer (some ⟨bx, 0, none⟩)]] w fun e w' => e = .returned (.bool (!(L.all (okT s)))) ∧ Below w.heap.size w w' := by
 have ci := IndexVG_any a1 a2 c1 c2 s L bx w h1 h2 hq
 have ciH := Lib.hid ci
 clear ci h1 h2 hq
 go_enter Tryz.func204, Tryz.ntmps204
 go_wp2_with (go_at_call 224; refine ciH.out.mono ?_; rintro e w' ⟨n, rfl, hn, hn2, hb⟩; have hn2H := Lib.hid hn2; clear hn2)
 go_ret
 exact ⟨ret_bool hn2H.out, hb⟩
set_option maxHeartbeats 1000000 in
theorem ValidGivens_any {S1 S2 : Nat → Prop} (a1 a2 : Option Addr) (c1 c2 : Nat) (s : Sg) (L : List (List Int)) (w : World) (h1 : Sign S1 w a1 c1 s) (h2 : Terms S2 w a2 c2 L) :
  Calls Tryz.prog 170 #[.slice a1 s.length c1, .slice a2 L.length c2] w fun e w' => e = .returned (.bool (givensB s L)) ∧ Below w.heap.size w w' := by
 have m2 := h2.le
 have hb0 := below1 w (.cells #[.slice a1 s.length c1] 23)
 have q0 : (w.alloc (.cells #[.slice a1 s.length c1] 23)).cell? ⟨w.heap.size, 0, none⟩ = some (.slice a1 s.length c1) := by go_simp
 have v1 := ValidSign_any a1 c1 s (w.alloc (.cells #[.slice a1 s.length c1] 23)) (h1.below hb0)
 have v2 := fun W (hb : Below w.heap.size w W) hq => ContainsVG_any a1 a2 c1 c2 s L w.heap.size W (h1.below hb) (h2.below hb) hq
 have hg : givensB s L = (okSign s && decide (L.length ≤ 60) && L.all (okT s)) := rfl
 obtain ⟨x, hx⟩ : ∃ x, okSign s = x := ⟨_, rfl⟩
 obtain ⟨y, hy⟩ : ∃ x, L.all (okT s) = x := ⟨_, rfl⟩
 rw [hx] at v1 hg
 rw [hy] at v2 hg
 have v1H := Lib.hid v1
 have v2H := Lib.hid v2
 have hgH := Lib.hid hg
 have hb0H := Lib.hid hb0
 clear v1 v2 h1 h2 hx hy hg hb0
 cases x with
 | false =>
  go_enter Tryz.func170, Tryz.ntmps170
  go_wp2_with fail
  refine v1H.out.mono ?_
  rintro e w1 ⟨rfl, hb1⟩
  go_wp2_with fail
  go_ret
  exact ⟨by rw [hgH.out]; rfl, bcall hb0H.out hb1⟩
 | true =>
  by_cases h60 : L.length ≤ 60
  ·have hd : decide ((L.length : Int) ≤ 60) = true := by simp; omega
   go_enter Tryz.func170, Tryz.ntmps170
   go_wp2_with fail
   refine v1H.out.mono ?_
   rintro e w1 ⟨rfl, hb1⟩
   have q1 := cell_later hb1 q0
   have hb1 := bcall hb0H.out hb1
   go_wp2_with fail
   refine (v2H.out _ hb1 q1).mono ?_
   rintro e w2 ⟨rfl, hb2⟩
   go_wp2_with fail
   go_ret
   exact ⟨by rw [hgH.out, decide_eq_true h60]; simp, bcall hb1 hb2⟩
  ·have hd : decide ((L.length : Int) ≤ 60) = false := by simp; omega
   go_enter Tryz.func170, Tryz.ntmps170
   go_wp2_with fail
   refine v1H.out.mono ?_
   rintro e w1 ⟨rfl, hb1⟩
   go_wp2_with fail
   go_ret
   exact ⟨by rw [hgH.out, decide_eq_false h60]; rfl, bcall hb0H.out hb1⟩
set_option maxHeartbeats 1000000 in
theorem asked_any {S1 S2 S3 : Nat → Prop} (a1 a2 a3 : Option Addr) (c1 c2 c3 : Nat) (s : Sg) (L : List (List Int)) (p : List Stp) (w : World) (h1 : Sign S1 w a1 c1 s) (h2 : Terms S2 w a2 c2 L) (h3 : Steps S3 w a3 c3 p) :
  Calls Tryz.prog 127 #[.slice a1 s.length c1, .slice a2 L.length c2, .slice a3 p.length c3] w fun e w' => e = .returned (.bool (askedB s L p)) ∧ Below w.heap.size w w' := by
 have m2 := h2.le
 have m3 := h3.le
 have v1 := ValidGivens_any a1 a2 c1 c2 s L w h1 h2
 have v2 : L.length ≤ 60 → ∀ W, Below w.heap.size w W → _ := fun hl W hb => kvalid_any (L.length : Int) a3 c3 p W (h3.below hb) (by omega) (by omega)
 have hg : askedB s L p = (givensB s L && validP L.length p) := rfl
 have hl : givensB s L = true → L.length ≤ 60 := fun h => (givensB_parts h).2.1
 obtain ⟨x, hx⟩ : ∃ x, givensB s L = x := ⟨_, rfl⟩
 rw [hx] at v1 hg hl
 have v1H := Lib.hid v1
 have v2H := Lib.hid v2
 have hgH := Lib.hid hg
 have hlH := Lib.hid hl
 clear v1 v2 h1 h2 h3 hx hg hl
 cases x with
 | false =>
  go_enter Tryz.func127, Tryz.ntmps127
  go_wp2_with fail
  refine v1H.out.mono ?_
  rintro e w1 ⟨rfl, hb1⟩
  go_wp2_with fail
  go_ret
  exact ⟨by rw [hgH.out]; rfl, hb1⟩
 | true =>
  go_enter Tryz.func127, Tryz.ntmps127
  go_wp2_with fail
  refine v1H.out.mono ?_
  rintro e w1 ⟨rfl, hb1⟩
  go_wp2_with fail
  refine (v2H.out (hlH.out trivial) _ hb1).mono ?_
  rintro e w2 ⟨rfl, hb2⟩
  go_wp2_with fail
  go_ret
  exact ⟨by rw [hgH.out]; simp, bcall hb1 hb2⟩
end Go.Proofs.YtpmnnoopoblpgaaGreat

/- Walks: ValidProof (both), SameSteps. -/
namespace Go.Proofs.YtpmnnoopoblpgaaGreat
open Go Go.RowKit Go.Maps

theorem r4within_any (n lo hi : Int) (w : World) :
  Calls Tryz.prog 136 #[.int .i64 n, .int .i64 lo, .int .i64 hi] w fun e w' => e = .returned (.bool (decide (lo ≤ n) && decide (n ≤ hi))) ∧ w = w' := by
 go_enter Tryz.func136, Tryz.ntmps136
 go_wp2
 all_goals go_ret
 all_goals exact ⟨ret_bool (by simp; omega), rfl⟩
theorem isCount_any (n : Int) (w : World) :
  Calls Tryz.prog 135 #[.int .i64 n] w fun e w' => e = .returned (.bool (decide (0 ≤ n) && decide (n ≤ 60))) ∧ w = w' := by
 have h := Lib.hid (r4within_any n 0 60 w)
 go_enter Tryz.func135, Tryz.ntmps135
 go_wp2_with fail
 refine h.out.mono ?_
 rintro e w1 ⟨rfl, rfl⟩
 go_wp2_with fail
 go_ret
 exact ⟨rfl, rfl⟩
set_option maxHeartbeats 1000000 in
theorem stepRight_any (G : Int) (n : Nat) (x : Stp) (w : World) (h0 : 0 ≤ G) (h1 : G ≤ 1000000) (hn : n ≤ 9223372036854775807) :
  Calls Tryz.prog 137 #[.int .i64 G, stpV x, .int .i64 n] w fun e w' => e = .returned (.bool (rightB G n x)) ∧ Below w.heap.size w w' := by
 obtain ⟨k, A, B⟩ := x
 have e1 : IntKind.i64.wrap (G - 1) = G - 1 := IntWalk.i64_in _ (by omega)
 have e2 : IntKind.i64.wrap ((n : Int) - 1) = (n : Int) - 1 := IntWalk.i64_in _ (by omega)
 have hb := below1 w (.cells #[.int .i64 k, .int .i64 A, .int .i64 B] 117)
 have c1 := fun W => r4within_any A 0 (G - 1) W
 have c2 := fun W => r4within_any A 0 ((n : Int) - 1) W
 have c3 := fun W => r4within_any B 0 ((n : Int) - 1) W
 by_cases hk1 : k = 1
 ·subst hk1
  have hR : rightB G n (1, A, B) = ((decide (0 ≤ A) && decide (A ≤ G - 1)) && decide (B = 0)) := by simp [rightB]
  obtain ⟨y, hy⟩ : ∃ y, (decide (0 ≤ A) && decide (A ≤ G - 1)) = y := ⟨_, rfl⟩
  rw [hy] at c1 hR
  have c1H := Lib.hid c1
  have hRH := Lib.hid hR
  clear c1 c2 c3 hR hy
  cases y with
  | false =>
   go_enter Tryz.func137, Tryz.ntmps137
   go_wp2_with (go_at_call 136; refine (c1H.out _).mono ?_; rintro e w1 ⟨rfl, rfl⟩)
   go_ret
   exact ⟨by rw [hRH.out]; rfl, hb⟩
  | true =>
   by_cases hB : B = 0
   ·subst hB
    go_enter Tryz.func137, Tryz.ntmps137
    go_wp2_with (go_at_call 136; refine (c1H.out _).mono ?_; rintro e w1 ⟨rfl, rfl⟩)
    go_ret
    exact ⟨by rw [hRH.out]; rfl, hb⟩
   ·have hBb : (B == 0) = false := by simpa using hB
    go_enter Tryz.func137, Tryz.ntmps137
    go_wp2_with (go_at_call 136; refine (c1H.out _).mono ?_; rintro e w1 ⟨rfl, rfl⟩)
    go_ret
    exact ⟨by rw [hRH.out, decide_eq_false hB]; rfl, hb⟩
 ·have hk1b : (k == 1) = false := by simpa using hk1
  by_cases hk2 : k = 2
  ·subst hk2
   have hR : rightB G n (2, A, B) = ((decide (0 ≤ A) && decide (A ≤ (n : Int) - 1)) && (decide (0 ≤ B) && decide (B ≤ (n : Int) - 1))) := by simp [rightB]
   obtain ⟨y, hy⟩ : ∃ y, (decide (0 ≤ A) && decide (A ≤ (n : Int) - 1)) = y := ⟨_, rfl⟩
   obtain ⟨z, hz⟩ : ∃ y, (decide (0 ≤ B) && decide (B ≤ (n : Int) - 1)) = y := ⟨_, rfl⟩
   rw [hy] at c2 hR
   rw [hz] at c3 hR
   have c2H := Lib.hid c2
   have c3H := Lib.hid c3
   have hRH := Lib.hid hR
   clear c1 c2 c3 hR hy hz hk1b
   cases y with
   | false =>
    go_enter Tryz.func137, Tryz.ntmps137
    go_wp2_with fail
    refine (c2H.out _).mono ?_
    rintro e w1 ⟨rfl, rfl⟩
    go_wp2_with fail
    go_ret
    exact ⟨by rw [hRH.out]; rfl, hb⟩
   | true =>
    go_enter Tryz.func137, Tryz.ntmps137
    go_wp2_with fail
    refine (c2H.out _).mono ?_
    rintro e w1 ⟨rfl, rfl⟩
    go_wp2_with fail
    refine (c3H.out _).mono ?_
    rintro e w1 ⟨rfl, rfl⟩
    go_wp2_with fail
    go_ret
    exact ⟨by rw [hRH.out]; rfl, hb⟩
  ·have hk2b : (k == 2) = false := by simpa using hk2
   have hR : rightB G n (k, A, B) = false := by simp [rightB, hk1, hk2]
   go_enter Tryz.func137, Tryz.ntmps137
   go_wp2_with fail
   go_ret
   exact ⟨by rw [hR]; rfl, hb⟩
set_option maxHeartbeats 1000000 in
theorem ValidProof_any {S : Nat → Prop} (G : Int) (a : Option Addr) (c : Nat) (p : List Stp) (w : World) (h : Steps S w a c p) :
  Calls Tryz.prog 77 #[.int .i64 G, .slice a p.length c] w fun e w' => e = .returned (.bool (proofB G p)) ∧ Below w.heap.size w w' := by
 have m := h.le
 have v1 := kwithin_any G 0 60 w
 cases hx : (decide (0 ≤ G) && decide (G ≤ 60)) with
 | false =>
  rw [hx] at v1
  have hr : proofB G p = false := by unfold proofB; rw [hx]; rfl
  have v1H := Lib.hid v1
  clear v1 h hx
  go_enter Tryz.func77, Tryz.ntmps77
  go_wp2_with fail
  refine v1H.out.mono ?_
  rintro e w1 ⟨rfl, rfl⟩
  go_wp2_with fail
  go_ret
  exact ⟨by rw [hr]; rfl, .refl _ _⟩
 | true =>
  rw [hx] at v1
  have hr : proofB G p = validP G p := by unfold proofB; rw [hx]; rfl
  simp only [Bool.and_eq_true, decide_eq_true_eq] at hx
  have v2 := kvalid_any G a c p w h hx.1 (by omega)
  have v1H := Lib.hid v1
  have v2H := Lib.hid v2
  clear v1 v2 h hx
  go_enter Tryz.func77, Tryz.ntmps77
  go_wp2_with fail
  refine v1H.out.mono ?_
  rintro e w1 ⟨rfl, rfl⟩
  go_wp2_with fail
  refine v2H.out.mono ?_
  rintro e w1 ⟨rfl, hb⟩
  go_wp2_with fail
  go_ret
  exact ⟨by rw [hr]; rfl, hb⟩
set_option maxHeartbeats 1000000 in
theorem rValidProof_any {S : Nat → Prop} (G : Int) (a : Option Addr) (c : Nat) (p : List Stp) (w : World) (h : Steps S w a c p) :
  Calls Tryz.prog 80 #[.int .i64 G, .slice a p.length c] w fun e w' => e = .returned (.bool (proofB G p)) ∧ Below w.heap.size w w' := by
 have m := h.le
 have v1 := isCount_any G w
 have v2 := r4within_any (p.length : Int) 1 60 w
 cases hx : (decide (0 ≤ G) && decide (G ≤ 60)) with
 | false =>
  rw [hx] at v1
  have hr : proofB G p = false := by unfold proofB; rw [hx]; rfl
  have v1H := Lib.hid v1
  clear v1 v2 h hx
  go_enter Tryz.func80, Tryz.ntmps80
  go_wp2_with fail
  refine v1H.out.mono ?_
  rintro e w1 ⟨rfl, rfl⟩
  go_wp2_with fail
  go_ret
  exact ⟨by rw [hr]; rfl, .refl _ _⟩
 | true =>
  cases hy : (decide ((1 : Int) ≤ p.length) && decide ((p.length : Int) ≤ 60)) with
  | false =>
   rw [hx] at v1
   rw [hy] at v2
   have hr : proofB G p = false := by
    unfold proofB validP
    have : (decide (1 ≤ p.length) && decide (p.length ≤ 60)) = false := by
     rw [← hy, Bool.eq_iff_iff]; simp only [Bool.and_eq_true, decide_eq_true_eq]; omega
    rw [this, Bool.and_false, Bool.and_false]
   have v1H := Lib.hid v1
   have v2H := Lib.hid v2
   clear v1 v2 h hx hy
   go_enter Tryz.func80, Tryz.ntmps80
   go_wp2_with fail
   refine v1H.out.mono ?_
   rintro e w1 ⟨rfl, rfl⟩
   go_wp2_with fail
   refine v2H.out.mono ?_
   rintro e w1 ⟨rfl, rfl⟩
   go_wp2_with fail
   go_ret
   exact ⟨by rw [hr]; rfl, .refl _ _⟩
  | true =>
   rw [hx] at v1
   rw [hy] at v2
   have hr : proofB G p = okSteps G 0 p := by
    unfold proofB validP
    have : (decide (1 ≤ p.length) && decide (p.length ≤ 60)) = true := by
     rw [← hy, Bool.eq_iff_iff]; simp only [Bool.and_eq_true, decide_eq_true_eq]; omega
    rw [this, hx, Bool.and_true, Bool.true_and]
   simp only [Bool.and_eq_true, decide_eq_true_eq] at hx
   obtain ⟨h0, h1⟩ := hx
   have v1H := Lib.hid v1
   have v2H := Lib.hid v2
   clear v1 v2 hy
   go_enter Tryz.func80, Tryz.ntmps80
   go_wp2_with fail
   refine v1H.out.mono ?_
   rintro e w1 ⟨rfl, rfl⟩
   go_wp2_with fail
   refine v2H.out.mono ?_
   rintro e w1 ⟨rfl, rfl⟩
   go_wp2_with fail
   clear v1H v2H
   go_loopw [5] (fun i wr => ∃ k : Nat, k ≤ p.length ∧ i = .int .i64 k ∧ okSteps G 0 (p.take k) = true ∧ Below w.heap.size w wr) (fun i _ => p.length - (intOf i).toNat)
   case atStart => exact ⟨0, Nat.zero_le _, rfl, rfl, .refl _ _⟩
   case round =>
    obtain ⟨k, hk, rfl, hall, hB⟩ := hrel
    by_cases hlt : k < p.length
    ·obtain ⟨b, o, rfl, -, q0, q1, q2, -⟩ := (h.below hB).stp k hlt
     have hstep := okSteps_snoc (G := G) (p.take k) 0 p[k]
     rw [List.length_take, Nat.min_eq_left (by omega), Nat.zero_add, ← List.take_succ_eq_append_getElem hlt, hall, Bool.true_and] at hstep
     have cr := fun W => stepRight_any G k p[k] W h0 (by omega) (by omega)
     obtain ⟨x, hx⟩ : ∃ x, p[k] = x := ⟨_, rfl⟩
     obtain ⟨y, hy⟩ : ∃ y, rightB G k p[k] = y := ⟨_, rfl⟩
     rw [hy] at hstep cr
     rw [hx] at cr q0 q1 q2
     obtain ⟨x1, x2, x3⟩ := x
     simp only at q0 q1 q2
     have crH := Lib.hid cr
     have hstH := Lib.hid hstep
     have hBH := Lib.hid hB
     clear cr hstep hB hall hx hy h
     cases y with
     | true =>
      go_wp2_with (go_at_call 137; refine (crH.out _).mono ?_; rintro e w1 ⟨rfl, hb⟩)
      go_roundw
      case rel => exact ⟨k + 1, by omega, by go_num, hstH.out, bcall hBH.out hb⟩
      case measure => simp [intOf]; omega
     | false =>
      go_wp2_with (go_at_call 137; refine (crH.out _).mono ?_; rintro e w1 ⟨rfl, hb⟩)
      go_ret
      have hf : okSteps G 0 p = false := by
       cases ho : okSteps G 0 p with
       | false => rfl
       | true => have := okSteps_take p 0 (k + 1) ho; rw [hstH.out] at this; cases this
      exact ⟨by rw [hr, hf]; rfl, bcall hBH.out hb⟩
    ·rw [List.take_of_length_le (by omega)] at hall
     rw [hall] at hr
     clear hall
     go_wp2_with fail
     go_ret
     exact ⟨by rw [hr]; rfl, hB⟩
end Go.Proofs.YtpmnnoopoblpgaaGreat

/- Walks: a copy of a list of steps. -/
namespace Go.Proofs.YtpmnnoopoblpgaaGreat
open Go Go.RowKit Go.Maps

abbrev OwnSt (w : World) (base : Nat) (v : Value) (l : List Stp) : Prop := OwnL stpE (fun _ => False) w base 117 v l
theorem OwnSt.steps {w : World} {base : Nat} {v : Value} {l : List Stp} (h : OwnSt w base v l) : ∃ a c, v = .slice a l.length c ∧ Steps (fun b => base ≤ b) w a c l := h.slB (fun _ h => h.elim)
end Go.Proofs.YtpmnnoopoblpgaaGreat

/- Walks: kernel.Joined. -/
namespace Go.Proofs.YtpmnnoopoblpgaaGreat
open Go Go.RowKit Go.Maps

end Go.Proofs.YtpmnnoopoblpgaaGreat

/- Walks: the closure of kernel.Untree that puts a step where it stands. -/
namespace Go.Proofs.YtpmnnoopoblpgaaGreat
open Go Go.RowKit Go.Maps Go.WideMaps

section
variable {B : Nat} {W W' : World} {q p : List Stp} {dn op : List Int} {vO : Value}
end
end Go.Proofs.YtpmnnoopoblpgaaGreat

/- Walks: kernel.Untree. -/
namespace Go.Proofs.YtpmnnoopoblpgaaGreat
open Go Go.RowKit Go.Maps Go.WideMaps

section
variable {B : Nat} {W : World} {q p : List Stp} {dn op : List Int} {vO : Value}
end
end Go.Proofs.YtpmnnoopoblpgaaGreat
