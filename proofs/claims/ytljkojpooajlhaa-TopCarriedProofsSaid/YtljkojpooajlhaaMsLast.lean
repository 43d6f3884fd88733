/- The statement TopCarriedProofsSaid: for every input TopCarriedProofs returns true and leaves its arguments as they were. No condition. -/
import Derived.Test.YtljkojpooajlhaaMsD
import Derived.Test.YtljkojpooajlhaaMathBack
import Derived.Test.YtljkojpooajlhaaMathCarr2
import Derived.Test.YtljkojpooajlhaaMsB
import Derived.Test.YtljkojpooajlhaaWalkH
import Derived.Test.YtljkojpooajlhaaBase
import Derived.Test.YtljkojpooajlhaaMsI
import Derived.ProofKit
import Derived.LaidMore
import Derived.OpenShut
import Derived.Stop.Joined
import Derived.Test.YtljkojpooajlhaaMsR
import Derived.StillTailTactics
import Derived.Test.YtljkojpooajlhaaRegion
/- Detachment is most general, and names of variables do not matter to it. No program is named. -/
namespace Go.Proofs.Ytljkojpooajlhaa

/-- for the vars of a term that was moved apart ζ, for others η -/
def twoS (η ζ : Int → List Int) (n : Int) : List Int := if n < -12 then ζ (n + 12) else η n
theorem twoS_w {s : Sg} {η ζ : Int → List Int} (h : Wsub s η) (k : Wsub s ζ) : Wsub s (twoS η ζ) := fun n hn => by
  unfold twoS; split
  · exact k _ (by omega)
  · exact h n hn
theorem twoS_low {s : Sg} {η ζ : Int → List Int} {t : List Int} (h : okT s t = true) : ap (twoS η ζ) t = ap η t := ap_congr (fun n hn h0 => by unfold twoS; exact if_neg (by have := okT_rg h n hn h0; omega))
theorem twoS_apart {η ζ : Int → List Int} {t : List Int} : ap (twoS η ζ) (apartT t) = ap ζ t := by
  rw [ap_apart]
  refine ap_congr (fun n hn h0 => ?_)
  unfold twoS
  rw [if_pos (by omega), show n - 12 + 12 = n by omega]
theorem det_general {s : Sg} {M N : List Int} (hM : okT s M = true) (hN : okT s N = true) (h0 : M.headD 0 = 0) {η ζ : Int → List Int} (hη : Wsub s η) (hζ : Wsub s ζ) {A' B' : List Int} (hA' : W1 s A') (e : ap η M = 0 :: (A' ++ B')) (he : A' = ap ζ N) :
    ∃ A B, argsT s M = [A, B] ∧ uniB s A (apartT N) = true ∧ ((detE s M N).2 = 4 ∨ ((detE s M N).2 = 0 ∧ Ins s (detE s M N).1 B')) := by
  rcases det_cases hM hN with ⟨h, -⟩ | ⟨A, B, eL, eM, hA, hB, hU⟩
  · exact (h h0).elim
  · have hok := (okT_parts hM).1
    refine ⟨A, B, eL, ?_⟩
    rw [eM, ap_pos (by decide), ap_append] at e
    obtain ⟨e1, e2⟩ := W1.uniq ((okT_w1 hA).ap hη) hA' (List.cons.inj e).2
    have hx := twoS_w hη hζ
    have heq : ap (twoS η ζ) A = ap (twoS η ζ) (apartT N) := by rw [twoS_low hA, twoS_apart, e1, he]
    rcases hU with ⟨θ, hθ, e3, hu⟩ | ⟨k1, -, -⟩
    · refine ⟨hu, ?_⟩
      rw [e3]
      by_cases hz : (madeE θ B).2 = 0
      · refine .inr ⟨hz, ?_⟩
        rw [(madeE_ok hok hθ.th (okT_w1 hB) hz).2]
        obtain ⟨τ, ht, hb⟩ := canon_back (s := s) (ap θ B)
        refine ⟨fun n => ap (twoS η ζ) (τ n), fun n hn => (ht n hn).ap hx, ?_⟩
        rw [← ap_ap, hb, hθ.most hx heq B, twoS_low hB, e2]
      · refine .inl ?_
        unfold madeE at hz ⊢
        split
        · rename_i hc; rw [if_pos hc] at hz; exact (hz rfl).elim
        · rfl
    · exact (k1 _ hx heq).elim
theorem okT_canon_iff {s : Sg} {t : List Int} (h : okT s t = true) : okT s (canon t) = true := okT_canon h
theorem det_canon {s : Sg} {m n : List Int} (hm : okT s m = true) (hn : okT s n = true) : detE s (canon m) (canon n) = detE s m n := by
  rcases det_cases hm hn with ⟨h, e⟩ | ⟨A, B, eL, eM, hA, hB, -⟩
  · rw [e, detE_state (okT_canon hm) (okT_canon hn)]
    intro hh
    refine h ?_
    cases m with
    | nil => rfl
    | cons x r =>
      simp only [List.headD_cons] at h
      unfold canon at hh
      simp only [List.map_cons, List.headD_cons] at hh
      by_cases h0 : x < 0
      · have := canonW_lt (v := varsC (x :: r)) h0; omega
      · rw [canonW_pos (by omega)] at hh; exact (h hh).elim
  · have hok := (okT_parts hm).1
    obtain ⟨σ, hσd⟩ : ∃ σ : Int → List Int, σ = fun k => [canonW (varsC m) k] := ⟨_, rfl⟩
    obtain ⟨σ', hσd'⟩ : ∃ σ : Int → List Int, σ = fun k => [canonW (varsC n) k] := ⟨_, rfl⟩
    have hσ : Wsub s σ := by rw [hσd]; exact fun k hk => W1.var (canonW_lt hk)
    have hσ' : Wsub s σ' := by rw [hσd']; exact fun k hk => W1.var (canonW_lt hk)
    have cm : canon m = ap σ m := by rw [hσd]; exact canon_ap m
    have cn : canon n = ap σ' n := by rw [hσd']; exact canon_ap n
    obtain ⟨τ, hτ, bm⟩ := canon_back (s := s) m
    obtain ⟨τ', hτ', bn⟩ := canon_back (s := s) n
    have eC : canon m = 0 :: (ap σ A ++ ap σ B) := by rw [cm, eM, ap_pos (by decide), ap_append]
    obtain ⟨-, oA, oB⟩ := halves_of (okT_canon hm) eC ((okT_w1 hA).ap hσ)
    rw [detE_at (okT_canon hm) (okT_canon hn) eC ((okT_w1 hA).ap hσ), detE_at hm hn eM (okT_w1 hA)]
    rw [eC, eM, ap_pos (by decide), ap_append] at bm
    obtain ⟨bA, bB⟩ := W1.uniq ((okT_w1 oA).ap hτ) (okT_w1 hA) (List.cons.inj bm).2
    have hs1 : Wsub s (fun k => apartT (σ' k)) := fun k hk => apartT_w (hσ' k hk)
    have hs2 : Wsub s (fun k => apartT (τ' k)) := fun k hk => apartT_w (hτ' k hk)
    have hap : ∀ (φ : Int → List Int) (t : List Int), ap (fun k => apartT (φ k)) t = apartT (ap φ t) := fun φ t => by
      rw [apartT_eq (ap φ t), ap_ap]
      exact ap_congr (fun k _ _ => apartT_eq _)
    have q1 : ap (twoS σ (fun k => apartT (σ' k))) (apartT n) = apartT (canon n) := by rw [twoS_apart, hap, cn]
    have q2 : ap (twoS τ (fun k => apartT (τ' k))) (apartT (canon n)) = apartT n := by rw [twoS_apart, hap, bn]
    exact ((uniE_turn hok (twoS_w hσ hs1) (twoS_w hτ hs2) (okT_w1 hA) (apartT_w (okT_w1 hn)) (okT_Rg hA) (apartT_rg hn) (okT_w1 oA) (apartT_w (okT_w1 (okT_canon hn))) (okT_Rg oA) (apartT_rg (okT_canon hn))
      (twoS_low hA) q1 (twoS_low hB) ((twoS_low oA).trans bA) q2 ((twoS_low oB).trans bB)).1).symm
end Go.Proofs.Ytljkojpooajlhaa

/- Carrying terms of any size by a dictionary that is one to one, and what it does to putting in. No program is named. -/
namespace Go.Proofs.Ytljkojpooajlhaa

def carGF (a : Sg) (d : Ways) : Nat → List Int → List Int
  | 0, _ => []
  | _ + 1, [] => []
  | f + 1, n :: r => if n < 0 then [n] else carA d n ((argsW a (n :: r)).map (carGF a d f))
def carG (a : Sg) (d : Ways) (t : List Int) : List Int := carGF a d t.length t
theorem carG_nil (a : Sg) (d : Ways) : carG a d [] = [] := rfl
theorem argW_len {a : Sg} {n : Int} {x u : List Int} (h : W1 a (n :: x)) (hu : u ∈ argsW a (n :: x)) : u.length < (n :: x).length := by
  obtain ⟨-, h2, -, -⟩ := h.args
  have := len_flatten hu
  rw [h2] at this
  rw [List.length_cons]; omega
theorem carGF_fuel {a : Sg} {d : Ways} : ∀ (f f' : Nat) (u : List Int), W1 a u → u.length ≤ f → u.length ≤ f' → carGF a d f u = carGF a d f' u
  | 0, _, u, h, h1, _ => by have := h.len; omega
  | _, 0, u, h, _, h2 => by have := h.len; omega
  | f + 1, f' + 1, [], h, _, _ => (h.ne rfl).elim
  | f + 1, f' + 1, n :: r, h, h1, h2 => by
    rw [carGF, carGF]
    split
    · rfl
    · congr 1
      apply List.map_congr_left
      intro u hu
      have hl := argW_len h hu
      exact carGF_fuel f f' u (h.args.2.2.1 u hu) (by omega) (by omega)
theorem carG_neg {a : Sg} {d : Ways} {n : Int} (h : n < 0) : carG a d [n] = [n] := by unfold carG; rw [List.length_singleton, carGF, if_pos h]
/-- parts of a list, picked by numbers -/
def selP (L : List Int) (A : List (List Int)) : List (List Int) := L.map (fun k => A.getD k.toNat [])
theorem selP_len (L : List Int) (A : List (List Int)) : (selP L A).length = L.length := by unfold selP; rw [List.length_map]
theorem selP_perm {L : List Int} {A : List (List Int)} (h : L.Perm (ascL A.length)) : (selP L A).Perm A := by
  have := h.map (fun k => A.getD k.toNat [])
  rw [ascL_map] at this
  exact this
theorem getD_map_nil {f : List Int → List Int} (hf : f [] = []) (A : List (List Int)) (k : Nat) : (A.map f).getD k [] = f (A.getD k []) := by
  rw [List.getD_eq_getElem?_getD, List.getD_eq_getElem?_getD, List.getElem?_map]
  cases A[k]? with
  | none => exact hf.symm
  | some y => rfl
theorem selP_map {f : List Int → List Int} (hf : f [] = []) (L : List Int) (A : List (List Int)) : (selP L A).map f = selP L (A.map f) := by
  unfold selP
  rw [List.map_map]
  exact List.map_congr_left (fun k _ => (getD_map_nil hf A _).symm)
theorem carG_node {a : Sg} {d : Ways} {n : Int} {x : List Int} (h : W1 a (n :: x)) (hn : 0 ≤ n) : carG a d (n :: x) = (d.getD n.toNat (0, [])).1 :: (selP (d.getD n.toNat (0, [])).2 ((argsW a (n :: x)).map (carG a d))).flatten := by
  unfold carG
  rw [List.length_cons, carGF, if_neg (by omega)]
  unfold carA selP
  congr 3
  funext k
  congr 1
  apply List.map_congr_left
  intro u hu
  have hl := argW_len h hu
  rw [List.length_cons] at hl
  exact carGF_fuel _ _ u (h.args.2.2.1 u hu) (by omega) (Nat.le_refl _)
section
variable {a b : Sg} {d : Ways}
/-- a symbol's way, beside its arguments -/
theorem way_at (hd : validD a b d = true) {n : Int} {x : List Int} (h : W1 a (n :: x)) (hn : 0 ≤ n) :
    0 ≤ (d.getD n.toNat (0, [])).1 ∧ (d.getD n.toNat (0, [])).1 < b.length ∧ (d.getD n.toNat (0, [])).2.Perm (ascL (argsW a (n :: x)).length) ∧ (d.getD n.toNat (0, [])).2.length = (argsW a (n :: x)).length ∧ arW b (d.getD n.toNat (0, [])).1 = (argsW a (n :: x)).length := by
  obtain ⟨g1, g2, g3, g4⟩ := h.args
  obtain ⟨w1, w2, w3, w4, w5⟩ := validD_way hd hn g4
  have e1 : arW a n = (arAt a n).toNat := by unfold arW arAt; rw [if_neg (by omega)]
  have e2 : arW b (d.getD n.toNat (0, [])).1 = (arAt b (d.getD n.toNat (0, [])).1).toNat := by unfold arW arAt; rw [if_neg (by omega)]
  have hl : (d.getD n.toNat (0, [])).2.length = (argsW a (n :: x)).length := by rw [g1, e1]; omega
  rw [hl] at w5
  exact ⟨w1, w2, w5, hl, by rw [e2, w3, g1, e1]⟩
theorem carG_spec (hd : validD a b d = true) : ∀ (f : Nat) {t : List Int}, W1 a t → t.length ≤ f → W1 b (carG a d t) ∧ (carG a d t).length = t.length ∧ ∀ x, x < 0 → (x ∈ carG a d t ↔ x ∈ t)
  | 0, t, h, hf => by have := h.len; omega
  | f + 1, [], h, _ => (h.ne rfl).elim
  | f + 1, n :: x, h, hf => by
    by_cases hn : n < 0
    · have := h.leaf hn
      subst this
      rw [carG_neg hn]
      exact ⟨W1.var hn, rfl, fun _ _ => Iff.rfl⟩
    · obtain ⟨g1, g2, g3, g4⟩ := h.args
      obtain ⟨w1, w2, w3, w4, w5⟩ := way_at hd h (by omega)
      rw [carG_node h (by omega)]
      have hp : (selP (d.getD n.toNat (0, [])).2 ((argsW a (n :: x)).map (carG a d))).Perm ((argsW a (n :: x)).map (carG a d)) := selP_perm (by rw [List.length_map]; exact w3)
      have ih : ∀ u ∈ argsW a (n :: x), W1 b (carG a d u) ∧ (carG a d u).length = u.length ∧ ∀ y, y < 0 → (y ∈ carG a d u ↔ y ∈ u) := fun u hu => carG_spec hd f (g3 u hu) (by have := argW_len h hu; omega)
      refine ⟨?_, ?_, fun y hy => ?_⟩
      · unfold W1
        rw [skw_cons, if_pos (by simpa [cw] using w2), Nat.zero_add, w5]
        have := skw_flatten (s := b) (selP (d.getD n.toNat (0, [])).2 ((argsW a (n :: x)).map (carG a d))) (fun u hu => by
          obtain ⟨v, hv, rfl⟩ := List.mem_map.1 (hp.mem_iff.1 hu)
          exact (ih v hv).1)
        rw [selP_len, w4] at this
        exact this
      · rw [List.length_cons, perm_flat_len hp, List.length_cons]
        conv => rhs; rw [← g2]
        congr 1
        rw [List.length_flatten, List.length_flatten, List.map_map]
        congr 1
        exact List.map_congr_left (fun u hu => (ih u hu).2.1)
      · rw [List.mem_cons, List.mem_cons, List.mem_flatten]
        constructor
        · rintro (e | ⟨u, hu, hy2⟩)
          · omega
          · obtain ⟨v, hv, rfl⟩ := List.mem_map.1 (hp.mem_iff.1 hu)
            refine .inr ?_
            rw [← g2, List.mem_flatten]
            exact ⟨v, hv, ((ih v hv).2.2 y hy).1 hy2⟩
        · rintro (e | e)
          · omega
          · rw [← g2, List.mem_flatten] at e
            obtain ⟨v, hv, hy2⟩ := e
            exact .inr ⟨carG a d v, hp.mem_iff.2 (List.mem_map.2 ⟨v, hv, rfl⟩), ((ih v hv).2.2 y hy).2 hy2⟩
theorem carG_w (hd : validD a b d = true) {t : List Int} (h : W1 a t) : W1 b (carG a d t) := (carG_spec hd t.length h (Nat.le_refl _)).1
theorem carG_len (hd : validD a b d = true) {t : List Int} (h : W1 a t) : (carG a d t).length = t.length := (carG_spec hd t.length h (Nat.le_refl _)).2.1
theorem carG_vars (hd : validD a b d = true) {t : List Int} (h : W1 a t) : (varsC (carG a d t)).length = (varsC t).length := by
  have hm := (carG_spec hd t.length h (Nat.le_refl _)).2.2
  have hp : (varsC (carG a d t)).Perm (varsC t) := by
    rw [List.perm_ext_iff_of_nodup (varsC_nodup _) (varsC_nodup _)]
    intro x
    rw [mem_varsC, mem_varsC]
    exact ⟨fun e => ⟨(hm x e.2).1 e.1, e.2⟩, fun e => ⟨(hm x e.2).2 e.1, e.2⟩⟩
  exact hp.length_eq
theorem carG_args (hd : validD a b d = true) {n : Int} {x : List Int} (h : W1 a (n :: x)) (hn : 0 ≤ n) : argsW b (carG a d (n :: x)) = selP (d.getD n.toNat (0, [])).2 ((argsW a (n :: x)).map (carG a d)) := by
  obtain ⟨g1, g2, g3, g4⟩ := h.args
  obtain ⟨w1, w2, w3, w4, w5⟩ := way_at hd h hn
  rw [carG_node h hn]
  unfold argsW
  simp only
  rw [w5, ← w4]
  have hp : (selP (d.getD n.toNat (0, [])).2 ((argsW a (n :: x)).map (carG a d))).Perm ((argsW a (n :: x)).map (carG a d)) := selP_perm (by rw [List.length_map]; exact w3)
  have := splitW_flatten (s := b) (selP (d.getD n.toNat (0, [])).2 ((argsW a (n :: x)).map (carG a d))) [] (fun u hu => by
    obtain ⟨v, hv, rfl⟩ := List.mem_map.1 (hp.mem_iff.1 hu)
    exact carG_w hd (g3 v hv))
  rw [selP_len, List.append_nil] at this
  exact this
/-- picked, and picked back -/
theorem selP_back {L : List Int} {A : List (List Int)} (h : L.Perm (ascL A.length)) (hl : L.length = A.length) : selP (invA L L.length L.length) (selP L A) = A := by
  rw [← hl] at h
  have h1 : selP (invA L L.length L.length) (selP L A) = ((invA L L.length L.length).map (fun j => L.getD j.toNat 0)).map (fun k => A.getD k.toNat []) := by
    unfold selP
    rw [List.map_map]
    refine List.map_congr_left (fun j hj => ?_)
    have hr := mem_ascL.1 ((ordB_perm (invA_ord h)).mem_iff.1 hj)
    rw [invA_len] at hr
    have hj2 : j.toNat < L.length := by omega
    show (L.map (fun k => A.getD k.toNat [])).getD j.toNat [] = A.getD (L.getD j.toNat 0).toNat []
    rw [getD_at (by rw [List.length_map]; exact hj2), List.getElem_map, getD_at hj2]
  rw [h1, invA_map h, hl, ascL_map]
theorem carG_back (hv : validD a b d = true) (ho : oneB a b d = true) : ∀ (f : Nat) {t : List Int}, W1 a t → t.length ≤ f → carG b (invD d b.length d.length) (carG a d t) = t
  | 0, t, h, hf => by have := h.len; omega
  | f + 1, [], h, _ => (h.ne rfl).elim
  | f + 1, n :: x, h, hf => by
    by_cases hn : n < 0
    · have := h.leaf hn
      subst this
      rw [carG_neg hn, carG_neg hn]
    · obtain ⟨g1, g2, g3, g4⟩ := h.args
      obtain ⟨w1, w2, w3, w4, w5⟩ := way_at hv h (by omega)
      have hca := carG_args hv h (by omega)
      have hcw := carG_w hv h
      have hl := (validD_parts hv).2.2.1
      have hat := inv_at hv ho (i := n.toNat) (by omega)
      rw [carG_node h (by omega)] at hca hcw ⊢
      rw [carG_node hcw w1, hca, hat]
      simp only
      rw [Int.toNat_of_nonneg (by omega), selP_map (carG_nil _ _), List.map_map]
      have hm : (argsW a (n :: x)).map ((carG b (invD d b.length d.length)) ∘ (carG a d)) = argsW a (n :: x) := by
        conv => rhs; rw [← List.map_id (argsW a (n :: x))]
        exact List.map_congr_left (fun u hu => carG_back hv ho f (g3 u hu) (by have := argW_len h hu; omega))
      rw [hm, selP_back w3 w4, g2]
/-- what is put in is carried too -/
theorem carG_ap (hd : validD a b d = true) {θ : Int → List Int} (hθ : Wsub a θ) : ∀ (f : Nat) {t : List Int}, W1 a t → t.length ≤ f → carG a d (ap θ t) = ap (fun n => carG a d (θ n)) (carG a d t)
  | 0, t, h, hf => by have := h.len; omega
  | f + 1, [], h, _ => (h.ne rfl).elim
  | f + 1, n :: x, h, hf => by
    by_cases hn : n < 0
    · have := h.leaf hn
      subst this
      rw [ap_one hn, carG_neg hn, ap_one hn]
    · obtain ⟨g1, g2, g3, g4⟩ := h.args
      obtain ⟨w1, -, -, -, -⟩ := way_at hd h (by omega)
      have haw := h.ap hθ
      rw [ap_pos hn] at haw ⊢
      have hargs : argsW a (n :: ap θ x) = (argsW a (n :: x)).map (ap θ) := by
        obtain ⟨k1, k2, k3, -⟩ := haw.args
        refine flatten_uniq (by rw [k1, List.length_map, g1]) k3 (fun u hu => ?_) (by rw [k2, ← ap_flatten, g2])
        obtain ⟨v, hv, rfl⟩ := List.mem_map.1 hu
        exact (g3 v hv).ap hθ
      rw [carG_node haw (by omega), carG_node h (by omega), hargs, ap_pos (by omega), ap_flatten, selP_map (ap_nil _), List.map_map, List.map_map]
      congr 3
      exact List.map_congr_left (fun u hu => carG_ap hd hθ f (g3 u hu) (by have := argW_len h hu; omega))
theorem argsT_W {s : Sg} {t : List Int} (h : okT s t = true) : argsT s t = argsW s t := by
  obtain ⟨g1, g2, g3⟩ := argsT_spec h
  have hw := okT_w1 h
  obtain ⟨n, r, rfl, hc, -⟩ := okT_head h
  obtain ⟨k1, k2, k3, -⟩ := hw.args
  refine flatten_uniq ?_ (fun u hu => okT_w1 (g3 u hu)) k3 ?_
  · rw [g1, k1]; exact (codeOk_w hc).2
  · rw [k2]; exact ((List.cons.inj g2).2).symm
theorem carG_T : ∀ (f : Nat) {t : List Int}, okT a t = true → t.length ≤ f → carG a d t = carT a d t
  | 0, t, h, hf => by have := (okT_parts h).2.1; omega
  | f + 1, t, h, hf => by
    have hw := okT_w1 h
    have hargs := argsT_W h
    have g3 := (argsT_spec h).2.2
    have hno := carT_node (d := d) h
    have hvr := okT_var h
    obtain ⟨n, r, rfl, -, -⟩ := okT_head h
    simp only [List.headD_cons] at hno hvr
    by_cases hn : n < 0
    · have := hvr hn
      rw [this, carG_neg hn, carT_neg hn]
    · rw [carG_node hw (by omega), hno (by omega), hargs]
      unfold carA selP
      congr 3
      funext k
      congr 1
      refine List.map_congr_left (fun u hu => carG_T f (g3 u (by rw [hargs]; exact hu)) (by have := argW_len hw hu; omega))
end
end Go.Proofs.Ytljkojpooajlhaa

/- Proofs carried by a dictionary that is one to one. No program is named. -/
namespace Go.Proofs.Ytljkojpooajlhaa

/-- what a statement of the carried proof is -/
def carK (a : Sg) (d : Ways) (t : List Int) : List Int := canon (carT a d t)
theorem carT_nil (a : Sg) (d : Ways) : carT a d [] = [] := rfl
theorem carK_nil (a : Sg) (d : Ways) : carK a d [] = [] := rfl
section
variable {a b : Sg} {d : Ways}
theorem carG_eq {t : List Int} (h : okT a t = true) : carG a d t = carT a d t := carG_T t.length h (Nat.le_refl _)
theorem carG_bk (hv : validD a b d = true) (ho : oneB a b d = true) {t : List Int} (h : W1 a t) : carG b (invD d b.length d.length) (carG a d t) = t := carG_back hv ho t.length h (Nat.le_refl _)
theorem carG_fw (hv : validD a b d = true) (ho : oneB a b d = true) {t : List Int} (h : W1 b t) : carG a d (carG b (invD d b.length d.length) t) = t := by
  have := carG_bk (inv_valid hv ho) (inv_one hv ho) h
  rw [inv_inv hv ho] at this
  exact this
theorem carG_in (hd : validD a b d = true) {θ : Int → List Int} (hθ : Wsub a θ) {t : List Int} (h : W1 a t) : carG a d (ap θ t) = ap (fun n => carG a d (θ n)) (carG a d t) := carG_ap hd hθ t.length h (Nat.le_refl _)
theorem carG_apart (hd : validD a b d = true) {t : List Int} (h : W1 a t) : carG a d (apartT t) = apartT (carG a d t) := by
  rw [apartT_eq, apartT_eq, carG_in hd (fun n hn => W1.var (by omega)) h]
  exact ap_congr (fun n _ h0 => carG_neg (by omega))
theorem carG_sub (hd : validD a b d = true) {θ : Int → List Int} (hθ : Wsub a θ) : Wsub b (fun n => carG a d (θ n)) := fun n hn => carG_w hd (hθ n hn)
/-- a substitution of carried terms, carried back -/
theorem ap_bk (hv : validD a b d = true) (ho : oneB a b d = true) {θ : Int → List Int} (hθ : Wsub b θ) {t : List Int} (h : W1 a t) : carG a d (ap (fun n => carG b (invD d b.length d.length) (θ n)) t) = ap θ (carG a d t) := by
  rw [carG_in hv (carG_sub (inv_valid hv ho) hθ) h]
  exact ap_congr (fun n _ h0 => carG_fw hv ho (hθ n h0))
theorem carG_inj (hv : validD a b d = true) (ho : oneB a b d = true) {t u : List Int} (ht : W1 a t) (hu : W1 a u) (e : carG a d t = carG a d u) : t = u := by
  rw [← carG_bk hv ho ht, e, carG_bk hv ho hu]
theorem canon_carG (hd : validD a b d = true) {t : List Int} (h : W1 a t) : canon (carG a d (canon t)) = canon (carG a d t) := by
  have hρ : Wsub a (fun n => [canonW (varsC t) n]) := fun n hn => W1.var (canonW_lt hn)
  obtain ⟨τ, hτ, ht⟩ := canon_back (s := a) t
  have e1 : carG a d (canon t) = ap (fun n => carG a d [canonW (varsC t) n]) (carG a d t) := by
    conv => lhs; rw [canon_ap]
    exact carG_in hd hρ h
  have e2 : carG a d t = ap (fun n => carG a d (τ n)) (carG a d (canon t)) := by
    conv => lhs; rw [← ht]
    exact carG_in hd hτ (canon_w h)
  exact (canon_two (s := b) (carG_sub hd hρ) (carG_sub hd hτ) e2.symm e1.symm).1
/-- a detachment, carried -/
theorem det_car (hv : validD a b d = true) (ho : oneB a b d = true) {M N : List Int} (hM : okT a M = true) (hN : okT a N = true) : detE b (carT a d M) (carT a d N) = (carK a d (detE a M N).1, (detE a M N).2) := by
  have hMb := (carT_ok hv M.length hM (Nat.le_refl _)).1
  have hNb := (carT_ok hv N.length hN (Nat.le_refl _)).1
  have hMw := okT_w1 hM
  have hNw := okT_w1 hN
  obtain ⟨p1, p2, p3, -, p5, p6⟩ := validD_parts hv
  rcases det_cases hM hN with ⟨h0, e⟩ | ⟨A, B, hAB, eM, hA, hB, hU⟩
  · rw [e]
    show _ = (carK a d [], 10)
    rw [carK_nil]
    refine detE_state hMb hNb ?_
    rw [← carG_eq hM]
    obtain ⟨n, r, rfl, -, -⟩ := okT_head hM
    simp only [List.headD_cons] at h0
    by_cases hn : n < 0
    · have := hMw.leaf hn
      subst this
      rw [carG_neg hn]
      exact h0
    · rw [carG_node hMw (by omega)]
      simp only [List.headD_cons]
      intro hz
      obtain ⟨-, -, -, g4⟩ := hMw.args
      have e1 := inv_at hv ho (i := n.toNat) (by omega)
      have e2 := inv_at hv ho (i := 0) (by omega)
      rw [hz] at e1
      rw [p5] at e2
      rw [e2] at e1
      have := congrArg Prod.fst e1
      simp only at this
      omega
  · have hAw := okT_w1 hA
    have hBw := okT_w1 hB
    have hAa : argsW a M = [A, B] := by rw [← argsT_W hM, hAB]
    have eC : carT a d M = 0 :: (carG a d A ++ carG a d B) := by
      have hMw2 : W1 a (0 :: (A ++ B)) := eM ▸ hMw
      have hAa2 : argsW a (0 :: (A ++ B)) = [A, B] := eM ▸ hAa
      rw [← carG_eq hM, eM, carG_node hMw2 (Int.le_refl 0), hAa2]
      show (d.getD 0 (0, [])).1 :: (selP (d.getD 0 (0, [])).2 [carG a d A, carG a d B]).flatten = _
      rw [p5, p6]
      simp [selP]
    have hAb : okT b (carG a d A) = true := by rw [carG_eq hA]; exact (carT_ok hv A.length hA (Nat.le_refl _)).1
    have hAbw := carG_w hv hAw
    have hNbw := carG_w hv hNw
    rw [detE_at hMb hNb eC hAbw, ← carG_eq hN, ← carG_apart hv hNw]
    have hNb' : okT b (carG a d N) = true := by rw [carG_eq hN]; exact hNb
    have hrN : Rg (carG a d (apartT N)) := by rw [carG_apart hv hNw]; exact apartT_rg hNb'
    have hNaw := apartT_w hNw
    have back : ∀ θ' : Int → List Int, Wsub b θ' → ap θ' (carG a d A) = ap θ' (carG a d (apartT N)) → ap (fun n => carG b (invD d b.length d.length) (θ' n)) A = ap (fun n => carG b (invD d b.length d.length) (θ' n)) (apartT N) := fun θ' hw he => by
      have hτ := carG_sub (inv_valid hv ho) hw
      exact carG_inj hv ho (hAw.ap hτ) (hNaw.ap hτ) (by rw [ap_bk hv ho hw hAw, ap_bk hv ho hw hNaw, he])
    rcases hU with ⟨θ, hθ, e, -⟩ | ⟨hno, e, -⟩
    · have hσ := carG_sub hv hθ.th
      have hu : ap (fun n => carG a d (θ n)) (carG a d A) = ap (fun n => carG a d (θ n)) (carG a d (apartT N)) := by
        rw [← carG_in hv hθ.th hAw, ← carG_in hv hθ.th hNaw, hθ.eq]
      obtain ⟨θ', hθ'⟩ := mgu_ex p2 hAbw (carG_w hv hNaw) (okT_Rg hAb) hrN hσ hu
      rw [uniE_some hθ', e]
      have hτ := carG_sub (inv_valid hv ho) hθ'.th
      have m1 := hθ'.most hσ hu (carG a d B)
      have m2 := hθ.most hτ (back θ' hθ'.th hθ'.eq) B
      have hBθ := hBw.ap hθ.th
      have e2 : ap θ' (carG a d (ap θ B)) = ap θ' (carG a d B) := by
        rw [← ap_bk hv ho hθ'.th hBθ, m2, ap_bk hv ho hθ'.th hBw]
      have e1 : ap (fun n => carG a d (θ n)) (ap θ' (carG a d B)) = carG a d (ap θ B) := by rw [m1, carG_in hv hθ.th hBw]
      obtain ⟨k1, k2, k3⟩ := canon_two hθ'.th hσ e1 e2
      rw [carG_len hv hBθ] at k2
      rw [carG_vars hv hBθ] at k3
      unfold madeE
      rw [k2, k3]
      by_cases hc : (ap θ B).length ≤ 60 ∧ (varsC (ap θ B)).length ≤ 12
      · have hok := (madeE_ok p1 hθ.th hBw (by unfold madeE; rw [if_pos hc])).1
        have hok' : okT a (canon (ap θ B)) = true := by unfold madeE at hok; rw [if_pos hc] at hok; exact hok
        rw [if_pos hc, if_pos hc]
        simp only
        unfold carK
        rw [k1, ← carG_eq hok', canon_carG hv hBθ]
      · rw [if_neg hc, if_neg hc]
        rfl
    · rw [e]
      rcases uni_cases p2 hAbw (carG_w hv hNaw) (okT_Rg hAb) hrN with ⟨θ', hθ'⟩ | ⟨-, -, k3⟩
      · exact (hno _ (carG_sub (inv_valid hv ho) hθ'.th) (back θ' hθ'.th hθ'.eq)).elim
      · rw [k3]; rfl
theorem carK_canon (hd : validD a b d = true) {t : List Int} (h : okT a t = true) : carK a d (canon t) = carK a d t := car_canon hd h
theorem getD_map_car (f : List Int → List Int) (hf : f [] = []) (A : List (List Int)) (k : Nat) : (A.map f).getD k [] = f (A.getD k []) := getD_map_nil hf A k
/-- a step, carried -/
theorem step_car (hv : validD a b d = true) (ho : oneB a b d = true) {g l : List (List Int)} (hg : ∀ t ∈ g, okT a t = true) (hl : ∀ t ∈ l, okT a t = true) {x : Stp} (hr : rightB g.length l.length x = true) :
    stepE b (g.map (carT a d)) (l.map (carK a d)) x = (carK a d (stepE a g l x).1, (stepE a g l x).2) := by
  unfold stepE
  by_cases h1 : x.1 = 1
  · rw [if_pos h1, if_pos h1]
    obtain ⟨c1, c2, -⟩ := rightB_cite hr h1
    have hm := hg _ (getD_mem [] (show x.2.1.toNat < g.length by omega))
    rw [getD_map_car _ (carT_nil a d)]
    simp only
    rw [carK_canon hv hm]
    rfl
  · rw [if_neg h1, if_neg h1]
    obtain ⟨-, d1, d2, d3, d4⟩ := rightB_detach hr h1
    have hm := hl _ (getD_mem [] (show x.2.1.toNat < l.length by omega))
    have hn := hl _ (getD_mem [] (show x.2.2.toNat < l.length by omega))
    rw [getD_map_car _ (carK_nil a d), getD_map_car _ (carK_nil a d)]
    unfold carK
    rw [det_canon (carT_ok hv _ hm (Nat.le_refl _)).1 (carT_ok hv _ hn (Nat.le_refl _)).1]
    exact det_car hv ho hm hn
theorem run_car (hv : validD a b d = true) (ho : oneB a b d = true) {g : List (List Int)} (hg : ∀ t ∈ g, okT a t = true) : ∀ (p : List Stp) (l : List (List Int)), (∀ t ∈ l, okT a t = true) → okSteps g.length l.length p = true →
    runL b (g.map (carT a d)) p (l.map (carK a d)) = ((runL a g p l).1.map (carK a d), (runL a g p l).2)
  | [], l, _, _ => rfl
  | x :: p, l, hl, hp => by
    simp only [okSteps, Bool.and_eq_true] at hp
    rw [runL, runL, step_car hv ho hg hl hp.1]
    simp only
    by_cases h : (stepE a g l x).2 = 0
    · rw [if_pos h, if_pos h]
      have hs := step_okT hg hp.1 h
      have ih := run_car hv ho hg p (l ++ [(stepE a g l x).1]) (fun t ht => by
        rcases List.mem_append.1 ht with ht | ht
        · exact hl t ht
        · rw [List.mem_singleton] at ht; rw [ht]; exact hs) (by rw [List.length_append, List.length_singleton]; exact hp.2)
      rw [List.map_append, List.map_cons, List.map_nil] at ih
      exact ih
    · rw [if_neg h, if_neg h]
theorem runR_car (hv : validD a b d = true) (ho : oneB a b d = true) {g : List (List Int)} (hg : ∀ t ∈ g, okT a t = true) (p : List Stp) :
    runR b (g.map (carT a d)) p = ((runR a g p).1.map (carK a d), (runR a g p).2.1, (runR a g p).2.2) ∧ ∀ t ∈ (runR a g p).1, okT a t = true := by
  obtain ⟨p1, p2, -⟩ := validD_parts hv
  have hask : askedB b (g.map (carT a d)) p = askedB a g p := by
    unfold askedB givensB
    rw [p1, p2, List.length_map]
    have h1 : g.all (okT a) = true := List.all_eq_true.2 hg
    have h2 : (g.map (carT a d)).all (okT b) = true := by
      rw [List.all_eq_true]
      intro t ht
      obtain ⟨u, hu, rfl⟩ := List.mem_map.1 ht
      exact (carT_ok hv _ (hg u hu) (Nat.le_refl _)).1
    rw [h1, h2]
  unfold runR
  rw [hask]
  by_cases h : askedB a g p = true
  · rw [if_pos h, if_pos h]
    have hst : okSteps g.length 0 p = true := by
      unfold askedB validP at h
      simp only [Bool.and_eq_true] at h
      exact h.2.1
    have hr := run_car hv ho hg p [] (fun t ht => by cases ht) hst
    rw [List.map_nil] at hr
    have hok := (runL_okT hg p [] (fun t ht => by cases ht) hst).1
    rw [hr]
    simp only
    by_cases hz : (runL a g p []).2 = 0
    · rw [if_pos hz, if_pos hz]
      exact ⟨rfl, hok⟩
    · rw [if_neg hz, if_neg hz]
      simp only [List.length_map]
      exact ⟨trivial, hok⟩
  · rw [if_neg h, if_neg h]
    exact ⟨rfl, fun t ht => by cases ht⟩
end
end Go.Proofs.Ytljkojpooajlhaa

/- Walks: awake5 of the laws over the layers: two terms that do not unify meet. -/
namespace Go.Proofs.Ytljkojpooajlhaa
open Go Go.RowKit Go.Maps

theorem aw5m : meetB awS [-1] [1, -1] = true := by
  have h1 : okT awS [-1] = true := by decide +kernel
  have h2 : okT awS [1, -1] = true := by decide +kernel
  unfold meetB
  rw [h1, h2, Bool.true_and, Bool.true_and]
  have hw : Wsub awS (fun n => if n = -1 then [1, -13] else [n]) := fun n hn => by
    show W1 awS (if n = -1 then [1, -13] else [n])
    split
    · decide +kernel
    · exact W1.var hn
  exact (uniB_iff (okT_parts h1).1 (okT_w1 h1) (apartT_w (okT_w1 h2)) (okT_Rg h1) (apartT_rg h2)).2 ⟨_, hw, by decide +kernel⟩
theorem aw5u : unifB awS [-1] [1, -1] = false := by
  unfold unifB
  have : uniB awS [-1] [1, -1] = false := uniB_none fun η hw h => by
    rw [ap_one (by decide), ap_pos (by decide), ap_one (by decide)] at h
    have := congrArg List.length h
    simp at this
  rw [this, Bool.and_false]
set_option maxHeartbeats 1000000 in
theorem awake5_any (w : World) :
    Calls Try.prog 8 #[] w fun e w' => e = .returned (.bool true) ∧ Below w.heap.size w w' := by
  have hS := awSign w
  go_enter Try.func8, Try.ntmps8
  go_wp2_with fail
  have hB0 := below1 w (.cells #[.string ⟨#[67]⟩, .int .i64 2, .string ⟨#[78]⟩, .int .i64 1] 46)
  have hT := Ints.new (w.alloc (.cells #[.string ⟨#[67]⟩, .int .i64 2, .string ⟨#[78]⟩, .int .i64 1] 46)) [-1] 3 (by decide) (by unfold inRange; decide)
  have hU := Ints.new ((w.alloc (.cells #[.string ⟨#[67]⟩, .int .i64 2, .string ⟨#[78]⟩, .int .i64 1] 46)).alloc (.cells ([-1].map (Value.int .i64)).toArray 3)) [1, -1] 3 (by decide) (by unfold inRange; decide)
  have hT1 := hT.below (below1 _ (.cells ([1, -1].map (Value.int .i64)).toArray 3))
  have hS1 := hS.below (below2 _ (.cells ([-1].map (Value.int .i64)).toArray 3) (.cells ([1, -1].map (Value.int .i64)).toArray 3))
  have hB1 := bcall hB0 (below2 _ (.cells ([-1].map (Value.int .i64)).toArray 3) (.cells ([1, -1].map (Value.int .i64)).toArray 3))
  rw [World.size_alloc] at hT1 hU
  rw [World.size_alloc] at hU
  refine (Meets_any (some ⟨w.heap.size, 0, none⟩) (some ⟨w.heap.size + 1, 0, none⟩) (some ⟨w.heap.size + 1 + 1, 0, none⟩) 2 1 2 awS [-1] [1, -1] _ hS1 hT1 hU).mono ?_
  rw [aw5m]
  rintro e w1 ⟨rfl, hb1⟩
  have hS2 := hS1.below hb1
  have hB2 := bcall hB1 hb1
  clear hS hS1 hT hT1 hU hB0 hB1 hb1
  go_wp2_with fail
  have hT := Ints.new w1 [-1] 3 (by decide) (by unfold inRange; decide)
  have hU := Ints.new (w1.alloc (.cells ([-1].map (Value.int .i64)).toArray 3)) [1, -1] 3 (by decide) (by unfold inRange; decide)
  have hT1 := hT.below (below1 _ (.cells ([1, -1].map (Value.int .i64)).toArray 3))
  have hb2 := below2 w1 (.cells ([-1].map (Value.int .i64)).toArray 3) (.cells ([1, -1].map (Value.int .i64)).toArray 3)
  rw [World.size_alloc] at hU
  refine (Unifiable_any (some ⟨w.heap.size, 0, none⟩) (some ⟨w1.heap.size, 0, none⟩) (some ⟨w1.heap.size + 1, 0, none⟩) 2 1 2 awS [-1] [1, -1] _ (hS2.below hb2) hT1 hU).mono ?_
  rw [aw5u]
  rintro e w2 ⟨rfl, hb3⟩
  have hB3 := bcall (bcall hB2 hb2) hb3
  clear hS2 hT hT1 hU hB2 hb2 hb3
  go_wp2_with fail
  go_ret
  exact ⟨rfl, hB3⟩
end Go.Proofs.Ytljkojpooajlhaa

/- Facts of the program's types that the rows over the kernel want; the start of a row that lists variables. -/
namespace Go.Proofs.Ytljkojpooajlhaa
open Go Go.RowKit Go.ChangeShapes Go.WideShapes Go.ChangeAt Go.Deep

theorem gives3 {P : Program} {t : TypeId} {α β γ : Type} {E : Enc α} {F : Enc β} {G : Enc γ} {f0 f1 f2 : Field} (ht : P.underlying t = some (.struct #[f0, f1, f2])) (h0 : f0.offset = 0) (h1 : f1.offset = E.size) (h2 : f2.offset = E.size + F.size) (hc : P.cellsOf t = E.size + (F.size + G.size))
    (hc0 : P.cellsOf f0.type = E.size) (hc1 : P.cellsOf f1.type = F.size) (hc2 : P.cellsOf f2.type = G.size) (g0 : Gives P f0.type E) (g1 : Gives P f1.type F) (g2 : Gives P f2.type G) : Gives P t (pairE E (pairE F G)) := by
  intro H enc w base spare held n cs x h
  obtain ⟨y0, y1, y2, n', _, hl, r0, r1, r2⟩ := trod_struct3 ht h
  obtain ⟨a, ha⟩ := g0 H enc w base spare held n' _ _ r0
  obtain ⟨b, hb⟩ := g1 H enc w base spare held n' _ _ r1
  obtain ⟨c, hcc⟩ := g2 H enc w base spare held n' _ _ r2
  refine ⟨(a, b, c), _, _, ?_, ha, _, _, rfl, hb, hcc⟩
  rw [h0, h1, h2, hc0, hc1, hc2, List.drop_zero]
  have e1 : (cs.drop (E.size + F.size)).take G.size = cs.drop (E.size + F.size) := List.take_of_length_le (by simp; omega)
  rw [e1, ← List.drop_drop, List.take_append_drop, List.take_append_drop]
theorem gStp : Gives Try.prog 89 stpE := gives3 Try.underlying89 rfl rfl rfl (by kernel_rfl) (by kernel_rfl) (by kernel_rfl) (by kernel_rfl) gInt gInt gInt
theorem gSteps : Gives Try.prog 28 (slE stpE) := gives_slice Try.underlying28 (by kernel_rfl) gStp
theorem gives_array2 {P : Program} {t e : TypeId} {α : Type} {E : Enc α} (ht : P.underlying t = some (.array 2 e)) (hc : P.cellsOf t = E.size + E.size) (he : P.cellsOf e = E.size) (g : Gives P e E) : Gives P t (pairE E E) := by
  intro H enc w base spare held n cs x h
  obtain ⟨xs, m, _, _, hl, hx, hf⟩ := DataW.trod_array ht h
  match xs, hx with
  | [x0, x1], _ =>
    obtain ⟨a, ha⟩ := g H enc w base spare held m _ _ (hf 0 (by omega))
    obtain ⟨b, hb⟩ := g H enc w base spare held m _ _ (hf 1 (by omega))
    refine ⟨(a, b), _, _, ?_, ha, hb⟩
    rw [he, Nat.zero_mul, Nat.one_mul, List.drop_zero]
    have e1 : (cs.drop E.size).take E.size = cs.drop E.size := List.take_of_length_le (by simp; omega)
    rw [e1, List.take_append_drop]
end Go.Proofs.Ytljkojpooajlhaa

/- Walks: trade of the laws over the layers. -/
namespace Go.Proofs.Ytljkojpooajlhaa
open Go Go.RowKit Go.Maps

def tradeB (a b : Sg) (d : Ways) : Bool := d.all (fun x => decide (x.2.length ≤ 40)) && (smallT a [] && (smallT b [] && decide (d.length ≤ 40)))
theorem tradeB_le {a b : Sg} {d : Ways} (h : tradeB a b d = true) : ∀ x ∈ d, x.2.length ≤ 1000 := by
  unfold tradeB at h
  rw [Bool.and_eq_true, List.all_eq_true] at h
  intro x hx
  have := h.1 x hx
  rw [decide_eq_true_eq] at this
  omega
def trRel (d : Ways) (w : World) (i : Value) (wr : World) : Prop := ∃ k : Nat, i = .int .i64 k ∧ k ≤ d.length ∧ (d.take k).all (fun x => decide (x.2.length ≤ 40)) = true ∧ w = wr
set_option maxHeartbeats 4000000 in
theorem trade_any {S1 S2 S3 : Nat → Prop} (a1 a2 a3 : Option Addr) (c1 c2 c3 : Nat) (a b : Sg) (d : Ways) (w : World) (h1 : Sign S1 w a1 c1 a) (h2 : Sign S2 w a2 c2 b) (h3 : WaysL S3 w a3 c3 d) :
    Calls Try.prog 4 #[.agg #[.slice a1 a.length c1, .slice a2 b.length c2, .slice a3 d.length c3]] w fun e w' => e = .returned (.bool (tradeB a b d)) ∧ Below w.heap.size w w' := by
  have m1 := h1.le
  have m2 := h2.le
  have m3 := h3.le
  obtain ⟨W, hW⟩ : ∃ W, w.alloc (.cells #[.slice a1 a.length c1, .slice a2 b.length c2, .slice a3 d.length c3] 26) = W := ⟨_, rfl⟩
  have hB : Below w.heap.size w W := by rw [← hW]; exact below1 w _
  have q0 : W.cell? ⟨w.heap.size, 0, none⟩ = some (.slice a1 a.length c1) := by rw [← hW]; clear hW; go_simp
  have q1 : W.cell? ⟨w.heap.size, 1, none⟩ = some (.slice a2 b.length c2) := by rw [← hW]; clear hW; go_simp
  have q2 : W.cell? ⟨w.heap.size, 2, none⟩ = some (.slice a3 d.length c3) := by rw [← hW]; clear hW; go_simp
  have s1 : Calls Try.prog 5 #[.slice a1 a.length c1, .slice none 0 0] W fun e w' => e = .returned (.bool (smallT a [])) ∧ W = w' := Small_any a1 none c1 0 a [] W (h1.below hB) (Sl.empty (S := fun _ => True))
  have s2 : Calls Try.prog 5 #[.slice a2 b.length c2, .slice none 0 0] W fun e w' => e = .returned (.bool (smallT b [])) ∧ W = w' := Small_any a2 none c2 0 b [] W (h2.below hB) (Sl.empty (S := fun _ => True))
  have s1H := Lib.hid s1
  have s2H := Lib.hid s2
  have hBH := Lib.hid hB
  have h3H := Lib.hid (h3.below hB)
  clear s1 s2 hB h1 h2 h3
  go_enter Try.func4, Try.ntmps4
  go_wp2_with fail
  try rw [hW]
  go_loopw [3] (fun i wr => trRel d W i wr) (fun i _ => d.length - (intOf i).toNat)
  case atStart => exact ⟨0, rfl, Nat.zero_le _, by simp, by first | rfl | exact hW.symm | trivial⟩
  case round =>
    obtain ⟨k, rfl, hk, hal, rfl⟩ := hrel
    by_cases hlt : k < d.length
    · obtain ⟨b3, o3, ai, ci, rfl, -, -, qi, -, hI⟩ := h3H.out.way k hlt
      have hma := hI.le
      have hst : d[k].2.length ≤ 40 → (d.take (k + 1)).all (fun x => decide (x.2.length ≤ 40)) = true := fun h => by
        rw [List.take_succ_eq_append_getElem hlt, List.all_append, hal]
        simpa using h
      have hbad : 40 < d[k].2.length → tradeB a b d = false := fun h => by
        have : d.all (fun x => decide (x.2.length ≤ 40)) = false := by rw [List.all_eq_false]; exact ⟨d[k], List.getElem_mem hlt, by simpa using h⟩
        unfold tradeB; rw [this]; rfl
      obtain ⟨n, hn⟩ : ∃ n, d[k].2.length = n := ⟨_, rfl⟩
      rw [hn] at qi hst hbad hma
      by_cases h40 : n ≤ 40
      · have hf := Lib.hid (hst h40)
        clear hst hbad hal hn hI
        go_wp2_with fail
        go_roundw
        case rel => exact ⟨k + 1, by go_num, by omega, hf.out, rfl⟩
        case measure => simp [intOf]; omega
      · have hf := Lib.hid (hbad (by omega))
        clear hst hbad hal hn hI
        go_wp2_with fail
        go_ret
        exact ⟨ret_bool hf.out.symm, hBH.out⟩
    · rw [List.take_of_length_le (by omega)] at hal
      have hkd : ((k : Int) < (d.length : Int)) = False := eq_false (by omega)
      have hf : tradeB a b d = (smallT a [] && (smallT b [] && decide (d.length ≤ 40))) := by unfold tradeB; rw [hal, Bool.true_and]
      have hfH := Lib.hid hf
      have hltH := Lib.hid hlt
      clear hal hf hlt hk
      cases hx : smallT a [] with
      | false =>
        rw [hx] at s1H hfH
        clear hx
        go_wp2_with fail
        refine s1H.out.mono ?_
        rintro e w1 ⟨rfl, rfl⟩
        go_wp2_with fail
        go_ret
        exact ⟨ret_bool hfH.out.symm, hBH.out⟩
      | true =>
        rw [hx] at s1H hfH
        cases hy : smallT b [] with
        | false =>
          rw [hy] at s2H hfH
          clear hx hy
          go_wp2_with fail
          refine s1H.out.mono ?_
          rintro e w1 ⟨rfl, rfl⟩
          go_wp2_with fail
          refine s2H.out.mono ?_
          rintro e w1 ⟨rfl, rfl⟩
          go_wp2_with fail
          go_ret
          exact ⟨ret_bool hfH.out.symm, hBH.out⟩
        | true =>
          rw [hy] at s2H hfH
          clear hx hy
          go_wp2_with fail
          refine s1H.out.mono ?_
          rintro e w1 ⟨rfl, rfl⟩
          go_wp2_with fail
          refine s2H.out.mono ?_
          rintro e w1 ⟨rfl, rfl⟩
          go_wp2_with fail
          all_goals go_ret
          all_goals exact ⟨ret_bool (by rw [hfH.out]; simp; try omega), hBH.out⟩
end Go.Proofs.Ytljkojpooajlhaa

/- Facts of the program's types that the rows over the tongues want. -/
namespace Go.Proofs.Ytljkojpooajlhaa
open Go Go.RowKit Go.ChangeShapes Go.WideShapes Go.ChangeAt Go.Deep

theorem gWay : Gives Try.prog 44 wayE := gives_pair Try.underlying44 rfl rfl (by kernel_rfl) (by kernel_rfl) (by kernel_rfl) gInt gInts
theorem gWays : Gives Try.prog 24 (slE wayE) := gives_slice Try.underlying24 (by kernel_rfl) gWay
theorem gTrade : Gives Try.prog 26 (pairE (slE symE) (pairE (slE symE) (slE wayE))) := gives3 Try.underlying26 rfl rfl rfl (by kernel_rfl) (by kernel_rfl) (by kernel_rfl) (by kernel_rfl) gSign gSign gWays
end Go.Proofs.Ytljkojpooajlhaa

/- Walks that the laws on kernel share: shelf, Light; awake behind what came before it. -/
namespace Go.Proofs.Ytljkojpooajlhaa
open Go Go.RowKit Go.Maps

theorem Light_any {S : Nat → Prop} (a : Option Addr) (c : Nat) (p : List Stp) (w : World) (h : Steps S w a c p) :
    Calls Try.prog 6 #[.slice a p.length c] w fun e w' => e = .returned (.bool (decide (p.length ≤ 100))) ∧ w = w' := by
  have m := h.le
  go_enter Try.func6, Try.ntmps6
  go_wp2_with fail
  go_ret
  exact ⟨ret_bool (by rw [Bool.eq_iff_iff]; simp only [decide_eq_true_eq]; omega), rfl⟩
def shelfT (s : Sg) (g : List (List Int)) : Bool := decide (g.length ≤ 80) && smallT s g
end Go.Proofs.Ytljkojpooajlhaa

/- The law TopCarriedProofs, walked. -/
namespace Go.Proofs.Ytljkojpooajlhaa
open Go Go.RowKit Go.Maps

abbrev OwnTc (w : World) (base : Nat) (v : Value) (l : List (List Int)) : Prop := OwnL (slE intE) (fun b => base ≤ b) w base 35 v l
theorem infoTc : (Try.prog.info? 35).map (fun i => (i.zero, i.size, i.bytes)) = some (some (.slice none 0 0), 1, 24) := by kernel_rfl
theorem tcPush {W1 wr W : World} {out : Value} {l l' : List (List Int)} (ho : OwnTc wr W1.heap.size out l) (hB : Below W1.heap.size W1 wr) (hb : Below wr.heap.size wr W) {x : List Int} {a : Option Addr} {c : Nat} (hI : Ints (fun b => wr.heap.size ≤ b) W a c x) (hl' : l' = l ++ [x]) (hl : l.length ≤ 1000) :
    ∃ v' w', RowKit.Hid ((Builtin.append_ #[27, 27] 27 #[out, .slice (some ⟨W.heap.size, 0, none⟩) 1 1]).run Try.prog (W.alloc (.cells #[.slice a x.length c] 35)) = .ok v' w') ∧ RowKit.Hid (OwnTc w' W1.heap.size v' l') ∧ RowKit.Hid (Below W1.heap.size W1 w') := by
  have hB2 := bcall hB hb
  have ho1 := OwnL.call ho hb
  have hsz := hB.size
  obtain ⟨v', w', hrun, ho', hg, -⟩ := ho1.push (P := Try.prog) (t := 27) (ty := 27) Try.underlying27 infoTc rfl (vs := [.slice a x.length c]) (x := x)
    ⟨a, c, rfl, hI.mono (fun b _ hb => ⟨by omega, fun e => by have := (OwnL.lt ho b e.symm).2; omega⟩) (.refl _ _)⟩ (by omega) (by unfold big; omega) hB2.size
  exact ⟨v', w', Lib.hid hrun, Lib.hid (by rw [hl']; exact ho'), Lib.hid (hB2.grown hg hB2.size (fun k e => (OwnL.lt ho1 k e).1))⟩
def tcR (g : List (List Int)) (a : Sg) (d : Ways) (W1 : World) (vO iV : Value) (wr : World) : Prop :=
  ∃ k : Nat, iV = .int .i64 k ∧ k ≤ g.length ∧ OwnTc wr W1.heap.size vO ((g.take k).map (carT a d)) ∧ (∀ t ∈ g.take k, okT a t = true) ∧ Below W1.heap.size W1 wr
theorem crd_yes {a b : Sg} {d : Ways} {t : List Int} (h1 : validD a b d = true) (h2 : okT a t = true) : crdE a b d t = (carT a d t, 0) := by
  unfold crdE; rw [h1, h2, Bool.and_self, if_pos rfl]
theorem crd_no {a b : Sg} {d : Ways} {t : List Int} (h2 : okT a t = false) : crdE a b d t = ([], 1) := by
  unfold crdE; rw [h2, Bool.and_false]; rfl
theorem alike_car {a b : Sg} {d : Ways} (hv : validD a b d = true) {t : List Int} (h : okT a t = true) : alikeT b (carT a d t) (carK a d t) = true := by
  have hb := (carT_ok hv t.length h (Nat.le_refl _)).1
  unfold alikeT carK
  rw [hb, okT_canon hb, canon_canon]
  simp
set_option maxRecDepth 100000 in
set_option maxHeartbeats 8000000 in
theorem TopCarriedProofs_walk {S1 S2 S3 S4 S5 : Nat → Prop} (a1 : Option Addr) (c1 : Nat) (a : Sg) (a2 : Option Addr) (c2 : Nat) (b : Sg) (a3 : Option Addr) (c3 : Nat) (d : Ways) (ag : Option Addr) (cg : Nat) (g : List (List Int)) (apt : Option Addr) (cp : Nat) (p : List Stp) (w : World)
    (h1 : Sign S1 w a1 c1 a) (h2 : Sign S2 w a2 c2 b) (h3 : WaysL S3 w a3 c3 d) (h4 : Terms S4 w ag cg g) (h5 : Steps S5 w apt cp p) :
    Calls Try.prog 3 #[.agg #[.slice a1 a.length c1, .slice a2 b.length c2, .slice a3 d.length c3], .slice ag g.length cg, .slice apt p.length cp] w fun e w' => e = .returned (.bool true) ∧ Below w.heap.size w w' := by
  have m1 := h1.le
  have m2 := h2.le
  have m3 := h3.le
  have m4 := h4.le
  have m5 := h5.le
  obtain ⟨W, hW⟩ : ∃ W, w.alloc (.cells #[.slice a1 a.length c1, .slice a2 b.length c2, .slice a3 d.length c3] 26) = W := ⟨_, rfl⟩
  have hB : Below w.heap.size w W := by rw [← hW]; exact below1 w _
  have q0 : W.cell? ⟨w.heap.size, 0, none⟩ = some (.slice a1 a.length c1) := by rw [← hW]; clear hW; go_simp
  have q1 : W.cell? ⟨w.heap.size, 1, none⟩ = some (.slice a2 b.length c2) := by rw [← hW]; clear hW; go_simp
  have q2 : W.cell? ⟨w.heap.size, 2, none⟩ = some (.slice a3 d.length c3) := by rw [← hW]; clear hW; go_simp
  have ct := trade_any a1 a2 a3 c1 c2 c3 a b d W (h1.below hB) (h2.below hB) (h3.below hB)
  have csm : ∀ W', Below w.heap.size w W' → Calls Try.prog 5 #[.slice none 0 0, .slice ag g.length cg] W' fun e w' => e = .returned (.bool (smallT [] g)) ∧ W' = w' := fun W' hb => Small_any (S1 := fun _ => True) none ag 0 cg [] g W' Sl.empty (h4.below hb)
  have cli : ∀ W', Below w.heap.size w W' → Calls Try.prog 6 #[.slice apt p.length cp] W' fun e w' => e = .returned (.bool (decide (p.length ≤ 100))) ∧ W' = w' := fun W' hb => Light_any apt cp p W' (h5.below hb)
  have aw := Lib.hid (fun W' => awake5_any W')
  have hWH := Lib.hid hW
  have hBH := Lib.hid hB
  have h1H := Lib.hid h1
  have h2H := Lib.hid h2
  have h3H := Lib.hid h3
  have h4H := Lib.hid h4
  have h5H := Lib.hid h5
  clear h1 h2 h3 h4 h5 hB hW
  cases zt : tradeB a b d with
  | false =>
    rw [zt] at ct
    have ctH := Lib.hid ct
    clear ct zt csm cli
    go_enter Try.func3, Try.ntmps3
    go_wp2_with fail
    try rw [hWH.out]
    refine ctH.out.mono ?_
    rintro e w1 ⟨rfl, hb1⟩
    have hb1H := Lib.hid (bcall hBH.out hb1)
    clear hb1
    go_wp2_with fail
    refine (aw.out _).mono ?_
    rintro e w2 ⟨rfl, hb2⟩
    go_wp2_with fail
    go_ret
    exact ⟨rfl, bcall hb1H.out hb2⟩
  | true =>
  rw [zt] at ct
  have ctH := Lib.hid ct
  have hda := Lib.hid (tradeB_le zt)
  clear ct zt
  by_cases hg : g.length ≤ 20
  case neg =>
    have hgi : ((20 : Int) < (g.length : Int)) = True := eq_true (by omega)
    clear hg csm cli
    go_enter Try.func3, Try.ntmps3
    go_wp2_with fail
    try rw [hWH.out]
    refine ctH.out.mono ?_
    rintro e w1 ⟨rfl, hb1⟩
    have hb1H := Lib.hid (bcall hBH.out hb1)
    clear hb1
    go_wp2_with fail
    refine (aw.out _).mono ?_
    rintro e w2 ⟨rfl, hb2⟩
    go_wp2_with fail
    go_ret
    exact ⟨rfl, bcall hb1H.out hb2⟩
  case pos =>
  have hgi : ((20 : Int) < (g.length : Int)) = False := eq_false (by omega)
  cases zs : smallT [] g with
  | false =>
    rw [zs] at csm
    have csmH := Lib.hid csm
    clear csm zs cli
    go_enter Try.func3, Try.ntmps3
    go_wp2_with fail
    try rw [hWH.out]
    refine ctH.out.mono ?_
    rintro e w1 ⟨rfl, hb1⟩
    have hb1H := Lib.hid (bcall hBH.out hb1)
    clear hb1
    go_wp2_with fail
    refine (csmH.out _ hb1H.out).mono ?_
    rintro e w1' ⟨rfl, rfl⟩
    go_wp2_with fail
    refine (aw.out _).mono ?_
    rintro e w2 ⟨rfl, hb2⟩
    go_wp2_with fail
    go_ret
    exact ⟨rfl, bcall hb1H.out hb2⟩
  | true =>
  rw [zs] at csm
  have csmH := Lib.hid csm
  clear csm zs
  cases zl : decide (p.length ≤ 100) with
  | false =>
    rw [zl] at cli
    have cliH := Lib.hid cli
    clear cli zl
    go_enter Try.func3, Try.ntmps3
    go_wp2_with fail
    try rw [hWH.out]
    refine ctH.out.mono ?_
    rintro e w1 ⟨rfl, hb1⟩
    have hb1H := Lib.hid (bcall hBH.out hb1)
    clear hb1
    go_wp2_with fail
    refine (csmH.out _ hb1H.out).mono ?_
    rintro e w1' ⟨rfl, rfl⟩
    go_wp2_with fail
    refine (cliH.out _ hb1H.out).mono ?_
    rintro e w1' ⟨rfl, rfl⟩
    go_wp2_with fail
    refine (aw.out _).mono ?_
    rintro e w2 ⟨rfl, hb2⟩
    go_wp2_with fail
    go_ret
    exact ⟨rfl, bcall hb1H.out hb2⟩
  | true =>
  rw [zl] at cli
  have cliH := Lib.hid cli
  clear cli zl
  have co := fun W' (hb : Below w.heap.size w W') => OneToOne_any a1 a2 a3 c1 c2 c3 a b d W' (h1H.out.below hb) (h2H.out.below hb) (h3H.out.below hb) hda.out
  cases zo : (validD a b d && oneB a b d) with
  | false =>
    simp only [zo] at co
    have coH := Lib.hid co
    clear co zo
    go_enter Try.func3, Try.ntmps3
    go_wp2_with fail
    try rw [hWH.out]
    refine ctH.out.mono ?_
    rintro e w1 ⟨rfl, hb1⟩
    have q01 := cell_later hb1 q0
    have q11 := cell_later hb1 q1
    have q21 := cell_later hb1 q2
    have hb1H := Lib.hid (bcall hBH.out hb1)
    clear hb1
    go_wp2_with fail
    refine (csmH.out _ hb1H.out).mono ?_
    rintro e w1' ⟨rfl, rfl⟩
    go_wp2_with fail
    refine (cliH.out _ hb1H.out).mono ?_
    rintro e w1' ⟨rfl, rfl⟩
    go_wp2_with fail
    refine (coH.out _ hb1H.out).mono ?_
    rintro e w2 ⟨rfl, hb2⟩
    have hb2H := Lib.hid (bcall hb1H.out hb2)
    clear hb2
    go_wp2_with fail
    refine (aw.out _).mono ?_
    rintro e w3 ⟨rfl, hb3⟩
    go_wp2_with fail
    go_ret
    exact ⟨rfl, bcall hb2H.out hb3⟩
  | true =>
  simp only [zo] at co
  have coH := Lib.hid co
  rw [Bool.and_eq_true] at zo
  have hvH := Lib.hid zo.1
  have hoH := Lib.hid zo.2
  clear co zo
  go_enter Try.func3, Try.ntmps3
  go_wp2_with fail
  try rw [hWH.out]
  refine ctH.out.mono ?_
  rintro e w1 ⟨rfl, hb1⟩
  have q01 := cell_later hb1 q0
  have q11 := cell_later hb1 q1
  have q21 := cell_later hb1 q2
  have hb1H := Lib.hid (bcall hBH.out hb1)
  clear hb1
  go_wp2_with fail
  refine (csmH.out _ hb1H.out).mono ?_
  rintro e w1' ⟨rfl, rfl⟩
  go_wp2_with fail
  refine (cliH.out _ hb1H.out).mono ?_
  rintro e w1' ⟨rfl, rfl⟩
  go_wp2_with fail
  refine (coH.out _ hb1H.out).mono ?_
  rintro e W1 ⟨rfl, hb2⟩
  have r0 := cell_later hb2 q01
  have r1 := cell_later hb2 q11
  have r2 := cell_later hb2 q21
  have hb2H := Lib.hid (bcall hb1H.out hb2)
  clear hb2 q0 q1 q2 q01 q11 q21
  go_wp2_with fail
  have rH := Lib.hid (fun W' (hb : Below W1.heap.size W1 W') => And.intro (cell_later hb r0) (And.intro (cell_later hb r1) (cell_later hb r2)))
  clear r0 r1 r2
  go_loopw [7, 8] (fun vO iV wr => tcR g a d W1 vO iV wr) (fun _ iV _ => g.length - (intOf iV).toNat)
  case atStart => exact ⟨0, rfl, Nat.zero_le _, .nil _ _ _ _ _, (fun t h => by simp at h), .refl _ _⟩
  case round =>
    obtain ⟨k, rfl, hk, hO, hall, hBk⟩ := hrel
    obtain ⟨r0, r1, r2⟩ := rH.out _ hBk
    have hBw := bcall hb2H.out hBk
    by_cases hlt : k < g.length
    · obtain ⟨bg, og, at1, ct1, rfl, -, qg, hIg⟩ := (h4H.out.below hBw).sub k hlt
      have mg := hIg.le
      obtain ⟨x, hx⟩ : ∃ x, g[k] = x := ⟨_, rfl⟩
      have htk : (g.take (k + 1)).map (carT a d) = (g.take k).map (carT a d) ++ [carT a d x] := by rw [List.take_succ_eq_append_getElem hlt, List.map_append, hx]; rfl
      have hall' : okT a x = true → ∀ t ∈ g.take (k + 1), okT a t = true := fun h t ht => by
        rw [List.take_succ_eq_append_getElem hlt, List.mem_append, List.mem_singleton] at ht
        rcases ht with ht | ht
        · exact hall t ht
        · rw [ht, hx]; exact h
      rw [hx] at qg hIg mg
      have cc := fun W' (hb : Below wr.heap.size wr W') => Carried_any a1 a2 a3 at1 c1 c2 c3 ct1 a b d x W' (h1H.out.below (bcall hBw hb)) (h2H.out.below (bcall hBw hb)) (h3H.out.below (bcall hBw hb)) (hIg.below hb) hda.out
      have hbd : Below wr.heap.size wr wr.drew := (Below.refl _ wr).drew
      have hOH := Lib.hid hO
      have hBkH := Lib.hid hBk
      have hBwH := Lib.hid hBw
      have htkH := Lib.hid htk
      have hallH := Lib.hid hall'
      clear hO hall hBk hBw htk hall' hIg hx
      cases hok : okT a x with
      | false =>
        simp only [crd_no hok] at cc
        have ccH := Lib.hid cc
        clear cc hok
        go_wp2_with fail
        refine wp_region_held_drew (S := fun w' => w'.cell? ⟨w.heap.size, 0, none⟩ = some (.slice a1 a.length c1) ∧ w'.cell? ⟨w.heap.size, 1, none⟩ = some (.slice a2 b.length c2) ∧ w'.cell? ⟨w.heap.size, 2, none⟩ = some (.slice a3 d.length c3) ∧ w'.cell? ⟨bg, og + k, none⟩ = some (.slice at1 x.length ct1)) (by kernel_rfl) ⟨r0, r1, r2, qg⟩ (fun hS => ?_)
        refine region_take 0 (some 56) (v := ?_) rfl rfl (by kernel_rfl) (by kernel_rfl) (by kernel_rfl) (fun _ _ _ h => h) rfl ?_ hS ?_
        rotate_left
        · (intro w9 hS9; obtain ⟨z0, z1, z2, z3⟩ := hS9; go_simp; try (with_reducible rfl))
        simp only [Act.put, List.setIfInBounds_toArray, List.set_cons_zero, List.set_cons_succ]
        refine region_take 1 (some 57) (v := ?_) rfl rfl (by kernel_rfl) (by kernel_rfl) (by kernel_rfl) (fun _ _ _ h => h) rfl ?_ hS ?_
        rotate_left
        · (intro w9 hS9; obtain ⟨z0, z1, z2, z3⟩ := hS9; go_simp; try (with_reducible rfl))
        simp only [Act.put, List.setIfInBounds_toArray, List.set_cons_zero, List.set_cons_succ]
        refine region_take 2 (some 58) (v := ?_) rfl rfl (by kernel_rfl) (by kernel_rfl) (by kernel_rfl) (fun _ _ _ h => h) rfl ?_ hS ?_
        rotate_left
        · (intro w9 hS9; obtain ⟨z0, z1, z2, z3⟩ := hS9; go_simp; try (with_reducible rfl))
        simp only [Act.put, List.setIfInBounds_toArray, List.set_cons_zero, List.set_cons_succ]
        refine region_take 3 (some 59) (v := ?_) rfl rfl (by kernel_rfl) (by kernel_rfl) (by kernel_rfl) (fun _ _ _ h => h) rfl ?_ hS ?_
        rotate_left
        · (intro w9 hS9; obtain ⟨z0, z1, z2, z3⟩ := hS9; go_simp; try (with_reducible rfl))
        simp only [Act.put, List.setIfInBounds_toArray, List.set_cons_zero, List.set_cons_succ]
        refine region_take 4 (some 60) (v := ?_) rfl rfl (by kernel_rfl) (by kernel_rfl) (by kernel_rfl) (fun _ _ _ h => h) rfl ?_ hS ?_
        rotate_left
        · (intro w9 hS9; obtain ⟨z0, z1, z2, z3⟩ := hS9; go_simp; try (with_reducible rfl))
        simp only [Act.put, List.setIfInBounds_toArray, List.set_cons_zero, List.set_cons_succ]
        refine region_take 5 (some 61) (v := ?_) rfl rfl (by kernel_rfl) (by kernel_rfl) (by kernel_rfl) (fun _ _ _ h => h) rfl ?_ hS ?_
        rotate_left
        · (intro w9 hS9; obtain ⟨z0, z1, z2, z3⟩ := hS9; go_simp; try (with_reducible rfl))
        simp only [Act.put, List.setIfInBounds_toArray, List.set_cons_zero, List.set_cons_succ]
        refine region_take 6 (some 62) (v := ?_) rfl rfl (by kernel_rfl) (by kernel_rfl) (by kernel_rfl) (fun _ _ _ h => h) rfl ?_ hS ?_
        rotate_left
        · (intro w9 hS9; obtain ⟨z0, z1, z2, z3⟩ := hS9; go_simp; try (with_reducible rfl))
        simp only [Act.put, List.setIfInBounds_toArray, List.set_cons_zero, List.set_cons_succ]
        refine region_take 7 (some 63) (v := ?_) rfl rfl (by kernel_rfl) (by kernel_rfl) (by kernel_rfl) (fun _ _ _ h => h) rfl ?_ hS ?_
        rotate_left
        · (intro w9 hS9; obtain ⟨z0, z1, z2, z3⟩ := hS9; go_simp; try (with_reducible rfl))
        simp only [Act.put, List.setIfInBounds_toArray, List.set_cons_zero, List.set_cons_succ]
        refine region_take 8 (some 64) (v := ?_) rfl rfl (by kernel_rfl) (by kernel_rfl) (by kernel_rfl) (fun _ _ _ h => h) rfl ?_ hS ?_
        rotate_left
        · (intro w9 hS9; obtain ⟨z0, z1, z2, z3⟩ := hS9; go_simp; try (with_reducible rfl))
        simp only [Act.put, List.setIfInBounds_toArray, List.set_cons_zero, List.set_cons_succ]
        refine region_take 9 (some 65) (v := ?_) rfl rfl (by kernel_rfl) (by kernel_rfl) (by kernel_rfl) (fun _ _ _ h => h) rfl ?_ hS ?_
        rotate_left
        · (intro w9 hS9; obtain ⟨z0, z1, z2, z3⟩ := hS9; go_simp; try (with_reducible rfl))
        simp only [Act.put, List.setIfInBounds_toArray, List.set_cons_zero, List.set_cons_succ]
        refine region_call 10 rfl (by kernel_rfl) (fun K hK => ?_)
        go_simp
        (with_reducible refine (ccH.out _ hbd).mono ?_)
        rintro e w4 ⟨aX, cX, rfl, -, hb4⟩
        go_simp
        refine hK.out _ _ ⟨cell_later (bcall hbd hb4) r0, cell_later (bcall hbd hb4) r1, cell_later (bcall hbd hb4) r2, cell_later (bcall hbd hb4) qg⟩ ?_
        clear hK hS K
        intro hS
        refine region_take 11 (some 55) (v := ?_) rfl rfl (by kernel_rfl) (by kernel_rfl) (by kernel_rfl) (fun _ _ _ h => h) rfl ?_ hS ?_
        rotate_left
        · (intro w9 hS9; obtain ⟨z0, z1, z2, z3⟩ := hS9; go_simp; try (with_reducible rfl))
        simp only [Act.put, List.setIfInBounds_toArray, List.set_cons_zero, List.set_cons_succ]
        refine region_take 12 (some 67) (v := ?_) rfl rfl (by kernel_rfl) (by kernel_rfl) (by kernel_rfl) (fun _ _ _ h => h) rfl ?_ hS ?_
        rotate_left
        · (intro w9 hS9; obtain ⟨z0, z1, z2, z3⟩ := hS9; go_simp; try (with_reducible rfl))
        simp only [Act.put, List.setIfInBounds_toArray, List.set_cons_zero, List.set_cons_succ]
        refine region_take 13 (some 68) (v := ?_) rfl rfl (by kernel_rfl) (by kernel_rfl) (by kernel_rfl) (fun _ _ _ h => h) rfl ?_ hS ?_
        rotate_left
        · (intro w9 hS9; obtain ⟨z0, z1, z2, z3⟩ := hS9; go_simp; try (with_reducible rfl))
        simp only [Act.put, List.setIfInBounds_toArray, List.set_cons_zero, List.set_cons_succ]
        refine region_take 14 (some 9) (v := ?_) rfl rfl (by kernel_rfl) (by kernel_rfl) (by kernel_rfl) (fun _ _ _ h => h) rfl ?_ hS ?_
        rotate_left
        · (intro w9 hS9; obtain ⟨z0, z1, z2, z3⟩ := hS9; go_simp; try (with_reducible rfl))
        simp only [Act.put, List.setIfInBounds_toArray, List.set_cons_zero, List.set_cons_succ]
        refine region_take 15 (some 10) (v := ?_) rfl rfl (by kernel_rfl) (by kernel_rfl) (by kernel_rfl) (fun _ _ _ h => h) rfl ?_ hS ?_
        rotate_left
        · (intro w9 hS9; obtain ⟨z0, z1, z2, z3⟩ := hS9; go_simp; try (with_reducible rfl))
        simp only [Act.put, List.setIfInBounds_toArray, List.set_cons_zero, List.set_cons_succ]
        refine wpAnyH_done (by kernel_rfl) ?_ _
        have hb4H := Lib.hid (bcall hBwH.out (bcall hbd hb4))
        clear hb4
        go_wp2_with fail
        refine (aw.out _).mono ?_
        rintro e w5 ⟨rfl, hb5⟩
        go_wp2_with fail
        go_ret
        exact ⟨rfl, bcall hb4H.out hb5⟩
      | true =>
        simp only [crd_yes hvH.out hok] at cc
        have ccH := Lib.hid cc
        have hokH := Lib.hid hok
        clear cc hok
        go_wp2_with fail
        refine wp_region_held_drew (S := fun w' => w'.cell? ⟨w.heap.size, 0, none⟩ = some (.slice a1 a.length c1) ∧ w'.cell? ⟨w.heap.size, 1, none⟩ = some (.slice a2 b.length c2) ∧ w'.cell? ⟨w.heap.size, 2, none⟩ = some (.slice a3 d.length c3) ∧ w'.cell? ⟨bg, og + k, none⟩ = some (.slice at1 x.length ct1)) (by kernel_rfl) ⟨r0, r1, r2, qg⟩ (fun hS => ?_)
        refine region_take 0 (some 56) (v := ?_) rfl rfl (by kernel_rfl) (by kernel_rfl) (by kernel_rfl) (fun _ _ _ h => h) rfl ?_ hS ?_
        rotate_left
        · (intro w9 hS9; obtain ⟨z0, z1, z2, z3⟩ := hS9; go_simp; try (with_reducible rfl))
        simp only [Act.put, List.setIfInBounds_toArray, List.set_cons_zero, List.set_cons_succ]
        refine region_take 1 (some 57) (v := ?_) rfl rfl (by kernel_rfl) (by kernel_rfl) (by kernel_rfl) (fun _ _ _ h => h) rfl ?_ hS ?_
        rotate_left
        · (intro w9 hS9; obtain ⟨z0, z1, z2, z3⟩ := hS9; go_simp; try (with_reducible rfl))
        simp only [Act.put, List.setIfInBounds_toArray, List.set_cons_zero, List.set_cons_succ]
        refine region_take 2 (some 58) (v := ?_) rfl rfl (by kernel_rfl) (by kernel_rfl) (by kernel_rfl) (fun _ _ _ h => h) rfl ?_ hS ?_
        rotate_left
        · (intro w9 hS9; obtain ⟨z0, z1, z2, z3⟩ := hS9; go_simp; try (with_reducible rfl))
        simp only [Act.put, List.setIfInBounds_toArray, List.set_cons_zero, List.set_cons_succ]
        refine region_take 3 (some 59) (v := ?_) rfl rfl (by kernel_rfl) (by kernel_rfl) (by kernel_rfl) (fun _ _ _ h => h) rfl ?_ hS ?_
        rotate_left
        · (intro w9 hS9; obtain ⟨z0, z1, z2, z3⟩ := hS9; go_simp; try (with_reducible rfl))
        simp only [Act.put, List.setIfInBounds_toArray, List.set_cons_zero, List.set_cons_succ]
        refine region_take 4 (some 60) (v := ?_) rfl rfl (by kernel_rfl) (by kernel_rfl) (by kernel_rfl) (fun _ _ _ h => h) rfl ?_ hS ?_
        rotate_left
        · (intro w9 hS9; obtain ⟨z0, z1, z2, z3⟩ := hS9; go_simp; try (with_reducible rfl))
        simp only [Act.put, List.setIfInBounds_toArray, List.set_cons_zero, List.set_cons_succ]
        refine region_take 5 (some 61) (v := ?_) rfl rfl (by kernel_rfl) (by kernel_rfl) (by kernel_rfl) (fun _ _ _ h => h) rfl ?_ hS ?_
        rotate_left
        · (intro w9 hS9; obtain ⟨z0, z1, z2, z3⟩ := hS9; go_simp; try (with_reducible rfl))
        simp only [Act.put, List.setIfInBounds_toArray, List.set_cons_zero, List.set_cons_succ]
        refine region_take 6 (some 62) (v := ?_) rfl rfl (by kernel_rfl) (by kernel_rfl) (by kernel_rfl) (fun _ _ _ h => h) rfl ?_ hS ?_
        rotate_left
        · (intro w9 hS9; obtain ⟨z0, z1, z2, z3⟩ := hS9; go_simp; try (with_reducible rfl))
        simp only [Act.put, List.setIfInBounds_toArray, List.set_cons_zero, List.set_cons_succ]
        refine region_take 7 (some 63) (v := ?_) rfl rfl (by kernel_rfl) (by kernel_rfl) (by kernel_rfl) (fun _ _ _ h => h) rfl ?_ hS ?_
        rotate_left
        · (intro w9 hS9; obtain ⟨z0, z1, z2, z3⟩ := hS9; go_simp; try (with_reducible rfl))
        simp only [Act.put, List.setIfInBounds_toArray, List.set_cons_zero, List.set_cons_succ]
        refine region_take 8 (some 64) (v := ?_) rfl rfl (by kernel_rfl) (by kernel_rfl) (by kernel_rfl) (fun _ _ _ h => h) rfl ?_ hS ?_
        rotate_left
        · (intro w9 hS9; obtain ⟨z0, z1, z2, z3⟩ := hS9; go_simp; try (with_reducible rfl))
        simp only [Act.put, List.setIfInBounds_toArray, List.set_cons_zero, List.set_cons_succ]
        refine region_take 9 (some 65) (v := ?_) rfl rfl (by kernel_rfl) (by kernel_rfl) (by kernel_rfl) (fun _ _ _ h => h) rfl ?_ hS ?_
        rotate_left
        · (intro w9 hS9; obtain ⟨z0, z1, z2, z3⟩ := hS9; go_simp; try (with_reducible rfl))
        simp only [Act.put, List.setIfInBounds_toArray, List.set_cons_zero, List.set_cons_succ]
        refine region_call 10 rfl (by kernel_rfl) (fun K hK => ?_)
        go_simp
        (with_reducible refine (ccH.out _ hbd).mono ?_)
        rintro e w4 ⟨aX, cX, rfl, hIX, hb4⟩
        go_simp
        refine hK.out _ _ ⟨cell_later (bcall hbd hb4) r0, cell_later (bcall hbd hb4) r1, cell_later (bcall hbd hb4) r2, cell_later (bcall hbd hb4) qg⟩ ?_
        clear hK hS K
        intro hS
        refine region_take 11 (some 55) (v := ?_) rfl rfl (by kernel_rfl) (by kernel_rfl) (by kernel_rfl) (fun _ _ _ h => h) rfl ?_ hS ?_
        rotate_left
        · (intro w9 hS9; obtain ⟨z0, z1, z2, z3⟩ := hS9; go_simp; try (with_reducible rfl))
        simp only [Act.put, List.setIfInBounds_toArray, List.set_cons_zero, List.set_cons_succ]
        refine region_take 12 (some 67) (v := ?_) rfl rfl (by kernel_rfl) (by kernel_rfl) (by kernel_rfl) (fun _ _ _ h => h) rfl ?_ hS ?_
        rotate_left
        · (intro w9 hS9; obtain ⟨z0, z1, z2, z3⟩ := hS9; go_simp; try (with_reducible rfl))
        simp only [Act.put, List.setIfInBounds_toArray, List.set_cons_zero, List.set_cons_succ]
        refine region_take 13 (some 68) (v := ?_) rfl rfl (by kernel_rfl) (by kernel_rfl) (by kernel_rfl) (fun _ _ _ h => h) rfl ?_ hS ?_
        rotate_left
        · (intro w9 hS9; obtain ⟨z0, z1, z2, z3⟩ := hS9; go_simp; try (with_reducible rfl))
        simp only [Act.put, List.setIfInBounds_toArray, List.set_cons_zero, List.set_cons_succ]
        refine region_take 14 (some 9) (v := ?_) rfl rfl (by kernel_rfl) (by kernel_rfl) (by kernel_rfl) (fun _ _ _ h => h) rfl ?_ hS ?_
        rotate_left
        · (intro w9 hS9; obtain ⟨z0, z1, z2, z3⟩ := hS9; go_simp; try (with_reducible rfl))
        simp only [Act.put, List.setIfInBounds_toArray, List.set_cons_zero, List.set_cons_succ]
        refine region_take 15 (some 10) (v := ?_) rfl rfl (by kernel_rfl) (by kernel_rfl) (by kernel_rfl) (fun _ _ _ h => h) rfl ?_ hS ?_
        rotate_left
        · (intro w9 hS9; obtain ⟨z0, z1, z2, z3⟩ := hS9; go_simp; try (with_reducible rfl))
        simp only [Act.put, List.setIfInBounds_toArray, List.set_cons_zero, List.set_cons_succ]
        refine wpAnyH_done (by kernel_rfl) ?_ _
        have hb4' := bcall hbd hb4
        obtain ⟨v', w', hrun, ho', hB'⟩ := tcPush hOH.out hBkH.out hb4' hIX htkH.out (by rw [List.length_map, List.length_take]; omega)
        have rrun := hrun.out
        have hrel : tcR g a d W1 v' (.int .i64 ((k : Int) + 1)) w' := ⟨k + 1, by go_num, hlt, ho'.out, hallH.out hokH.out, hB'.out⟩
        have hrelH := Lib.hid hrel
        clear hrel hrun ho' hB' hb4 hb4' hIX
        go_wp2_with (at_builtin; refine wpList_append_run rfl _ _ _ rfl rfl rfl rrun ?_)
        go_roundw
        all_goals first | exact hrelH.out | (simp [intOf]; omega)
    · have hkg : k = g.length := by omega
      rw [hkg, List.take_length] at hO
      rw [hkg, List.take_length] at hall
      obtain ⟨hrc, hR1ok⟩ := runR_car hvH.out hoH.out hall p
      obtain ⟨aH, cH, rfl, hTH⟩ := hO.sl
      have cr1 := fun W' (hb : Below wr.heap.size wr W') => Run_any a1 ag apt c1 cg cp a g p W' (h1H.out.below (bcall hBw hb)) (h4H.out.below (bcall hBw hb)) (h5H.out.below (bcall hBw hb))
      have cr2 := fun W' (hb : Below wr.heap.size wr W') => Run_any a2 aH apt c2 cH cp b (g.map (carT a d)) p W' (h2H.out.below (bcall hBw hb)) (hTH.below hb) (h5H.out.below (bcall hBw hb))
      rw [hrc] at cr2
      simp only [List.length_map] at cr2
      obtain ⟨R, hR⟩ : ∃ R, runR a g p = R := ⟨_, rfl⟩
      rw [hR] at cr2 hR1ok
      simp only [hR] at cr1
      obtain ⟨R1, Ri, Re⟩ := R
      simp only at hR1ok
      have hkn : ((k : Int) < (g.length : Int)) = False := eq_false (by omega)
      have hRi : (Ri != Ri) = false := by simp
      have hRe : (Re != Re) = false := by simp
      have cr1H := Lib.hid cr1
      have cr2H := Lib.hid cr2
      have hokH := Lib.hid hR1ok
      have hBwH := Lib.hid hBw
      have hBkH := Lib.hid hBk
      have hkgH := Lib.hid hkg
      have hltH := Lib.hid hlt
      clear cr1 cr2 hR1ok hR hrc hBw hO hTH hall hkg hlt hk hBk
      go_wp2_with fail
      refine (cr1H.out _ (.refl _ _)).mono ?_
      rintro e w4 ⟨v1, rfl, hO1, hb4⟩
      obtain ⟨aR, cR, rfl, hT1⟩ := OwnL.sl hO1
      have s0 := cell_later hb4 r0
      have s1 := cell_later hb4 r1
      have s2 := cell_later hb4 r2
      have hb4H := Lib.hid hb4
      have hT1H := Lib.hid hT1
      clear hT1 hO1 hb4 r0 r1 r2
      go_wp2_with fail
      refine (cr2H.out _ hb4H.out).mono ?_
      rintro e w5 ⟨v2, rfl, hO2, hb5⟩
      obtain ⟨aS, cS, hv2, hT2⟩ := OwnL.sl hO2
      simp only [List.length_map] at hv2
      subst hv2
      have t0 := cell_later hb5 s0
      have t1 := cell_later hb5 s1
      have t2 := cell_later hb5 s2
      have hT1H := Lib.hid (hT1H.out.below hb5)
      have hT2H := Lib.hid hT2
      have hB5 := Lib.hid (bcall hBwH.out (bcall hb4H.out hb5))
      have mR := hT1H.out.le
      clear hT2 hO2 hb5 s0 s1 s2
      go_wp2_with fail
      have tH := Lib.hid (fun W' (hb : Below w5.heap.size w5 W') => And.intro (cell_later hb t0) (And.intro (cell_later hb t1) (cell_later hb t2)))
      clear t0 t1 t2
      go_loopw [17] (fun iV wr => ∃ j : Nat, iV = .int .i64 j ∧ j ≤ R1.length ∧ Below w5.heap.size w5 wr) (fun iV _ => R1.length - (intOf iV).toNat)
      case atStart => exact ⟨0, rfl, Nat.zero_le _, .refl _ _⟩
      case round =>
        obtain ⟨j, rfl, hj, hBj⟩ := hrel
        have hBw2 := bcall hB5.out hBj
        by_cases hlt2 : j < R1.length
        · obtain ⟨r0, r1, r2⟩ := tH.out _ hBj
          obtain ⟨bA, oA, at1, ct1, rfl, -, qA, hIA⟩ := (hT1H.out.below hBj).sub j hlt2
          obtain ⟨bS, oS, at2, ct2, rfl, -, qS, hIS⟩ := (hT2H.out.below hBj).sub j (by rw [List.length_map]; exact hlt2)
          rw [List.getElem_map] at qS hIS
          have hxo := hokH.out _ (List.getElem_mem hlt2)
          obtain ⟨x, hx⟩ : ∃ x, R1[j] = x := ⟨_, rfl⟩
          rw [hx] at qA hIA qS hIS hxo
          have ma := hIA.le
          have ms := hIS.le
          have cc := fun W' (hb : Below wr.heap.size wr W') => Carried_any a1 a2 a3 at1 c1 c2 c3 ct1 a b d x W' (h1H.out.below (bcall hBw2 hb)) (h2H.out.below (bcall hBw2 hb)) (h3H.out.below (bcall hBw2 hb)) (hIA.below hb) hda.out
          simp only [crd_yes hvH.out hxo] at cc
          have ca := fun (aX : Option Addr) (cX : Nat) W' (hb : Below wr.heap.size wr W') (hX : Ints (fun _ => True) W' aX cX (carT a d x)) => Alike_any a2 aX at2 c2 cX ct2 b (carT a d x) (carK a d x) W' (h2H.out.below (bcall hBw2 hb)) hX (hIS.below hb)
          simp only [alike_car hvH.out hxo] at ca
          obtain ⟨y, hy⟩ : ∃ y, carK a d x = y := ⟨_, rfl⟩
          obtain ⟨z, hz⟩ : ∃ z, carT a d x = z := ⟨_, rfl⟩
          simp only [hy, hz] at ca
          simp only [hz] at cc
          rw [hy] at qS ms
          have hbd : Below wr.heap.size wr wr.drew := (Below.refl _ wr).drew
          have ccH := Lib.hid cc
          have caH := Lib.hid ca
          have hBjH := Lib.hid hBj
          clear cc ca hIA hIS hxo hx hy hz hBw2 hBj
          go_wp2_with fail
          refine wp_region_held_drew (S := fun w' => w'.cell? ⟨w.heap.size, 0, none⟩ = some (.slice a1 a.length c1) ∧ w'.cell? ⟨w.heap.size, 1, none⟩ = some (.slice a2 b.length c2) ∧ w'.cell? ⟨w.heap.size, 2, none⟩ = some (.slice a3 d.length c3) ∧ w'.cell? ⟨bA, oA + j, none⟩ = some (.slice at1 x.length ct1)) (by kernel_rfl) ⟨r0, r1, r2, qA⟩ (fun hS => ?_)
          refine region_take 0 (some 116) (v := ?_) rfl rfl (by kernel_rfl) (by kernel_rfl) (by kernel_rfl) (fun _ _ _ h => h) rfl ?_ hS ?_
          rotate_left
          · (intro w9 hS9; obtain ⟨z0, z1, z2, z3⟩ := hS9; go_simp; try (with_reducible rfl))
          simp only [Act.put, List.setIfInBounds_toArray, List.set_cons_zero, List.set_cons_succ]
          refine region_take 1 (some 117) (v := ?_) rfl rfl (by kernel_rfl) (by kernel_rfl) (by kernel_rfl) (fun _ _ _ h => h) rfl ?_ hS ?_
          rotate_left
          · (intro w9 hS9; obtain ⟨z0, z1, z2, z3⟩ := hS9; go_simp; try (with_reducible rfl))
          simp only [Act.put, List.setIfInBounds_toArray, List.set_cons_zero, List.set_cons_succ]
          refine region_take 2 (some 118) (v := ?_) rfl rfl (by kernel_rfl) (by kernel_rfl) (by kernel_rfl) (fun _ _ _ h => h) rfl ?_ hS ?_
          rotate_left
          · (intro w9 hS9; obtain ⟨z0, z1, z2, z3⟩ := hS9; go_simp; try (with_reducible rfl))
          simp only [Act.put, List.setIfInBounds_toArray, List.set_cons_zero, List.set_cons_succ]
          refine region_take 3 (some 119) (v := ?_) rfl rfl (by kernel_rfl) (by kernel_rfl) (by kernel_rfl) (fun _ _ _ h => h) rfl ?_ hS ?_
          rotate_left
          · (intro w9 hS9; obtain ⟨z0, z1, z2, z3⟩ := hS9; go_simp; try (with_reducible rfl))
          simp only [Act.put, List.setIfInBounds_toArray, List.set_cons_zero, List.set_cons_succ]
          refine region_take 4 (some 120) (v := ?_) rfl rfl (by kernel_rfl) (by kernel_rfl) (by kernel_rfl) (fun _ _ _ h => h) rfl ?_ hS ?_
          rotate_left
          · (intro w9 hS9; obtain ⟨z0, z1, z2, z3⟩ := hS9; go_simp; try (with_reducible rfl))
          simp only [Act.put, List.setIfInBounds_toArray, List.set_cons_zero, List.set_cons_succ]
          refine region_take 5 (some 121) (v := ?_) rfl rfl (by kernel_rfl) (by kernel_rfl) (by kernel_rfl) (fun _ _ _ h => h) rfl ?_ hS ?_
          rotate_left
          · (intro w9 hS9; obtain ⟨z0, z1, z2, z3⟩ := hS9; go_simp; try (with_reducible rfl))
          simp only [Act.put, List.setIfInBounds_toArray, List.set_cons_zero, List.set_cons_succ]
          refine region_take 6 (some 122) (v := ?_) rfl rfl (by kernel_rfl) (by kernel_rfl) (by kernel_rfl) (fun _ _ _ h => h) rfl ?_ hS ?_
          rotate_left
          · (intro w9 hS9; obtain ⟨z0, z1, z2, z3⟩ := hS9; go_simp; try (with_reducible rfl))
          simp only [Act.put, List.setIfInBounds_toArray, List.set_cons_zero, List.set_cons_succ]
          refine region_take 7 (some 123) (v := ?_) rfl rfl (by kernel_rfl) (by kernel_rfl) (by kernel_rfl) (fun _ _ _ h => h) rfl ?_ hS ?_
          rotate_left
          · (intro w9 hS9; obtain ⟨z0, z1, z2, z3⟩ := hS9; go_simp; try (with_reducible rfl))
          simp only [Act.put, List.setIfInBounds_toArray, List.set_cons_zero, List.set_cons_succ]
          refine region_take 8 (some 124) (v := ?_) rfl rfl (by kernel_rfl) (by kernel_rfl) (by kernel_rfl) (fun _ _ _ h => h) rfl ?_ hS ?_
          rotate_left
          · (intro w9 hS9; obtain ⟨z0, z1, z2, z3⟩ := hS9; go_simp; try (with_reducible rfl))
          simp only [Act.put, List.setIfInBounds_toArray, List.set_cons_zero, List.set_cons_succ]
          refine region_take 9 (some 125) (v := ?_) rfl rfl (by kernel_rfl) (by kernel_rfl) (by kernel_rfl) (fun _ _ _ h => h) rfl ?_ hS ?_
          rotate_left
          · (intro w9 hS9; obtain ⟨z0, z1, z2, z3⟩ := hS9; go_simp; try (with_reducible rfl))
          simp only [Act.put, List.setIfInBounds_toArray, List.set_cons_zero, List.set_cons_succ]
          refine region_call 10 rfl (by kernel_rfl) (fun K hK => ?_)
          go_simp
          (with_reducible refine (ccH.out _ hbd).mono ?_)
          rintro e w4 ⟨aX, cX, rfl, hIX, hb4⟩
          go_simp
          refine hK.out _ _ ⟨cell_later (bcall hbd hb4) r0, cell_later (bcall hbd hb4) r1, cell_later (bcall hbd hb4) r2, cell_later (bcall hbd hb4) qA⟩ ?_
          clear hK hS K
          intro hS
          refine region_take 11 (some 115) (v := ?_) rfl rfl (by kernel_rfl) (by kernel_rfl) (by kernel_rfl) (fun _ _ _ h => h) rfl ?_ hS ?_
          rotate_left
          · (intro w9 hS9; obtain ⟨z0, z1, z2, z3⟩ := hS9; go_simp; try (with_reducible rfl))
          simp only [Act.put, List.setIfInBounds_toArray, List.set_cons_zero, List.set_cons_succ]
          refine region_take 12 (some 127) (v := ?_) rfl rfl (by kernel_rfl) (by kernel_rfl) (by kernel_rfl) (fun _ _ _ h => h) rfl ?_ hS ?_
          rotate_left
          · (intro w9 hS9; obtain ⟨z0, z1, z2, z3⟩ := hS9; go_simp; try (with_reducible rfl))
          simp only [Act.put, List.setIfInBounds_toArray, List.set_cons_zero, List.set_cons_succ]
          refine region_take 13 (some 128) (v := ?_) rfl rfl (by kernel_rfl) (by kernel_rfl) (by kernel_rfl) (fun _ _ _ h => h) rfl ?_ hS ?_
          rotate_left
          · (intro w9 hS9; obtain ⟨z0, z1, z2, z3⟩ := hS9; go_simp; try (with_reducible rfl))
          simp only [Act.put, List.setIfInBounds_toArray, List.set_cons_zero, List.set_cons_succ]
          refine region_take 14 (some 18) (v := ?_) rfl rfl (by kernel_rfl) (by kernel_rfl) (by kernel_rfl) (fun _ _ _ h => h) rfl ?_ hS ?_
          rotate_left
          · (intro w9 hS9; obtain ⟨z0, z1, z2, z3⟩ := hS9; go_simp; try (with_reducible rfl))
          simp only [Act.put, List.setIfInBounds_toArray, List.set_cons_zero, List.set_cons_succ]
          refine region_take 15 (some 19) (v := ?_) rfl rfl (by kernel_rfl) (by kernel_rfl) (by kernel_rfl) (fun _ _ _ h => h) rfl ?_ hS ?_
          rotate_left
          · (intro w9 hS9; obtain ⟨z0, z1, z2, z3⟩ := hS9; go_simp; try (with_reducible rfl))
          simp only [Act.put, List.setIfInBounds_toArray, List.set_cons_zero, List.set_cons_succ]
          refine wpAnyH_done (by kernel_rfl) ?_ _
          have hb4w := bcall hbd hb4
          have u0 := cell_later hb4w r0
          have u1 := cell_later hb4w r1
          have u2 := cell_later hb4w r2
          have uS := cell_later hb4w qS
          have hbd2 : Below w4.heap.size w4 w4.drew := (Below.refl _ w4).drew
          have ca4 := caH.out aX cX w4.drew (bcall hb4w hbd2) (hIX.any.below hbd2)
          have ca4H := Lib.hid ca4
          have hb4wH := Lib.hid hb4w
          have mz := hIX.le
          clear ca4 hIX hb4 hb4w
          go_wp2_with fail
          refine wp_region_held_drew (S := fun w' => w'.cell? ⟨w.heap.size, 0, none⟩ = some (.slice a1 a.length c1) ∧ w'.cell? ⟨w.heap.size, 1, none⟩ = some (.slice a2 b.length c2) ∧ w'.cell? ⟨w.heap.size, 2, none⟩ = some (.slice a3 d.length c3) ∧ w'.cell? ⟨bS, oS + j, none⟩ = some (.slice at2 y.length ct2)) (by kernel_rfl) ⟨u0, u1, u2, uS⟩ (fun hS => ?_)
          refine region_take 0 (some 129) (v := ?_) rfl rfl (by kernel_rfl) (by kernel_rfl) (by kernel_rfl) (fun _ _ _ h => h) rfl ?_ hS ?_
          rotate_left
          · (intro w9 hS9; obtain ⟨z0, z1, z2, z3⟩ := hS9; go_simp; try (with_reducible rfl))
          simp only [Act.put, List.setIfInBounds_toArray, List.set_cons_zero, List.set_cons_succ]
          refine region_take 1 (some 130) (v := ?_) rfl rfl (by kernel_rfl) (by kernel_rfl) (by kernel_rfl) (fun _ _ _ h => h) rfl ?_ hS ?_
          rotate_left
          · (intro w9 hS9; obtain ⟨z0, z1, z2, z3⟩ := hS9; go_simp; try (with_reducible rfl))
          simp only [Act.put, List.setIfInBounds_toArray, List.set_cons_zero, List.set_cons_succ]
          refine region_take 2 (some 131) (v := ?_) rfl rfl (by kernel_rfl) (by kernel_rfl) (by kernel_rfl) (fun _ _ _ h => h) rfl ?_ hS ?_
          rotate_left
          · (intro w9 hS9; obtain ⟨z0, z1, z2, z3⟩ := hS9; go_simp; try (with_reducible rfl))
          simp only [Act.put, List.setIfInBounds_toArray, List.set_cons_zero, List.set_cons_succ]
          refine region_take 3 (some 132) (v := ?_) rfl rfl (by kernel_rfl) (by kernel_rfl) (by kernel_rfl) (fun _ _ _ h => h) rfl ?_ hS ?_
          rotate_left
          · (intro w9 hS9; obtain ⟨z0, z1, z2, z3⟩ := hS9; go_simp; try (with_reducible rfl))
          simp only [Act.put, List.setIfInBounds_toArray, List.set_cons_zero, List.set_cons_succ]
          refine region_take 4 (some 133) (v := ?_) rfl rfl (by kernel_rfl) (by kernel_rfl) (by kernel_rfl) (fun _ _ _ h => h) rfl ?_ hS ?_
          rotate_left
          · (intro w9 hS9; obtain ⟨z0, z1, z2, z3⟩ := hS9; go_simp; try (with_reducible rfl))
          simp only [Act.put, List.setIfInBounds_toArray, List.set_cons_zero, List.set_cons_succ]
          refine region_take 5 (some 134) (v := ?_) rfl rfl (by kernel_rfl) (by kernel_rfl) (by kernel_rfl) (fun _ _ _ h => h) rfl ?_ hS ?_
          rotate_left
          · (intro w9 hS9; obtain ⟨z0, z1, z2, z3⟩ := hS9; go_simp; try (with_reducible rfl))
          simp only [Act.put, List.setIfInBounds_toArray, List.set_cons_zero, List.set_cons_succ]
          refine region_take 6 (some 135) (v := ?_) rfl rfl (by kernel_rfl) (by kernel_rfl) (by kernel_rfl) (fun _ _ _ h => h) rfl ?_ hS ?_
          rotate_left
          · (intro w9 hS9; obtain ⟨z0, z1, z2, z3⟩ := hS9; go_simp; try (with_reducible rfl))
          simp only [Act.put, List.setIfInBounds_toArray, List.set_cons_zero, List.set_cons_succ]
          refine region_take 7 (some 136) (v := ?_) rfl rfl (by kernel_rfl) (by kernel_rfl) (by kernel_rfl) (fun _ _ _ h => h) rfl ?_ hS ?_
          rotate_left
          · (intro w9 hS9; obtain ⟨z0, z1, z2, z3⟩ := hS9; go_simp; try (with_reducible rfl))
          simp only [Act.put, List.setIfInBounds_toArray, List.set_cons_zero, List.set_cons_succ]
          refine region_take 8 (some 137) (v := ?_) rfl rfl (by kernel_rfl) (by kernel_rfl) (by kernel_rfl) (fun _ _ _ h => h) rfl ?_ hS ?_
          rotate_left
          · (intro w9 hS9; obtain ⟨z0, z1, z2, z3⟩ := hS9; go_simp; try (with_reducible rfl))
          simp only [Act.put, List.setIfInBounds_toArray, List.set_cons_zero, List.set_cons_succ]
          refine region_take 9 (some 138) (v := ?_) rfl rfl (by kernel_rfl) (by kernel_rfl) (by kernel_rfl) (fun _ _ _ h => h) rfl ?_ hS ?_
          rotate_left
          · (intro w9 hS9; obtain ⟨z0, z1, z2, z3⟩ := hS9; go_simp; try (with_reducible rfl))
          simp only [Act.put, List.setIfInBounds_toArray, List.set_cons_zero, List.set_cons_succ]
          refine region_call 10 rfl (by kernel_rfl) (fun K hK => ?_)
          go_simp
          (with_reducible refine ca4H.out.mono ?_)
          rintro e w6 ⟨rfl, hb6⟩
          go_simp
          refine hK.out _ _ ⟨cell_later (bcall hbd2 hb6) u0, cell_later (bcall hbd2 hb6) u1, cell_later (bcall hbd2 hb6) u2, cell_later (bcall hbd2 hb6) uS⟩ ?_
          clear hK hS K
          intro hS
          refine region_take 11 (some 140) (v := ?_) rfl rfl (by kernel_rfl) (by kernel_rfl) (by kernel_rfl) (fun _ _ _ h => h) rfl ?_ hS ?_
          rotate_left
          · (intro w9 hS9; obtain ⟨z0, z1, z2, z3⟩ := hS9; go_simp; try (with_reducible rfl))
          simp only [Act.put, List.setIfInBounds_toArray, List.set_cons_zero, List.set_cons_succ]
          refine region_take 12 (some 141) (v := ?_) rfl rfl (by kernel_rfl) (by kernel_rfl) (by kernel_rfl) (fun _ _ _ h => h) rfl ?_ hS ?_
          rotate_left
          · (intro w9 hS9; obtain ⟨z0, z1, z2, z3⟩ := hS9; go_simp; try (with_reducible rfl))
          simp only [Act.put, List.setIfInBounds_toArray, List.set_cons_zero, List.set_cons_succ]
          refine wpAnyH_done (by kernel_rfl) ?_ _
          have hBn := Lib.hid (bcall hBjH.out (bcall hb4wH.out (bcall hbd2 hb6)))
          clear hb6
          go_wp2_with fail
          go_roundw
          all_goals first | exact ⟨j + 1, by go_num, hlt2, hBn.out⟩ | (simp [intOf]; omega)
        · have hjn : ((j : Int) < (R1.length : Int)) = False := eq_false (by omega)
          have hBw2H := Lib.hid hBw2
          have hlt2H := Lib.hid hlt2
          clear hBw2 hBj hlt2 hj
          go_wp2_with fail
          refine (aw.out _).mono ?_
          rintro e w6 ⟨rfl, hb6⟩
          go_wp2_with fail
          go_ret
          exact ⟨rfl, bcall hBw2H.out hb6⟩
end Go.Proofs.Ytljkojpooajlhaa

/- The statement TopCarriedProofsSaid: for every input TopCarriedProofs returns true and leaves its arguments as they were. No condition. -/
namespace Go.Proofs.Ytljkojpooajlhaa
open Go Go.RowKit Go.ChangeShapes Go.WideShapes Go.ChangeAt

set_option maxRecDepth 100000 in
theorem topCarriedProofs_lifted (os : Os) (started : os.Started) (H : Type) (enc : TypeId × Value → H) :
    ReturnsInHanded {} Try.checked os 3 .any (Rows.topCarriedProofsSpec.pre6 enc Try.prog Try.f3 Rows.topCarriedProofsRow.domain false) (Rows.topCarriedProofsSpec.post enc Try.prog Try.f3 false true false false) := by
  refine returnsInHanded_of_change (C := Try.checked) Try.own started (by kernel_rfl) Try.func3
    (ChangeSpec.witness6 (enc := enc) (C := Try.checked) false ⟨#[], #[.agg #[.slice none 0 0, .slice none 0 0, .slice none 0 0], .slice none 0 0, .slice none 0 0], []⟩ 8 (by kernel_rfl) (by kernel_rfl) (by kernel_rfl) (by kernel_rfl)) ?_
  intro W base args ds gs before hval0 hW hcnd _
  have hval : ∀ (j : Nat) t v, Try.f3.params[j]? = some t → args[j]? = some v → Value.okWide Try.prog W .any base t v := hval0
  have hW' := hW
  obtain ⟨p, q, hA0, hV, rfl, hfz, hnd⟩ := hW
  have hA : DataW.TrodAll enc Try.prog W 0 (fun _ => true) true Try.f3.params.toList args.toList ds p := hA0
  rw [Try.params3] at hA hval
  obtain ⟨v0, v1, v2, d0, d1, d2, p0, p1, p2, rfl, rfl, rfl, h0, h1, h2⟩ := trodAll_three hA
  obtain ⟨rfl, rfl⟩ := trodVars_none hV
  clear hA0 hval0
  simp only [List.append_nil] at hW'
  have hlt : ∀ x ∈ p0 ++ (p1 ++ p2), x.block < W.heap.size := fun x hx => hW'.lt x (by simpa using hx)
  have keep0 := fun (W' : World) (hn : Below W.heap.size W W') => Below.trod Try.laidOut (by kernel_rfl) (of_decide_eq_true (by kernel_rfl)) h0 hn (fun x hx => hlt x (by simp [hx]))
  have keep1 := fun (W' : World) (hn : Below W.heap.size W W') => Below.trod Try.laidOut (by kernel_rfl) (of_decide_eq_true (by kernel_rfl)) h1 hn (fun x hx => hlt x (by simp [hx]))
  have keep2 := fun (W' : World) (hn : Below W.heap.size W W') => Below.trod Try.laidOut (by kernel_rfl) (of_decide_eq_true (by kernel_rfl)) h2 hn (fun x hx => hlt x (by simp [hx]))
  obtain ⟨⟨t0, t1, t2⟩, vs, rfl, us, ts, rfl, ⟨a00, c00, rfl, r00⟩, us1, ts1, rfl, ⟨a01, c01, rfl, r01⟩, ⟨a02, c02, rfl, r02⟩⟩ := gTrade.argAgg h0 (let ⟨cs, h, _⟩ := okWide_struct Try.underlying26 (hval 0 26 v0 rfl rfl); ⟨cs, h⟩)
  obtain ⟨l1, a1, c1, rfl, r1⟩ := gTerms.arg h1 (okWide_slice Try.underlying27 (hval 1 27 v1 rfl rfl))
  obtain ⟨l2, a2, c2, rfl, r2⟩ := gSteps.arg h2 (okWide_slice Try.underlying28 (hval 2 28 v2 rfl rfl))
  refine (TopCarriedProofs_walk _ _ _ _ _ _ _ _ _ _ _ _ _ _ _ W r00 r01 r02 r1 r2).mono fun e W' ⟨he, hB⟩ => ?_
  subst he
  exact ⟨_, rfl, _, _, _, [], p0 ++ (p1 ++ p2), [], hW', trodAll_mk1 (shut_bool Try.underlying4 true), trodAll_mk3 (keep0 _ hB) (keep1 _ hB) (keep2 _ hB), rfl, hB.frame _, fun h => by cases h⟩

/-- TopCarriedProofs: for every input it returns true, and each argument reads as it did. -/
theorem topCarriedProofs_holds : Rows.TopCarriedProofsSaid :=
  OpenClaim.holds_of_wide 3 Try.f3 rfl rfl rfl rfl rfl rfl rfl ⟨rfl, rfl, rfl, rfl, rfl⟩ rfl rfl rfl rfl rfl (by kernel_rfl) Try.func3 (by kernel_rfl)
    (of_decide_eq_true (by kernel_rfl)) (by unfold Func.isWrapper; rw [if_neg (of_decide_eq_false (by kernel_rfl))]; exact ⟨rfl, rfl⟩)
    (fun os started H enc _ => topCarriedProofs_lifted os started H enc)
end Go.Proofs.Ytljkojpooajlhaa
