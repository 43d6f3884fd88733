/- What is carried keeps its depth and its variables, and names of variables do not matter. No program is named. -/
import Derived.Test.YtljkojpooajlhaaMathComp
import Derived.Test.YtljkojpooajlhaaMath2
namespace Go.Proofs.Ytljkojpooajlhaa

theorem depArgs_append {s : Sg} {g : List Int → Nat} (hg : ∀ u x, skip s 1 u = some [] → g (u ++ x) = g u) : ∀ (k : Nat) (r x : List Int), skip s k r = some [] → depArgs g s k (r ++ x) = depArgs g s k r
  | 0, _, _, _ => rfl
  | k + 1, r, x, h => by
    obtain ⟨m, h1, h2⟩ := skip_one h
    obtain ⟨u, rfl, hu, -⟩ := skip_split s 1 r m h1
    rw [depArgs, depArgs, List.append_assoc, hg u (m ++ x) hu, hg u m hu, skip_append s 1 u (m ++ x) [] hu, skip_append s 1 u m [] hu]
    simp only [List.nil_append, Option.getD_some]
    rw [depArgs_append hg k m x h2]
theorem dep_append (s : Sg) : ∀ (f : Nat) (u x : List Int), skip s 1 u = some [] → dep s f (u ++ x) = dep s f u
  | 0, _, _, _ => rfl
  | f + 1, [], x, h => by simp [skip_nil] at h
  | f + 1, n :: r, x, h => by
    rw [skip_cons] at h
    split at h
    · rw [Nat.zero_add] at h
      rw [List.cons_append, dep, dep, depArgs_append (dep_append s f) _ r x h]
    · cases h
def dmax (L : List Nat) : Nat := L.foldr max 0
theorem dmax_perm {L M : List Nat} (h : L.Perm M) : dmax L = dmax M := by
  induction h with
  | nil => rfl
  | cons x _ ih => simp only [dmax, List.foldr_cons] at *; rw [ih]
  | swap x y l => simp only [dmax, List.foldr_cons]; omega
  | trans _ _ i1 i2 => rw [i1, i2]
theorem depArgs_flat {s : Sg} {g : List Int → Nat} (hg : ∀ u x, skip s 1 u = some [] → g (u ++ x) = g u) : ∀ (L : List (List Int)), (∀ u ∈ L, skip s 1 u = some []) → depArgs g s L.length L.flatten = dmax (L.map g)
  | [], _ => rfl
  | u :: L, h => by
    have hu := h u (by simp)
    rw [List.length_cons, List.flatten_cons, depArgs, hg u _ hu, skip_append s 1 u _ [] hu]
    simp only [List.nil_append, Option.getD_some, List.map_cons, dmax, List.foldr_cons]
    rw [depArgs_flat hg L (fun v hv => h v (by simp [hv]))]
    rfl
theorem depth_node {s : Sg} {t : List Int} (h : okT s t = true) : depth s t = dmax ((argsT s t).map (depth s)) + 1 := by
  obtain ⟨g1, g2, g3⟩ := argsT_spec h
  obtain ⟨n, hn⟩ : ∃ n, t.headD 0 = n := ⟨_, rfl⟩
  rw [hn] at g1 g2
  obtain ⟨A, hA⟩ : ∃ A, argsT s t = A := ⟨_, rfl⟩
  rw [hA] at g1 g2 g3 ⊢
  rw [g2, depth, List.length_cons, dep, ← g1, depArgs_flat (dep_append s _) A (fun u hu => (okT_parts (g3 u hu)).2.2.2)]
  congr 2
  apply List.map_congr_left
  intro u hu
  exact dep_fuel s _ _ u (len_flatten hu) (Nat.le_refl _)
/-- a symbol carried: its arguments are those of the term, carried, in another order -/
theorem car_node {a b : Sg} {d : Ways} (hd : validD a b d = true) {t : List Int} (h : okT a t = true) (hn : 0 ≤ t.headD 0) :
    ∃ T L, carT a d t = T :: L.flatten ∧ L.Perm ((argsT a t).map (carT a d)) ∧ 0 ≤ T ∧ argsT b (carT a d t) = L := by
  obtain ⟨n, x, ht, hc, hs⟩ := okT_head h
  obtain ⟨g1, g2, g3⟩ := argsT_spec h
  obtain ⟨hA, hB, -⟩ := validD_parts hd
  have hh : t.headD 0 = n := by rw [ht]; rfl
  rw [hh] at hn g1
  have hnl : n < a.length := by simp [codeOk] at hc; omega
  obtain ⟨w1, w2, w3, w4, w5⟩ := validD_way hd (n := n) (by omega) hnl
  rw [carT_node h (by rw [hh]; omega), hh]
  have hlenA : (argsT a t).length = (d.getD n.toNat (0, [])).2.length := by
    have := (ar_at hA (n := n) (by omega) hnl).1
    omega
  have hok : ∀ u ∈ argsT a t, okT b (carT a d u) = true := fun u hu => (carT_ok hd u.length (g3 u hu) (Nat.le_refl _)).1
  obtain ⟨A, hAe⟩ : ∃ A, argsT a t = A := ⟨_, rfl⟩
  rw [hAe] at hlenA g1 hok ⊢
  unfold carA
  obtain ⟨w, hw⟩ : ∃ w, d.getD n.toNat (0, []) = w := ⟨_, rfl⟩
  rw [hw] at w1 w2 w3 w4 w5 hlenA ⊢
  have hperm : (w.2.map (fun k => (A.map (carT a d)).getD k.toNat [])).Perm (A.map (carT a d)) := by
    have := w5.map (fun k => (A.map (carT a d)).getD k.toNat [])
    rw [← hlenA, ← List.length_map (f := carT a d) (as := A), ascL_map] at this
    exact this
  refine ⟨w.1, _, rfl, hperm, w1, argsT_build hB w1 w2 (fun u hu => ?_) ?_⟩
  · obtain ⟨y, hy, rfl⟩ := List.mem_map.1 (hperm.mem_iff.1 hu)
    exact (okT_parts (hok y hy)).2.2.2
  · rw [List.length_map]; omega
theorem len_arg {s : Sg} {t u : List Int} (h : okT s t = true) (hu : u ∈ argsT s t) : u.length < t.length := by
  obtain ⟨g1, g2, g3⟩ := argsT_spec h
  have := congrArg List.length g2
  have := len_flatten hu
  rw [List.length_cons] at *
  omega
theorem okT_var {s : Sg} {t : List Int} (h : okT s t = true) (hn : t.headD 0 < 0) : t = [t.headD 0] := by
  obtain ⟨g1, g2, g3⟩ := argsT_spec h
  have h0 : ar s (t.headD 0) = 0 := ar_neg hn
  rw [h0] at g1
  rw [List.length_eq_zero_iff.1 g1] at g2
  simpa using g2
theorem car_mem {a b : Sg} {d : Ways} (hd : validD a b d = true) : ∀ (f : Nat) {t : List Int}, okT a t = true → t.length ≤ f → ∀ x, x < 0 → (x ∈ carT a d t ↔ x ∈ t)
  | 0, t, h, hf, _, _ => by have := (okT_parts h).2.1; omega
  | f + 1, t, h, hf, x, hx => by
    by_cases hn : t.headD 0 < 0
    · rw [okT_var h hn, carT_neg hn]
    · obtain ⟨T, L, e1, e2, e3, -⟩ := car_node hd h (by omega)
      obtain ⟨-, g2, g3⟩ := argsT_spec h
      rw [e1, List.mem_cons, List.mem_flatten]
      have hT : ¬ x = T := by omega
      constructor
      · rintro (hh | ⟨u, hu, hxu⟩)
        · exact (hT hh).elim
        · obtain ⟨y, hy, rfl⟩ := List.mem_map.1 (e2.mem_iff.1 hu)
          have := (car_mem hd f (g3 y hy) (by have := len_arg h hy; omega) x hx).1 hxu
          rw [g2]
          exact List.mem_cons_of_mem _ (List.mem_flatten.2 ⟨y, hy, this⟩)
      · intro hm
        rw [g2, List.mem_cons, List.mem_flatten] at hm
        rcases hm with hh | ⟨y, hy, hxy⟩
        · omega
        · refine .inr ⟨carT a d y, e2.mem_iff.2 (List.mem_map.2 ⟨y, hy, rfl⟩), (car_mem hd f (g3 y hy) (by have := len_arg h hy; omega) x hx).2 hxy⟩
theorem car_vars {a b : Sg} {d : Ways} (hd : validD a b d = true) {t : List Int} (h : okT a t = true) : (varsC (carT a d t)).length = (varsC t).length := by
  have hp : (varsC (carT a d t)).Perm (varsC t) := by
    rw [List.perm_ext_iff_of_nodup (varsC_nodup _) (varsC_nodup _)]
    intro x
    rw [mem_varsC, mem_varsC]
    constructor
    · exact fun e => ⟨(car_mem hd t.length h (Nat.le_refl _) x e.2).1 e.1, e.2⟩
    · exact fun e => ⟨(car_mem hd t.length h (Nat.le_refl _) x e.2).2 e.1, e.2⟩
  exact hp.length_eq
theorem car_depth {a b : Sg} {d : Ways} (hd : validD a b d = true) : ∀ (f : Nat) {t : List Int}, okT a t = true → t.length ≤ f → depth b (carT a d t) = depth a t
  | 0, t, h, hf => by have := (okT_parts h).2.1; omega
  | f + 1, t, h, hf => by
    by_cases hn : t.headD 0 < 0
    · rw [okT_var h hn, carT_neg hn]
      simp only [depth, List.length_cons, List.length_nil, dep, ar_neg hn, depArgs]
    · obtain ⟨T, L, e1, e2, e3, e4⟩ := car_node hd h (by omega)
      have hb := (carT_ok hd t.length h (Nat.le_refl _)).1
      obtain ⟨-, -, g3⟩ := argsT_spec h
      rw [depth_node hb, depth_node h, e4, dmax_perm (e2.map (depth b)), List.map_map]
      congr 2
      apply List.map_congr_left
      intro u hu
      exact car_depth hd f (g3 u hu) (by have := len_arg h hu; omega)
section
variable {f : Int → Int} (hpos : ∀ x, 0 ≤ x → f x = x) (hneg : ∀ x, x < 0 → f x < 0)
include hpos hneg
theorem argsT_map {s : Sg} {t : List Int} (h : okT s t = true) (h' : okT s (t.map f) = true) (hn : 0 ≤ t.headD 0) : argsT s (t.map f) = (argsT s t).map (List.map f) := by
  obtain ⟨n, x, ht, hc, -⟩ := okT_head h
  obtain ⟨g1, g2, g3⟩ := argsT_spec h
  have hcs := skip_codes s 1 t (okT_parts h).2.2.2
  have hcf := skip_codes s 1 _ (okT_parts h').2.2.2
  have hs := (okT_parts h).1
  have hh : t.headD 0 = n := by rw [ht]; rfl
  rw [hh] at hn g1
  have hnl : n < s.length := by simp [codeOk] at hc; omega
  have hA : ∀ u ∈ argsT s t, skip s 1 (u.map f) = some [] := fun u hu => by
    rw [skip_map s f u (fun y hy => ?_), (okT_parts (g3 u hu)).2.2.2]
    · rfl
    · have hyt : y ∈ t := by rw [g2]; exact List.mem_cons_of_mem _ (List.mem_flatten.2 ⟨u, hu, hy⟩)
      rw [hcs y hyt, hcf (f y) (List.mem_map.2 ⟨y, hyt, rfl⟩)]
      refine ⟨rfl, ?_⟩
      by_cases h0 : 0 ≤ y
      · rw [hpos y h0]
      · rw [ar_neg (hneg y (by omega)), ar_neg (by omega)]
  have e : t.map f = n :: ((argsT s t).map (List.map f)).flatten := by
    conv => lhs; rw [g2]
    rw [hh, List.map_cons, hpos n hn, List.map_flatten]
  rw [e]
  refine argsT_build hs hn hnl (fun v hv => ?_) ?_
  · obtain ⟨u, hu, rfl⟩ := List.mem_map.1 hv
    exact hA u hu
  · rw [List.length_map, g1, (ar_at hs hn hnl).1]
theorem car_map {a b : Sg} {d : Ways} (hd : validD a b d = true) : ∀ (F : Nat) {t : List Int}, okT a t = true → okT a (t.map f) = true → t.length ≤ F → carT a d (t.map f) = (carT a d t).map f
  | 0, t, h, _, hf => by have := (okT_parts h).2.1; omega
  | F + 1, t, h, h', hf => by
    by_cases hn : t.headD 0 < 0
    · rw [okT_var h hn, List.map_singleton, carT_neg (hneg _ hn), carT_neg hn, List.map_singleton]
    · obtain ⟨n, x, ht, hc, -⟩ := okT_head h
      obtain ⟨g1, g2, g3⟩ := argsT_spec h
      have hh : t.headD 0 = n := by rw [ht]; rfl
      have hh' : (t.map f).headD 0 = n := by rw [ht, List.map_cons, List.headD_cons, hpos n (by omega)]
      obtain ⟨g1', g2', g3'⟩ := argsT_spec h'
      have hm := argsT_map hpos hneg h h' (by omega)
      have hnl : n < a.length := by simp [codeOk] at hc; omega
      obtain ⟨w1, w2, w3, w4, w5⟩ := validD_way hd (n := n) (by omega) hnl
      rw [carT_node h (by omega), carT_node h' (by omega), hh, hh', hm]
      have hm2 : ((argsT a t).map (List.map f)).map (carT a d) = ((argsT a t).map (carT a d)).map (List.map f) := by
        rw [List.map_map, List.map_map]
        apply List.map_congr_left
        intro u hu
        exact car_map hd F (g3 u hu) (g3' _ (by rw [hm]; exact List.mem_map.2 ⟨u, hu, rfl⟩)) (by have := len_arg h hu; omega)
      rw [hm2]
      unfold carA
      rw [List.map_cons, hpos _ w1, List.map_flatten]
      congr 2
      conv => rhs; rw [List.map_map]
      apply List.map_congr_left
      intro k hk
      simp only [Function.comp]
      rw [List.getD_eq_getElem?_getD, List.getD_eq_getElem?_getD, List.getElem?_map]
      cases ((argsT a t).map (carT a d))[k.toNat]? <;> rfl
end
/-- names of variables do not matter -/
theorem car_canon {a b : Sg} {d : Ways} (hd : validD a b d = true) {t : List Int} (h : okT a t = true) : canon (carT a d (canon t)) = canon (carT a d t) := by
  have hc := okT_canon h
  unfold canon at hc
  have e : carT a d (canon t) = (carT a d t).map (canonW (varsC t)) := by
    unfold canon
    exact car_map (fun x hx => canonW_pos hx) (fun x hx => canonW_lt hx) hd t.length h hc (Nat.le_refl _)
  rw [e]
  have hv : ∀ x ∈ carT a d t, x < 0 → x ∈ varsC t := fun x hx h0 => mem_varsC.2 ⟨(car_mem hd t.length h (Nat.le_refl _) x h0).1 hx, h0⟩
  exact canon_map _ _ (fun x _ hx => canonW_pos hx) (fun x _ hx => canonW_lt hx) (fun x hx y hy h1 h2 he => canonW_inj (.inl (hv x hx h1)) (.inl (hv y hy h2)) varsC_neg he)
end Go.Proofs.Ytljkojpooajlhaa
