/- Two terms that can be made equal have a most general unifier; what it makes of terms is valid; names of variables do not matter. No program is named. -/
import Derived.Test.YtgkddhakhapjlaaUTop
import Derived.Test.YtgkddhakhapjlaaUSt
import Derived.Test.YtgkddhakhapjlaaUAfter
namespace Go.Proofs.Ytgkddhakhapjlaa

theorem arW_le3 {s : Sg} (hok : okSign s = true) {n : Int} (h : n < s.length) : arW s n ≤ 3 := by
  by_cases h0 : n < 0
  · rw [arW_neg h0]; omega
  · obtain ⟨m, rfl⟩ := Int.eq_ofNat_of_zero_le (show 0 ≤ n by omega)
    have hm : m < s.length := by omega
    have h1 := okSign_ars hok m hm
    have h2 := arW_sym hm h1.1
    omega
theorem argsW_le3 {s : Sg} (hok : okSign s = true) {P : List Int} (h : W1 s P) : (argsW s P).length ≤ 3 := by
  cases P with
  | nil => exact (h.ne rfl).elim
  | cons n r => rw [h.args.1]; exact arW_le3 hok h.args.2.2.2
theorem last_snoc' {α : Type} (L : List α) : L = [] ∨ ∃ L0 e, L = L0 ++ [e] := by
  rcases List.eq_nil_or_concat L with rfl | ⟨L0, e, rfl⟩
  · exact .inl rfl
  · exact .inr ⟨L0, e, by rw [List.concat_eq_append]⟩
theorem mgu_run {s : Sg} (hok : okSign s = true) {a b : List Int} : ∀ (k : Nat) (B : Bd) (θ : Int → List Int) (ρ : Int → Nat) (L : Prs), St s a b k B θ ρ L → (∃ θ', IsMgu s a b θ') ∨ ∀ η, Wsub s η → ap η a ≠ ap η b := by
  intro k
  induction k with
  | zero =>
    intro B θ ρ L h
    have hL : L = [] := h.halts
    subst hL
    exact .inl ⟨θ, B, ρ, h.slv, h.eq.done⟩
  | succ k ih =>
    intro B θ ρ L h
    rcases last_snoc' L with rfl | ⟨L0, ⟨x, y⟩, rfl⟩
    · exact .inl ⟨θ, B, ρ, h.slv, h.eq.done⟩
    · have hrk : ∀ t : List Int, ∀ n r, t = n :: r → n < 0 → ρ n < ρ (t.headD 0) + 1 := fun t n r e _ => by rw [e]; simp
      obtain ⟨p, hp⟩ := Lkd.ex h.slv _ x (hrk x)
      obtain ⟨q, hq⟩ := Lkd.ex h.slv _ y (hrk y)
      have hN := h.nxt hp hq
      generalize (turned p q).1 = P at hN
      generalize (turned p q).2 = Q at hN
      by_cases h0 : P.headD 0 < 0
      · by_cases he : Q.headD 0 = P.headD 0
        · exact ih _ _ _ _ (hN.same h0 he)
        · by_cases ho : P.headD 0 ∈ ap θ Q
          · exact .inr (hN.occ h0 he ho)
          · obtain ⟨θ', ρ', h'⟩ := hN.bind h0 he ho
            exact ih _ _ _ _ h'
      · by_cases he : Q.headD 0 = P.headD 0
        · exact ih _ _ _ _ (hN.args (by omega) he (argsW_le3 hok hN.sP.w))
        · exact .inr (hN.clash (by omega) (fun e => he e.symm))
theorem mgu_ex {s : Sg} (hok : okSign s = true) {a b : List Int} (ha : W1 s a) (hb : W1 s b) (ra : Rg a) (rb : Rg b) {η : Int → List Int} (hw : Wsub s η) (he : ap η a = ap η b) : ∃ θ, IsMgu s a b θ := by
  obtain ⟨k, hk⟩ := St.start ha hb ra rb
  rcases mgu_run hok k _ _ _ _ hk with h | h
  · exact h
  · exact (h η hw he).elim
theorem uniB_iff {s : Sg} (hok : okSign s = true) {a b : List Int} (ha : W1 s a) (hb : W1 s b) (ra : Rg a) (rb : Rg b) : uniB s a b = true ↔ ∃ η, Wsub s η ∧ ap η a = ap η b := by
  constructor
  · intro h
    cases hm : mgu s a b with
    | none => unfold uniB at h; rw [hm] at h; cases h
    | some θ => exact ⟨θ, (mgu_some hm).th, (mgu_some hm).eq⟩
  · rintro ⟨η, hw, he⟩
    obtain ⟨θ, hθ⟩ := mgu_ex hok ha hb ra rb hw he
    exact uniB_some hθ
/-- the two ways of a unification -/
theorem uni_cases {s : Sg} (hok : okSign s = true) {a b : List Int} (ha : W1 s a) (hb : W1 s b) (ra : Rg a) (rb : Rg b) :
    (∃ θ, IsMgu s a b θ) ∨ ((∀ η, Wsub s η → ap η a ≠ ap η b) ∧ uniB s a b = false ∧ ∀ t, uniE s a b t = ([], 8)) := by
  by_cases h : ∃ η, Wsub s η ∧ ap η a = ap η b
  · obtain ⟨η, hw, he⟩ := h
    exact .inl (mgu_ex hok ha hb ra rb hw he)
  · have h' : ∀ η, Wsub s η → ap η a ≠ ap η b := fun η hw he => h ⟨η, hw, he⟩
    exact .inr ⟨h', uniB_none h', uniE_none h'⟩
/-- renamed: a, b, t by one substitution that another one takes back -/
theorem uniE_turn {s : Sg} (hok : okSign s = true) {a b t a' b' t' : List Int} {σ τ : Int → List Int} (hσ : Wsub s σ) (hτ : Wsub s τ) (ha : W1 s a) (hb : W1 s b) (ra : Rg a) (rb : Rg b) (ha' : W1 s a') (hb' : W1 s b') (ra' : Rg a') (rb' : Rg b')
    (e1 : ap σ a = a') (e2 : ap σ b = b') (e3 : ap σ t = t') (f1 : ap τ a' = a) (f2 : ap τ b' = b) (f3 : ap τ t' = t) : uniE s a b t = uniE s a' b' t' ∧ uniB s a b = uniB s a' b' := by
  have cmp : ∀ {η ξ : Int → List Int}, Wsub s η → Wsub s ξ → Wsub s (fun n => ap ξ (η n)) := fun h1 h2 n hn => (h1 n hn).ap h2
  rcases uni_cases hok ha hb ra rb with ⟨θ, hθ⟩ | ⟨h1, h2, h3⟩
  · have w1 := cmp hτ hθ.th
    have q1 : ap (fun n => ap θ (τ n)) a' = ap (fun n => ap θ (τ n)) b' := by rw [← ap_ap, ← ap_ap, f1, f2]; exact hθ.eq
    obtain ⟨θ', hθ'⟩ := mgu_ex hok ha' hb' ra' rb' w1 q1
    have w2 := cmp hσ hθ'.th
    have q2 : ap (fun n => ap θ' (σ n)) a = ap (fun n => ap θ' (σ n)) b := by rw [← ap_ap, ← ap_ap, e1, e2]; exact hθ'.eq
    rw [uniE_some hθ, uniE_some hθ', uniB_some hθ, uniB_some hθ']
    have g1 := hθ.most w2 q2 t
    have k1 : ap (fun n => ap θ' (σ n)) (ap θ t) = ap θ' t' := by rw [g1, ← ap_ap, e3]
    have k2 : ap (fun n => ap θ (τ n)) (ap θ' t') = ap θ t := by
      have := hθ'.most w1 q1 t'
      rw [this, ← ap_ap, f3]
    obtain ⟨c1, c2, c3⟩ := canon_two w1 w2 k1 k2
    exact ⟨by unfold madeE; rw [c1, c2, c3], rfl⟩
  · have h' : ∀ η, Wsub s η → ap η a' ≠ ap η b' := fun η hw he => h1 _ (cmp hσ hw) (by rw [← ap_ap, ← ap_ap, e1, e2]; exact he)
    rw [h2, h3 t, uniB_none h', uniE_none h' t']
    exact ⟨rfl, rfl⟩

theorem skip_of_skw {s : Sg} : ∀ {k : Nat} {l r : List Int}, (∀ n ∈ l, n < 0 → -12 ≤ n) → skw s k l = some r → skip s k l = some r
  | 0, l, r, _, h => by rw [skw_zero] at h; rw [skip_zero]; exact h
  | k + 1, [], r, _, h => by simp [skw_nil] at h
  | k + 1, n :: l, r, hr, h => by
    rw [skw_cons] at h
    split at h
    · rename_i hc
      have hn := hr n (by simp)
      have hco : codeOk s n = true := by
        unfold cw at hc
        simp only [decide_eq_true_eq] at hc
        unfold codeOk
        simp only [Bool.or_eq_true, decide_eq_true_eq]
        omega
      rw [skip_cons, if_pos hco, (codeOk_w hco).2]
      exact skip_of_skw (fun m hm => hr m (by simp [hm])) h
    · cases h
theorem okT_of_w1 {s : Sg} {t : List Int} (hok : okSign s = true) (h : W1 s t) (hl : t.length ≤ 60) (hr : ∀ n ∈ t, n < 0 → -12 ≤ n) : okT s t = true := okT_of_skip hok (skip_of_skw hr h) hl
theorem canon_ap (t : List Int) : canon t = ap (fun n => [canonW (varsC t) n]) t := by
  unfold canon
  generalize varsC t = v
  induction t with
  | nil => rfl
  | cons n r ih =>
    rw [List.map_cons, ih]
    by_cases h : n < 0
    · rw [ap_neg h]; rfl
    · rw [ap_pos h, canonW_pos (by omega)]
theorem canon_w {s : Sg} {t : List Int} (h : W1 s t) : W1 s (canon t) := by
  rw [canon_ap]
  exact h.ap (fun n hn => W1.var (canonW_lt hn))
theorem canon_len (t : List Int) : (canon t).length = t.length := by unfold canon; rw [List.length_map]
/-- the canonical form is undone by putting the names back -/
theorem canon_back {s : Sg} (t : List Int) : ∃ τ, Wsub s τ ∧ ap τ (canon t) = t := by
  refine ⟨fun n => [if n < 0 then (varsC t).getD (-n - 1).toNat (-1) else n], fun n hn => ?_, ?_⟩
  · refine W1.var ?_
    rw [if_pos hn, List.getD_eq_getElem?_getD]
    cases h : (varsC t)[(-n - 1).toNat]? with
    | none => simp
    | some x => exact varsC_neg x (List.mem_of_getElem? h)
  · rw [canon_ap, ap_ap]
    refine ap_id (fun n hn h0 => ?_)
    have hm : n ∈ varsC t := mem_varsC.2 ⟨hn, h0⟩
    have hc := canonW_neg (v := varsC t) h0
    have hlt := canonW_lt (v := varsC t) h0
    rw [ap_one hlt, if_pos hlt]
    have hi := List.idxOf_lt_length_of_mem hm
    have : (-(canonW (varsC t) n) - 1).toNat = (varsC t).idxOf n := by rw [hc]; omega
    rw [this, List.getD_eq_getElem?_getD, List.getElem?_eq_getElem hi]
    simp
theorem canon_rg {t : List Int} (h : (varsC t).length ≤ 12) : ∀ n ∈ canon t, n < 0 → -12 ≤ n := by
  intro n hn h0
  unfold canon at hn
  obtain ⟨m, hm, rfl⟩ := List.mem_map.1 hn
  by_cases hm0 : m < 0
  · have hi := List.idxOf_lt_length_of_mem (mem_varsC.2 ⟨hm, hm0⟩)
    rw [canonW_neg hm0]; omega
  · rw [canonW_pos (by omega)] at h0; omega
theorem madeE_ok {s : Sg} {θ : Int → List Int} {t : List Int} (hok : okSign s = true) (hθ : Wsub s θ) (ht : W1 s t) (h : (madeE θ t).2 = 0) :
    okT s (madeE θ t).1 = true ∧ (madeE θ t).1 = canon (ap θ t) := by
  unfold madeE at h ⊢
  split
  · rename_i hc
    exact ⟨okT_of_w1 hok (canon_w (ht.ap hθ)) (by rw [canon_len]; exact hc.1) (canon_rg hc.2), rfl⟩
  · rename_i hc; rw [if_neg hc] at h; cases h
/-- what an instance of a renamed term makes of a -/
theorem meet_inst {s : Sg} {a j : List Int} (ha : okT s a = true) (hj : okT s j = true) {η : Int → List Int} (hw : Wsub s η) (he : ap η j = a) : meetE s a j = (canon a, 0) := by
  have hok := (okT_parts ha).1
  unfold meetE
  rw [if_pos ⟨ha, hj⟩]
  have hθ0 : Wsub s (fun n => if n < -12 then η (n + 12) else [n]) := fun n hn => by
    show W1 s (if n < -12 then η (n + 12) else [n])
    split
    · exact hw _ (by omega)
    · exact W1.var hn
  have e1 : ap (fun n => if n < -12 then η (n + 12) else [n]) a = a := ap_id (fun n hn h0 => if_neg (by have := okT_rg ha n hn h0; omega))
  have e2 : ap (fun n => if n < -12 then η (n + 12) else [n]) (apartT j) = a := by
    rw [ap_apart, ← he]
    refine ap_congr (fun n _ h0 => ?_)
    rw [if_pos (by omega)]; congr 1; omega
  obtain ⟨θ, hθ⟩ := mgu_ex hok (okT_w1 ha) (apartT_w (okT_w1 hj)) (okT_Rg ha) (apartT_rg hj) hθ0 (e1.trans e2.symm)
  have k := hθ.most hθ0 (e1.trans e2.symm) a
  rw [e1] at k
  obtain ⟨c1, c2, c3⟩ := canon_two hθ0 hθ.th (u1 := a) (u2 := ap θ a) rfl k
  rw [uniE_some hθ]
  unfold madeE
  rw [← c1, ← c2, ← c3, if_pos ⟨(okT_parts ha).2.2.1, varsC_le12 (skip_codes s 1 a (okT_parts ha).2.2.2)⟩]
end Go.Proofs.Ytgkddhakhapjlaa
