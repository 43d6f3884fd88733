/- That unification step by step comes to an end. No program is named. -/
import Derived.Test.YtpmnnoopoblpgaaGreatUni
namespace Go.Proofs.YtpmnnoopoblpgaaGreat

/-- a term looked up: the last of the chain of bound variables -/
inductive Lkd (B : Bd) : List Int → List Int → Prop
  | stop {t : List Int} (h : ∀ n r, t = n :: r → n < 0 → B n = none) : Lkd B t t
  | go {n : Int} {r u p : List Int} (hn : n < 0) (hB : B n = some u) (h : Lkd B u p) : Lkd B (n :: r) p
theorem Lkd.det {B : Bd} {a p p' : List Int} (h : Lkd B a p) (h' : Lkd B a p') : p = p' := by
  induction h with
  | stop h =>
    cases h' with
    | stop _ => rfl
    | go hn hB _ => rw [h _ _ rfl hn] at hB; cases hB
  | go hn hB _ ih =>
    cases h' with
    | stop h => rw [h _ _ rfl hn] at hB; cases hB
    | go _ hB' h2 => rw [hB] at hB'; cases hB'; exact ih h2
/-- no variable beyond the 24th -/
def Rg (t : List Int) : Prop := ∀ n ∈ t, n < 0 → -24 ≤ n
def RgB (B : Bd) : Prop := ∀ n u, B n = some u → Rg u ∧ -24 ≤ n
section
variable {s : Sg} {B : Bd} {θ : Int → List Int} {ρ : Int → Nat}
theorem Lkd.spec (h : Slv s B θ ρ) {a p : List Int} (hl : Lkd B a p) (ha : W1 s a) : W1 s p ∧ ap θ p = ap θ a ∧ (∀ n r, p = n :: r → n < 0 → B n = none) := by
  induction hl with
  | stop hs => exact ⟨ha, rfl, hs⟩
  | go hn hB _ ih =>
    obtain ⟨h1, h2, h3⟩ := ih (h.wf _ _ hB).1
    have := ha.leaf hn
    subst this
    exact ⟨h1, by rw [h2, ap_one hn, h.bnd _ _ hB], h3⟩
theorem Lkd.eta {η : Int → List Int} (hη : Sat B η) {a p : List Int} (hl : Lkd B a p) (ha : W1 s a) (hw : ∀ n u, B n = some u → W1 s u) : ap η p = ap η a := by
  induction hl with
  | stop hs => rfl
  | go hn hB _ ih =>
    have := ha.leaf hn
    subst this
    rw [ih (hw _ _ hB), ap_one hn, hη _ _ hB]
theorem Lkd.rg (hr : RgB B) {a p : List Int} (hl : Lkd B a p) (ha : Rg a) : Rg p := by
  induction hl with
  | stop hs => exact ha
  | go hn hB _ ih => exact ih (hr _ _ hB).1
theorem Lkd.ex (h : Slv s B θ ρ) : ∀ (k : Nat) (a : List Int), (∀ n r, a = n :: r → n < 0 → ρ n < k) → ∃ p, Lkd B a p
  | k, [], _ => ⟨[], .stop (fun n r e => by cases e)⟩
  | k, n :: r, hk => by
    by_cases hn : n < 0
    · cases hB : B n with
      | none => exact ⟨n :: r, .stop (fun m r' e h0 => by cases e; exact hB)⟩
      | some u =>
        cases k with
        | zero => have := hk n r rfl hn; omega
        | succ k =>
          obtain ⟨p, hp⟩ := Lkd.ex h k u (fun m r' e hm => by
            have h1 := h.rk n u hB m (by rw [e]; simp) hm
            have h2 := hk n r rfl hn
            omega)
          exact ⟨p, .go hn hB hp⟩
    · exact ⟨n :: r, .stop (fun m r' e h0 => by cases e; exact (hn h0).elim)⟩
end
/-- how many of the 24 variables are not bound -/
def free (B : Bd) : Nat := ((List.range 24).filter (fun (i : Nat) => (B (-(i : Int) - 1)).isNone)).length
theorem free_bind {B : Bd} {v : Int} {q : List Int} (hv : v < 0) (h24 : -24 ≤ v) (hB : B v = none) : free (upB B v q) < free B := by
  unfold free
  have hi : (-v - 1).toNat ∈ List.range 24 := by rw [List.mem_range]; omega
  have hiv : -(((-v - 1).toNat : Nat) : Int) - 1 = v := by omega
  have : ∀ (l : List Nat), (∀ i ∈ l, ((upB B v q) (-(i : Int) - 1)).isNone = true → (B (-(i : Int) - 1)).isNone = true) → (l.filter (fun (i : Nat) => ((upB B v q) (-(i : Int) - 1)).isNone)).length ≤ (l.filter (fun (i : Nat) => (B (-(i : Int) - 1)).isNone)).length ∧ ((-v - 1).toNat ∈ l → (l.filter (fun (i : Nat) => ((upB B v q) (-(i : Int) - 1)).isNone)).length < (l.filter (fun (i : Nat) => (B (-(i : Int) - 1)).isNone)).length) := by
    intro l
    induction l with
    | nil => intro _; simp
    | cons x r ih =>
      intro hh
      obtain ⟨i1, i2⟩ := ih (fun i hi => hh i (by simp [hi]))
      by_cases hx : ((upB B v q) (-(x : Int) - 1)).isNone = true
      · have hx2 := hh x (by simp) hx
        simp only [List.filter_cons, hx, hx2, if_true, List.length_cons]
        refine ⟨by omega, fun hm => ?_⟩
        rcases List.mem_cons.1 hm with e | e
        · rw [← e, hiv] at hx; simp [upB] at hx
        · have := i2 e; omega
      · by_cases hx2 : (B (-(x : Int) - 1)).isNone = true
        · simp only [List.filter_cons, hx, hx2, if_true, List.length_cons]
          exact ⟨by simp; omega, fun _ => by simp; omega⟩
        · simp only [List.filter_cons, hx, hx2]
          refine ⟨i1, fun hm => ?_⟩
          rcases List.mem_cons.1 hm with e | e
          · rw [← e, hiv] at hx2; rw [hB] at hx2; simp at hx2
          · exact i2 e
  refine (this (List.range 24) (fun i _ h => ?_)).2 hi
  unfold upB at h
  split at h
  · simp at h
  · exact h
abbrev Prs := List (List Int × List Int)
def wt (θ : Int → List Int) (L : Prs) : Nat := (L.map (fun e => (ap θ e.1).length + (ap θ e.2).length)).sum
theorem wt_append (θ : Int → List Int) (L M : Prs) : wt θ (L ++ M) = wt θ L + wt θ M := by unfold wt; rw [List.map_append, List.sum_append]
theorem sum_len (θ : Int → List Int) : ∀ (l : List (List Int)), ((l.map (fun u => (ap θ u).length)).sum) = (ap θ l.flatten).length
  | [] => rfl
  | x :: r => by rw [List.map_cons, List.sum_cons, sum_len θ r, List.flatten_cons, ap_append, List.length_append]
theorem wt_zip (θ : Int → List Int) : ∀ {l m : List (List Int)}, l.length = m.length → wt θ (l.zip m) = (ap θ l.flatten).length + (ap θ m.flatten).length
  | [], [], _ => rfl
  | x :: l, y :: m, h => by
    have ih := wt_zip θ (l := l) (m := m) (by simpa using h)
    unfold wt at *
    rw [List.zip_cons_cons, List.map_cons, List.sum_cons, ih, List.flatten_cons, List.flatten_cons, ap_append, ap_append, List.length_append, List.length_append]
    simp only; omega
/-- the two of a pair, the variable first -/
def turned (p q : List Int) : List Int × List Int := if q.headD 0 < 0 then (q, p) else (p, q)
/-- so many steps at most are to come -/
def Halts (s : Sg) : Nat → Bd → Prs → Prop
  | 0, _, L => L = []
  | k + 1, B, L => ∀ L0 a b, L = L0 ++ [(a, b)] → ∀ p q, Lkd B a p → Lkd B b q →
      ((turned p q).1.headD 0 < 0 → (turned p q).2.headD 0 = (turned p q).1.headD 0 → Halts s k B L0) ∧
      ((turned p q).1.headD 0 < 0 → (turned p q).2.headD 0 ≠ (turned p q).1.headD 0 → (∃ θ ρ, Slv s (upB B ((turned p q).1.headD 0) (turned p q).2) θ ρ) → Halts s k (upB B ((turned p q).1.headD 0) (turned p q).2) L0) ∧
      (0 ≤ (turned p q).1.headD 0 → (turned p q).2.headD 0 = (turned p q).1.headD 0 → Halts s k B (L0 ++ (argsW s (turned p q).1).zip (argsW s (turned p q).2)))
theorem turned_all {P : List Int → Prop} {p q : List Int} (hp : P p) (hq : P q) : P (turned p q).1 ∧ P (turned p q).2 := by
  unfold turned; split
  · exact ⟨hq, hp⟩
  · exact ⟨hp, hq⟩
def PrsOk (s : Sg) (L : Prs) : Prop := ∀ e ∈ L, (W1 s e.1 ∧ Rg e.1) ∧ (W1 s e.2 ∧ Rg e.2)
theorem snoc_inj {α : Type} {l m : List α} {x y : α} (h : l ++ [x] = m ++ [y]) : l = m ∧ x = y := by
  have := List.append_inj' h rfl
  exact ⟨this.1, by simpa using this.2⟩
theorem args_sub {s : Sg} {t : List Int} (ht : W1 s t) (hr : Rg t) : ∀ u ∈ argsW s t, W1 s u ∧ Rg u := by
  intro u hu
  cases t with
  | nil => simp [argsW] at hu
  | cons n x =>
    obtain ⟨-, h2, h3, -⟩ := ht.args
    refine ⟨h3 u hu, fun m hm => hr m ?_⟩
    rw [List.mem_cons]
    right
    rw [← h2]
    exact List.mem_flatten.2 ⟨u, hu, hm⟩
theorem Halts.ex {s : Sg} : ∀ (f c : Nat) (B : Bd) (θ : Int → List Int) (ρ : Int → Nat) (L : Prs), Slv s B θ ρ → RgB B → PrsOk s L → free B ≤ f → wt θ L ≤ c → ∃ k, Halts s k B L := by
  intro f
  induction f using Nat.strongRecOn with
  | _ f ihf =>
    intro c
    induction c using Nat.strongRecOn with
    | _ c ihc =>
      intro B θ ρ L hS hrB hL hf hc
      rcases List.eq_nil_or_concat L with rfl | ⟨L0, ⟨a, b⟩, rfl⟩
      · exact ⟨0, rfl⟩
      · rw [List.concat_eq_append] at hL hc ⊢
        obtain ⟨⟨ha, hra⟩, ⟨hb, hrb⟩⟩ := hL (a, b) (by simp)
        have hL0 : PrsOk s L0 := fun e he => hL e (by simp [he])
        obtain ⟨M, hM⟩ : ∃ M, (∀ n r, a = n :: r → n < 0 → ρ n < M) ∧ (∀ n r, b = n :: r → n < 0 → ρ n < M) :=
          ⟨ρ (a.headD 0) + ρ (b.headD 0) + 1, fun n r e _ => by subst e; simp; omega, fun n r e _ => by subst e; simp; omega⟩
        obtain ⟨p, hp⟩ := Lkd.ex hS M a hM.1
        obtain ⟨q, hq⟩ := Lkd.ex hS M b hM.2
        obtain ⟨p1, p2, p3⟩ := hp.spec hS ha
        obtain ⟨q1, q2, q3⟩ := hq.spec hS hb
        have t1 := turned_all (P := fun t => W1 s t ∧ Rg t ∧ ∀ n r, t = n :: r → n < 0 → B n = none) ⟨p1, hp.rg hrB hra, p3⟩ ⟨q1, hq.rg hrB hrb, q3⟩
        have hwt : wt θ (L0 ++ [(a, b)]) = wt θ L0 + ((ap θ (turned p q).1).length + (ap θ (turned p q).2).length) := by
          rw [wt_append]
          congr 1
          unfold turned wt
          split <;> simp [p2, q2]; omega
        obtain ⟨⟨u1, u2, u3⟩, ⟨w1, w2, w3⟩⟩ := t1
        have hlen1 := (u1.ap hS.th).len
        have hlen2 := (w1.ap hS.th).len
        have hone : ∃ k, ((turned p q).1.headD 0 < 0 → (turned p q).2.headD 0 = (turned p q).1.headD 0 → Halts s k B L0) ∧
            ((turned p q).1.headD 0 < 0 → (turned p q).2.headD 0 ≠ (turned p q).1.headD 0 → (∃ θ ρ, Slv s (upB B ((turned p q).1.headD 0) (turned p q).2) θ ρ) → Halts s k (upB B ((turned p q).1.headD 0) (turned p q).2) L0) ∧
            (0 ≤ (turned p q).1.headD 0 → (turned p q).2.headD 0 = (turned p q).1.headD 0 → Halts s k B (L0 ++ (argsW s (turned p q).1).zip (argsW s (turned p q).2))) := by
          generalize (turned p q).1 = P at *
          generalize (turned p q).2 = Q at *
          cases P with
          | nil => exact (u1.ne rfl).elim
          | cons n x =>
            simp only [List.headD_cons] at *
            by_cases hn : n < 0
            · by_cases he : Q.headD 0 = n
              · obtain ⟨k, hk⟩ := ihc (wt θ L0) (by omega) B θ ρ L0 hS hrB hL0 hf (Nat.le_refl _)
                exact ⟨k, fun _ _ => hk, fun _ h => (h he).elim, fun h => by omega⟩
              · by_cases hE : ∃ θ ρ, Slv s (upB B n Q) θ ρ
                · obtain ⟨θ', ρ', hS'⟩ := hE
                  have hfr := free_bind (q := Q) hn (u2 n (by simp) hn) (u3 n x rfl hn)
                  have hrB' : RgB (upB B n Q) := fun m u hm => by
                    unfold upB at hm
                    split at hm
                    · rename_i e; subst e; cases hm; exact ⟨w2, u2 m (by simp) hn⟩
                    · exact hrB m u hm
                  obtain ⟨k, hk⟩ := ihf (free (upB B n Q)) (by omega) (wt θ' L0) (upB B n Q) θ' ρ' L0 hS' hrB' hL0 (Nat.le_refl _) (Nat.le_refl _)
                  exact ⟨k, fun _ h => (he h).elim, fun _ _ _ => hk, fun h => by omega⟩
                · exact ⟨0, fun _ h => (he h).elim, fun _ _ h => (hE h).elim, fun h => by omega⟩
            · by_cases he : Q.headD 0 = n
              · cases Q with
                | nil => exact (w1.ne rfl).elim
                | cons m y =>
                  simp only [List.headD_cons] at he
                  subst he
                  obtain ⟨a1, a2, a3, -⟩ := u1.args
                  obtain ⟨b1, b2, b3, -⟩ := w1.args
                  have hz := wt_zip θ (l := argsW s (m :: x)) (m := argsW s (m :: y)) (by rw [a1, b1])
                  rw [a2, b2] at hz
                  rw [ap_pos hn, ap_pos hn] at hwt
                  simp only [List.length_cons] at hwt
                  have hw2 : wt θ (L0 ++ (argsW s (m :: x)).zip (argsW s (m :: y))) < c := by rw [wt_append, hz]; omega
                  obtain ⟨k, hk⟩ := ihc _ hw2 B θ ρ _ hS hrB (fun e he => by
                    rcases List.mem_append.1 he with h | h
                    · exact hL0 e h
                    · obtain ⟨g1, g2⟩ := List.of_mem_zip h
                      exact ⟨args_sub u1 u2 _ g1, args_sub w1 w2 _ g2⟩) hf (Nat.le_refl _)
                  exact ⟨k, fun h => by omega, fun h => by omega, fun _ _ => hk⟩
              · exact ⟨0, fun h => by omega, fun h => by omega, fun _ h => (he h).elim⟩
        obtain ⟨k, hk⟩ := hone
        refine ⟨k + 1, fun L0' a' b' e p' q' hp' hq' => ?_⟩
        obtain ⟨e1, e2⟩ := snoc_inj e
        cases e2
        subst e1
        rw [← hp.det hp', ← hq.det hq']
        exact hk
end Go.Proofs.YtpmnnoopoblpgaaGreat
