/- The steps of a unification, as a plain law. No program is named. -/
import Derived.Test.YtpmnnoopoblpgaaGreatUPile
namespace Go.Proofs.YtpmnnoopoblpgaaGreat

def Same2 (s : Sg) (a b : List Int) (B : Bd) (L : Prs) : Prop := ∀ η, Wsub s η → (ap η a = ap η b ↔ Sat B η ∧ ∀ e ∈ L, ap η e.1 = ap η e.2)
theorem Same2.start (s : Sg) (a b : List Int) : Same2 s a b (fun _ => none) [(a, b)] := fun η _ => ⟨fun h => ⟨fun _ _ h => (by cases h), fun e he => by rw [List.mem_singleton] at he; rw [he]; exact h⟩, fun h => h.2 (a, b) (by simp)⟩
theorem turned_eq {η : Int → List Int} {p q : List Int} : ap η (turned p q).1 = ap η (turned p q).2 ↔ ap η p = ap η q := by
  unfold turned; split
  · exact ⟨Eq.symm, Eq.symm⟩
  · exact Iff.rfl
theorem Same2.done {s : Sg} {a b : List Int} {B : Bd} (h : Same2 s a b B []) : ∀ η, Wsub s η → (Sat B η ↔ ap η a = ap η b) := fun η hw => by rw [h η hw]; simp
/-- what has been done and what is left say together that the two terms become one -/
structure St (s : Sg) (a b : List Int) (k : Nat) (B : Bd) (θ : Int → List Int) (ρ : Int → Nat) (L : Prs) : Prop where
  halts : Halts s k B L
  slv : Slv s B θ ρ
  rg : RgB B
  ok : PrsOk s L
  eq : Same2 s a b B L
  inf : ∀ e ∈ L, InfT a b e.1 ∧ InfT a b e.2
  infB : ∀ n u, B n = some u → InfT a b u
  pile : ∃ C, Pile θ a b C L
section
variable {s : Sg} {a b : List Int} {k : Nat} {B : Bd} {θ : Int → List Int} {ρ : Int → Nat} {L : Prs} {x y p q : List Int}
theorem St.start (ha : W1 s a) (hb : W1 s b) (ra : Rg a) (rb : Rg b) : ∃ k, St s a b k (fun _ => none) (fun n => [n]) (fun _ => 0) [(a, b)] := by
  have hok : PrsOk s [(a, b)] := fun e he => by rw [List.mem_singleton] at he; rw [he]; exact ⟨⟨ha, ra⟩, hb, rb⟩
  have hrg : RgB (fun _ => none) := fun _ _ h => by cases h
  obtain ⟨k, hk⟩ := Halts.ex (s := s) _ _ _ _ _ _ (Slv.empty s) hrg hok (Nat.le_refl _) (Nat.le_refl _)
  exact ⟨k, hk, Slv.empty s, hrg, hok, Same2.start s a b, fun e he => by rw [List.mem_singleton] at he; rw [he]; exact ⟨.inl (List.infix_refl _), .inr (List.infix_refl _)⟩, (fun _ _ h => by cases h), [], Nat.le_refl 1⟩
theorem St.pos (h : St s a b k B θ ρ (L ++ [(x, y)])) : ∃ m, k = m + 1 := by
  cases k with
  | zero => have := h.halts; simp [Halts] at this
  | succ m => exact ⟨m, rfl⟩
theorem St.len (h : St s a b k B θ ρ L) (ha : a.length ≤ 1000) (hb : b.length ≤ 1000) : L.length ≤ 10000000 := by
  obtain ⟨C, hC⟩ := h.pile; exact hC.len ha hb
theorem St.item (h : St s a b k B θ ρ (L ++ [(x, y)])) : (W1 s x ∧ Rg x ∧ InfT a b x) ∧ W1 s y ∧ Rg y ∧ InfT a b y := by
  obtain ⟨⟨h1, h2⟩, h3, h4⟩ := h.ok (x, y) (by simp)
  obtain ⟨h5, h6⟩ := h.inf (x, y) (by simp)
  exact ⟨⟨h1, h2, h5⟩, h3, h4, h6⟩
/-- a term that was looked up -/
structure Seen (s : Sg) (a b : List Int) (B : Bd) (p : List Int) : Prop where
  w : W1 s p
  r : Rg p
  i : InfT a b p
  v : p.headD 0 < 0 → p = [p.headD 0] ∧ B (p.headD 0) = none ∧ -24 ≤ p.headD 0
theorem Seen.of (h : St s a b k B θ ρ L) (hx : W1 s x) (hr : Rg x) (hi : InfT a b x) (hl : Lkd B x p) : Seen s a b B p := by
  obtain ⟨h1, h2, h3⟩ := hl.spec h.slv hx
  have hrg := hl.rg h.rg hr
  refine ⟨h1, hrg, hl.inf h.infB hi, fun h0 => ?_⟩
  cases p with
  | nil => exact (h1.ne rfl).elim
  | cons n r =>
    have hn : n < 0 := h0
    have := h1.leaf hn
    subst this
    exact ⟨rfl, h3 n [] rfl hn, hrg n (by simp) hn⟩
theorem St.seen (h : St s a b k B θ ρ (L ++ [(x, y)])) (hp : Lkd B x p) (hq : Lkd B y q) : Seen s a b B p ∧ Seen s a b B q := by
  obtain ⟨⟨h1, h2, h3⟩, h4, h5, h6⟩ := h.item
  exact ⟨Seen.of h h1 h2 h3 hp, Seen.of h h4 h5 h6 hq⟩
theorem St.top (h : St s a b k B θ ρ (L ++ [(x, y)])) (hp : Lkd B x p) (hq : Lkd B y q) {η : Int → List Int} (hw : Wsub s η) :
    ap η a = ap η b ↔ Sat B η ∧ (∀ e ∈ L, ap η e.1 = ap η e.2) ∧ ap η (turned p q).1 = ap η (turned p q).2 := by
  obtain ⟨⟨hx, -, -⟩, hy, -, -⟩ := h.item
  have hwf : ∀ n u, B n = some u → W1 s u := fun n u hu => (h.slv.wf n u hu).1
  rw [h.eq η hw]
  constructor
  · rintro ⟨h1, h2⟩
    have h3 := h2 (x, y) (by simp)
    simp only at h3
    rw [← hp.eta h1 hx hwf, ← hq.eta h1 hy hwf] at h3
    exact ⟨h1, fun e he => h2 e (by simp [he]), turned_eq.2 h3⟩
  · rintro ⟨h1, h2, h3⟩
    have h4 : ap η p = ap η q := turned_eq.1 h3
    rw [hp.eta h1 hx hwf, hq.eta h1 hy hwf] at h4
    exact ⟨h1, fun e he => by
      rcases List.mem_append.1 he with g | g
      · exact h2 e g
      · rw [List.mem_singleton] at g; rw [g]; exact h4⟩
theorem St.below (h : St s a b (k + 1) B θ ρ (L ++ [(x, y)])) : PrsOk s L ∧ (∀ e ∈ L, InfT a b e.1 ∧ InfT a b e.2) ∧ ∃ C, Pile θ a b C L ∧ ∀ c ∈ C, SubW θ c x := by
  obtain ⟨C, hC⟩ := h.pile
  exact ⟨fun e he => h.ok e (by simp [he]), fun e he => h.inf e (by simp [he]), hC.pop⟩
theorem St.same (h : St s a b (k + 1) B θ ρ (L ++ [(x, y)])) (hp : Lkd B x p) (hq : Lkd B y q) (h0 : (turned p q).1.headD 0 < 0) (he : (turned p q).2.headD 0 = (turned p q).1.headD 0) : St s a b k B θ ρ L := by
  obtain ⟨sp, sq⟩ := h.seen hp hq
  obtain ⟨s1, s2⟩ := turned_all (P := Seen s a b B) sp sq
  obtain ⟨g1, g2, C, g3, -⟩ := h.below
  have e1 := (s1.v h0).1
  have e2 := (s2.v (by rw [he]; exact h0)).1
  rw [he] at e2
  refine ⟨(h.halts L x y rfl p q hp hq).1 h0 he, h.slv, h.rg, g1, fun η hw => ?_, g2, h.infB, C, g3⟩
  rw [h.top hp hq hw]
  exact ⟨fun g => ⟨g.1, g.2.1⟩, fun g => ⟨g.1, g.2, by rw [e1, e2]⟩⟩
theorem St.bind (h : St s a b (k + 1) B θ ρ (L ++ [(x, y)])) (hp : Lkd B x p) (hq : Lkd B y q) (h0 : (turned p q).1.headD 0 < 0) (he : (turned p q).2.headD 0 ≠ (turned p q).1.headD 0) (hocc : (turned p q).1.headD 0 ∉ ap θ (turned p q).2) :
    ∃ θ' ρ', St s a b k (upB B ((turned p q).1.headD 0) (turned p q).2) θ' ρ' L := by
  obtain ⟨sp, sq⟩ := h.seen hp hq
  obtain ⟨s1, s2⟩ := turned_all (P := Seen s a b B) sp sq
  obtain ⟨g1, g2, C, g3, -⟩ := h.below
  obtain ⟨e1, hBv, h24⟩ := s1.v h0
  obtain ⟨θ', ρ', hS⟩ := h.slv.bind h0 hBv s2.w hocc
  have hsat := (sat_upB hBv).1 hS.bnd
  refine ⟨θ', ρ', (h.halts L x y rfl p q hp hq).2.1 h0 he ⟨θ', ρ', hS⟩, hS, fun n u hu => ?_, g1, fun η hw => ?_, g2, fun n u hu => ?_, C, g3.more hS.th (h.slv.most hsat.1)⟩
  · unfold upB at hu
    split at hu
    · rename_i e; cases hu; rw [e]; exact ⟨s2.r, h24⟩
    · exact h.rg n u hu
  · rw [h.top hp hq hw, sat_upB hBv]
    have : ap η (turned p q).1 = η ((turned p q).1.headD 0) := by
      conv => lhs; rw [e1]
      rw [ap_one h0]
    rw [this]
    exact ⟨fun g => ⟨⟨g.1, g.2.2⟩, g.2.1⟩, fun g => ⟨g.1.1, g.2, g.1.2⟩⟩
  · unfold upB at hu
    split at hu
    · cases hu; exact s2.i
    · exact h.infB n u hu
theorem St.occ (h : St s a b (k + 1) B θ ρ (L ++ [(x, y)])) (hp : Lkd B x p) (hq : Lkd B y q) (h0 : (turned p q).1.headD 0 < 0) (he : (turned p q).2.headD 0 ≠ (turned p q).1.headD 0) (hocc : (turned p q).1.headD 0 ∈ ap θ (turned p q).2) :
    ∀ η, Wsub s η → ap η a ≠ ap η b := fun η hw hab => by
  obtain ⟨sp, sq⟩ := h.seen hp hq
  obtain ⟨s1, s2⟩ := turned_all (P := Seen s a b B) sp sq
  obtain ⟨e1, hBv, -⟩ := s1.v h0
  obtain ⟨g1, -, g3⟩ := (h.top hp hq hw).1 hab
  have hne : ap θ (turned p q).2 ≠ [(turned p q).1.headD 0] := fun e => by
    obtain ⟨n, r, hnr⟩ : ∃ n r, (turned p q).2 = n :: r := by
      cases hh : (turned p q).2 with
      | nil => exact (s2.w.ne hh).elim
      | cons n r => exact ⟨n, r, rfl⟩
    have hn : (turned p q).2.headD 0 = n := by rw [hnr]; rfl
    by_cases hneg : n < 0
    · obtain ⟨f1, f2, -⟩ := s2.v (by rw [hn]; exact hneg)
      rw [hn] at f1 f2
      rw [f1, ap_one hneg, h.slv.free n hneg f2] at e
      exact he (by rw [hn]; exact (List.cons.inj e).1)
    · rw [hnr, ap_pos hneg] at e
      have := (List.cons.inj e).1
      omega
  rw [e1, ap_one h0] at g3
  exact h.slv.occurs_no h0 hocc hne hw g1 g3
theorem St.nonneg (h0 : 0 ≤ (turned p q).1.headD 0) : (turned p q).1 = p ∧ (turned p q).2 = q ∧ 0 ≤ q.headD 0 := by
  unfold turned at *
  split at h0
  · rename_i hq; simp only at h0; omega
  · rename_i hq; rw [if_neg hq]; exact ⟨rfl, rfl, by omega⟩
theorem St.clash (h : St s a b (k + 1) B θ ρ (L ++ [(x, y)])) (hp : Lkd B x p) (hq : Lkd B y q) (h0 : 0 ≤ (turned p q).1.headD 0) (he : (turned p q).1.headD 0 ≠ (turned p q).2.headD 0) :
    ∀ η, Wsub s η → ap η a ≠ ap η b := fun η hw hab => by
  obtain ⟨e1, e2, h1⟩ := St.nonneg h0
  obtain ⟨sp, sq⟩ := h.seen hp hq
  obtain ⟨-, -, g3⟩ := (h.top hp hq hw).1 hab
  rw [e1, e2] at g3 he
  rw [e1] at h0
  cases p with
  | nil => exact (sp.w.ne rfl).elim
  | cons n r =>
    cases q with
    | nil => exact (sq.w.ne rfl).elim
    | cons m r' =>
      simp only [List.headD_cons] at h0 h1 he
      rw [ap_pos (by omega), ap_pos (by omega)] at g3
      exact he (List.cons.inj g3).1
theorem map_zip_iff {f : List Int → List Int} : ∀ {l m : List (List Int)}, l.length = m.length → (l.map f = m.map f ↔ ∀ e ∈ l.zip m, f e.1 = f e.2)
  | [], [], _ => by simp
  | x :: l, y :: m, h => by
    have ih := map_zip_iff (f := f) (l := l) (m := m) (by simpa using h)
    rw [List.map_cons, List.map_cons, List.zip_cons_cons]
    simp only [List.cons.injEq, ih, List.mem_cons, forall_eq_or_imp]
theorem St.args (h : St s a b (k + 1) B θ ρ (L ++ [(x, y)])) (hp : Lkd B x p) (hq : Lkd B y q) (h0 : 0 ≤ (turned p q).1.headD 0) (he : (turned p q).2.headD 0 = (turned p q).1.headD 0) (h3 : (argsW s (turned p q).1).length ≤ 3) :
    St s a b k B θ ρ (L ++ (argsW s (turned p q).1).zip (argsW s (turned p q).2)) := by
  obtain ⟨e1, e2, h1⟩ := St.nonneg h0
  obtain ⟨sp, sq⟩ := h.seen hp hq
  obtain ⟨g1, g2, C, g3, g4⟩ := h.below
  have hh := (h.halts L x y rfl p q hp hq).2.2 h0 he
  have htop := fun η hw => h.top hp hq (η := η) hw
  rw [e1] at h3
  rw [e1, e2] at he hh ⊢
  simp only [e1, e2] at htop
  rw [e1] at h0
  obtain ⟨⟨hx, -, -⟩, -⟩ := h.item
  obtain ⟨-, hpx, -⟩ := hp.spec h.slv hx
  cases p with
  | nil => exact (sp.w.ne rfl).elim
  | cons n r =>
    cases q with
    | nil => exact (sq.w.ne rfl).elim
    | cons m r' =>
      simp only [List.headD_cons] at h0 h1 he
      subst he
      have mz : ∀ e ∈ (argsW s (m :: r)).zip (argsW s (m :: r')), e.1 ∈ argsW s (m :: r) ∧ e.2 ∈ argsW s (m :: r') := fun e hm => by
        obtain ⟨e1, e2⟩ := e
        exact List.of_mem_zip hm
      refine ⟨hh, h.slv, h.rg, fun e hm => ?_, fun η hw => ?_, fun e hm => ?_, h.infB, _, g3.push (p := m :: r) (by rw [List.length_zip]; omega) (fun e hm => (args_sub_w sp.w h0 _ (mz e hm).1).1) sp.i (fun c hc => (g4 c hc).same hpx)⟩
      · rcases List.mem_append.1 hm with g | g
        · exact g1 e g
        · exact ⟨args_sub sp.w sp.r _ (mz e g).1, args_sub sq.w sq.r _ (mz e g).2⟩
      · rw [htop η hw, ap_eq_args hw sp.w sq.w h0, map_zip_iff (by rw [sp.w.args.1, sq.w.args.1])]
        constructor
        · rintro ⟨k1, k2, k3⟩
          refine ⟨k1, fun e hm => ?_⟩
          rcases List.mem_append.1 hm with g | g
          · exact k2 e g
          · exact k3 e g
        · rintro ⟨k1, k2⟩
          exact ⟨k1, fun e g => k2 e (by simp [g]), fun e g => k2 e (by simp [g])⟩
      · rcases List.mem_append.1 hm with g | g
        · exact g2 e g
        · exact ⟨sp.i.part (args_sub_w (θ := θ) sp.w h0 _ (mz e g).1).2, sq.i.part (args_sub_w (θ := θ) sq.w h0 _ (mz e g).2).2⟩
/-- all that a step may do, at the two looked-up terms, the variable first -/
structure Nxt (s : Sg) (a b : List Int) (k : Nat) (B : Bd) (θ : Int → List Int) (ρ : Int → Nat) (L : Prs) (P Q : List Int) (p0 q0 : Int) : Prop where
  hP : P.headD 0 = p0
  hQ : Q.headD 0 = q0
  sP : Seen s a b B P
  sQ : Seen s a b B Q
  slv : Slv s B θ ρ
  rg : RgB B
  same : p0 < 0 → q0 = p0 → St s a b k B θ ρ L
  bind : p0 < 0 → q0 ≠ p0 → p0 ∉ ap θ Q → ∃ θ' ρ', St s a b k (upB B p0 Q) θ' ρ' L
  occ : p0 < 0 → q0 ≠ p0 → p0 ∈ ap θ Q → ∀ η, Wsub s η → ap η a ≠ ap η b
  clash : 0 ≤ p0 → p0 ≠ q0 → ∀ η, Wsub s η → ap η a ≠ ap η b
  args : 0 ≤ p0 → q0 = p0 → (argsW s P).length ≤ 3 → St s a b k B θ ρ (L ++ (argsW s P).zip (argsW s Q))
theorem St.nxt (h : St s a b (k + 1) B θ ρ (L ++ [(x, y)])) (hp : Lkd B x p) (hq : Lkd B y q) : Nxt s a b k B θ ρ L (turned p q).1 (turned p q).2 ((turned p q).1.headD 0) ((turned p q).2.headD 0) := by
  obtain ⟨sp, sq⟩ := h.seen hp hq
  obtain ⟨s1, s2⟩ := turned_all (P := Seen s a b B) sp sq
  exact ⟨rfl, rfl, s1, s2, h.slv, h.rg, h.same hp hq, h.bind hp hq, h.occ hp hq, h.clash hp hq, h.args hp hq⟩
end
end Go.Proofs.YtpmnnoopoblpgaaGreat
