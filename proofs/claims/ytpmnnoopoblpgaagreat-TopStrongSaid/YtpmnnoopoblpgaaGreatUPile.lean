/- How high the stack of a unification can be. No program is named. -/
import Derived.Test.YtpmnnoopoblpgaaGreatUniStep
namespace Go.Proofs.YtpmnnoopoblpgaaGreat

/-- a part of the one term or of the other -/
def InfT (a b t : List Int) : Prop := t <:+: a ∨ t <:+: b
theorem InfT.part {a b t u : List Int} (h : InfT a b t) (hu : u <:+: t) : InfT a b u := by
  rcases h with h | h
  · exact .inl (hu.trans h)
  · exact .inr (hu.trans h)
def allInf (a : List Int) : List (List Int) := (List.range (a.length + 1)).flatMap fun i => (List.range (a.length + 1)).map fun j => (a.drop i).take j
theorem mem_allInf {a t : List Int} (h : t <:+: a) : t ∈ allInf a := by
  obtain ⟨x, y, rfl⟩ := h
  unfold allInf
  rw [List.mem_flatMap]
  refine ⟨x.length, by rw [List.mem_range]; simp; omega, ?_⟩
  rw [List.mem_map]
  refine ⟨t.length, by rw [List.mem_range]; simp; omega, ?_⟩
  rw [List.append_assoc, List.drop_left, List.take_left]
theorem sum_const : ∀ (l : List Nat) (n : Nat), (l.map fun _ => n).sum = l.length * n
  | [], n => by simp
  | x :: l, n => by rw [List.map_cons, List.sum_cons, sum_const l n, List.length_cons, Nat.succ_mul]; omega
theorem allInf_len (a : List Int) : (allInf a).length = (a.length + 1) * (a.length + 1) := by
  unfold allInf
  rw [List.length_flatMap]
  simp only [List.length_map, List.length_range]
  rw [sum_const, List.length_range]
theorem nodup_len {α : Type} [DecidableEq α] : ∀ {l F : List α}, l.Nodup → (∀ x ∈ l, x ∈ F) → l.length ≤ F.length
  | [], F, _, _ => Nat.zero_le _
  | x :: l, F, h, hm => by
    rw [List.nodup_cons] at h
    have h1 := nodup_len (F := F.erase x) h.2 (fun y hy => (List.mem_erase_of_ne (fun e : y = x => h.1 (by rw [← e]; exact hy))).2 (hm y (by simp [hy])))
    have h2 := List.length_erase_of_mem (hm x (by simp))
    have h3 := List.length_pos_of_mem (hm x (by simp))
    simp only [List.length_cons]; omega

/-- what q becomes is a part, not the first, of what p becomes -/
def SubW (θ : Int → List Int) (p q : List Int) : Prop := ∃ pre post, pre ≠ [] ∧ ap θ p = pre ++ ap θ q ++ post
section
variable {s : Sg} {θ θ' : Int → List Int} {B : Bd} {p q r a b : List Int}
theorem SubW.trans (h : SubW θ p q) (k : SubW θ q r) : SubW θ p r := by
  obtain ⟨x, y, hx, h⟩ := h
  obtain ⟨x', y', hx', k⟩ := k
  exact ⟨x ++ x', y' ++ y, by simp [hx], by rw [h, k]; simp⟩
theorem SubW.ne (h : SubW θ p q) : p ≠ q := by
  rintro rfl
  obtain ⟨x, y, hx, h⟩ := h
  have := congrArg List.length h
  simp only [List.length_append] at this
  have := List.length_pos_iff.2 hx
  omega
theorem SubW.more (hθ : Wsub s θ') (hm : ∀ t, ap θ' (ap θ t) = ap θ' t) (h : SubW θ p q) : SubW θ' p q := by
  obtain ⟨x, y, hx, h⟩ := h
  refine ⟨ap θ' x, ap θ' y, fun e => ?_, ?_⟩
  · have := ap_len hθ x
    rw [e, List.length_nil] at this
    have := List.length_pos_iff.2 hx
    omega
  · rw [← hm p, h, ap_append, ap_append, hm]
theorem SubW.same (h : SubW θ p q) (e : ap θ r = ap θ q) : SubW θ p r := by
  obtain ⟨x, y, hx, h⟩ := h; exact ⟨x, y, hx, by rw [e]; exact h⟩

/-- the stack under its parents, the last first -/
def Pile (θ : Int → List Int) (a b : List Int) : List (List Int) → Prs → Prop
  | [], L => L.length ≤ 1
  | p :: C, L => ∃ L0 seg, L = L0 ++ seg ∧ seg.length ≤ 3 ∧ (∀ e ∈ seg, SubW θ p e.1) ∧ InfT a b p ∧ (∀ c ∈ C, SubW θ c p) ∧ Pile θ a b C L0
theorem Pile.more (hθ : Wsub s θ') (hm : ∀ t, ap θ' (ap θ t) = ap θ' t) : ∀ {C : List (List Int)} {L : Prs}, Pile θ a b C L → Pile θ' a b C L
  | [], _, h => h
  | _ :: _, _, ⟨L0, seg, h1, h2, h3, h4, h5, h6⟩ => ⟨L0, seg, h1, h2, fun e he => (h3 e he).more hθ hm, h4, fun c hc => (h5 c hc).more hθ hm, Pile.more hθ hm h6⟩
theorem Pile.pop : ∀ {C : List (List Int)} {L : Prs} {e : List Int × List Int}, Pile θ a b C (L ++ [e]) → ∃ C', Pile θ a b C' L ∧ ∀ c ∈ C', SubW θ c e.1
  | [], L, e, h => by
    have h' : (L ++ [e]).length ≤ 1 := h
    rw [List.length_append, List.length_singleton] at h'
    exact ⟨[], by show L.length ≤ 1; omega, fun c hc => by cases hc⟩
  | p :: C, L, e, ⟨L0, seg, h1, h2, h3, h4, h5, h6⟩ => by
    rcases List.eq_nil_or_concat seg with rfl | ⟨seg', x, rfl⟩
    · rw [List.append_nil] at h1
      rw [← h1] at h6
      exact Pile.pop h6
    · rw [List.concat_eq_append, ← List.append_assoc] at h1
      obtain ⟨g1, g2⟩ := snoc_inj h1
      subst g2
      have hs := h3 e (by simp)
      refine ⟨p :: C, ⟨L0, seg', g1, by simp at h2; omega, fun y hy => h3 y (by simp [hy]), h4, h5, h6⟩, fun c hc => ?_⟩
      rcases List.mem_cons.1 hc with g | g
      · rw [g]; exact hs
      · exact (h5 c g).trans hs
theorem Pile.push {C : List (List Int)} {L seg : Prs} (h : Pile θ a b C L) (h2 : seg.length ≤ 3) (h3 : ∀ e ∈ seg, SubW θ p e.1) (h4 : InfT a b p) (h5 : ∀ c ∈ C, SubW θ c p) : Pile θ a b (p :: C) (L ++ seg) :=
  ⟨L, seg, rfl, h2, h3, h4, h5, h⟩
theorem Pile.chain : ∀ {C : List (List Int)} {L : Prs}, Pile θ a b C L → C.Nodup ∧ (∀ c ∈ C, InfT a b c) ∧ L.length ≤ 3 * C.length + 1
  | [], _, h => ⟨List.nodup_nil, fun _ h => (by cases h), by have h' : List.length _ ≤ 1 := h; simpa using h'⟩
  | p :: C, _, ⟨L0, seg, h1, h2, h3, h4, h5, h6⟩ => by
    obtain ⟨g1, g2, g3⟩ := Pile.chain h6
    refine ⟨List.nodup_cons.2 ⟨fun hp => (h5 p hp).ne rfl, g1⟩, fun c hc => ?_, by rw [h1, List.length_append, List.length_cons]; omega⟩
    rcases List.mem_cons.1 hc with e | e
    · rw [e]; exact h4
    · exact g2 c e
theorem Pile.len {C : List (List Int)} {L : Prs} (h : Pile θ a b C L) (ha : a.length ≤ 1000) (hb : b.length ≤ 1000) : L.length ≤ 10000000 := by
  obtain ⟨g1, g2, g3⟩ := h.chain
  have h1 := nodup_len (F := allInf a ++ allInf b) g1 (fun x hx => by
    rcases g2 x hx with e | e
    · exact List.mem_append.2 (.inl (mem_allInf e))
    · exact List.mem_append.2 (.inr (mem_allInf e)))
  rw [List.length_append, allInf_len, allInf_len] at h1
  have k1 : (a.length + 1) * (a.length + 1) ≤ 1001 * 1001 := Nat.mul_le_mul (by omega) (by omega)
  have k2 : (b.length + 1) * (b.length + 1) ≤ 1001 * 1001 := Nat.mul_le_mul (by omega) (by omega)
  omega
/-- an argument is a part -/
theorem args_sub_w {n : Int} {x : List Int} (h : W1 s (n :: x)) (hn : 0 ≤ n) : ∀ u ∈ argsW s (n :: x), SubW θ (n :: x) u ∧ u <:+: (n :: x) := by
  intro u hu
  obtain ⟨-, h2, -, -⟩ := h.args
  obtain ⟨l, r, hlr⟩ := List.append_of_mem hu
  rw [hlr] at h2
  have hx : x = l.flatten ++ u ++ r.flatten := by rw [← h2, List.flatten_append, List.flatten_cons, List.append_assoc]
  refine ⟨⟨n :: ap θ l.flatten, ap θ r.flatten, by simp, ?_⟩, ⟨n :: l.flatten, r.flatten, ?_⟩⟩
  · rw [ap_pos (by omega), hx, ap_append, ap_append]; simp
  · rw [hx]; simp
theorem Lkd.inf {t : List Int} (hl : Lkd B t p) (hB : ∀ n u, B n = some u → InfT a b u) (ht : InfT a b t) : InfT a b p := by
  induction hl with
  | stop _ => exact ht
  | go _ hu _ ih => exact ih (hB _ _ hu)
end
end Go.Proofs.YtpmnnoopoblpgaaGreat
