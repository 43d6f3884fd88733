/- A part put into a term: what is put in is there. No program is named. -/
import Derived.Test.YtpmnnoopoblpgaaGreatMath5
namespace Go.Proofs.YtpmnnoopoblpgaaGreat

theorem posK_get {s : Sg} {n : Nat} : ∀ {k m : Nat} {l l' : List Int} (_ : skip s k l = some l') (_ : k < m), (posK s n m l)[k]? = some ((n - l'.length : Nat) : Int)
  | _, 0, _, _, _, hm => by omega
  | 0, m + 1, l, l', h, _ => by
    rw [skip_zero] at h
    cases h
    simp [posK]
  | k + 1, m + 1, l, l', h, hm => by
    obtain ⟨x, h1, h2⟩ := skip_one h
    rw [posK, h1]
    simpa using posK_get (n := n) h2 (show k < m by omega)
theorem stepTo_skip {s : Sg} {t l' : List Int} {a k : Nat} (hk : k < ar s (t.getD a 0)) (h : skip s k (t.drop (a + 1)) = some l') : stepTo s t a k = some (t.length - l'.length) := by
  rw [stepTo, if_pos ⟨by omega, by omega⟩, List.getD_eq_getElem?_getD, Int.toNat_natCast, posK_get h hk]; rfl
theorem step_skip {s : Sg} {t rest : List Int} {a : Nat} (h : skip s 1 (t.drop a) = some rest) {k : Int} {y : Nat} (hy : stepTo s t a k = some y) :
    ∃ n : Nat, k = n ∧ n < ar s (t.getD a 0) ∧ skip s n (t.drop (a + 1)) = some (t.drop y) ∧ a < y ∧ y ≤ t.length ∧ ∃ ry, skip s 1 (t.drop y) = some ry ∧ skip s (ar s (t.getD a 0) - n - 1) ry = some rest := by
  obtain ⟨-, h2, -, h4⟩ := part_args h
  have hk : 0 ≤ k ∧ k < ar s (t.getD a 0) := by
    rcases Classical.em (0 ≤ k ∧ k < ar s (t.getD a 0)) with hh | hh
    · exact hh
    · rw [stepTo, if_neg hh] at hy; cases hy
  obtain ⟨n, rfl⟩ := Int.eq_ofNat_of_zero_le hk.1
  have hn : n < ar s (t.getD a 0) := by omega
  obtain ⟨m, hm⟩ : ∃ m, ar s (t.getD a 0) = n + (1 + m) := ⟨ar s (t.getD a 0) - n - 1, by omega⟩
  have h3 := h2
  rw [hm, skip_add] at h3
  cases hl : skip s n (t.drop (a + 1)) with
  | none => rw [hl] at h3; cases h3
  | some l' =>
    rw [hl, Option.bind_some, skip_add] at h3
    cases hr : skip s 1 l' with
    | none => rw [hr] at h3; cases h3
    | some ry =>
      rw [hr, Option.bind_some] at h3
      rw [stepTo_skip hn hl] at hy
      obtain rfl := Option.some.inj hy
      obtain ⟨M, hM, -, -⟩ := skip_split s n _ _ hl
      have hlen := congrArg List.length hM
      rw [List.length_drop, List.length_append] at hlen
      have hl1 := skip_len _ _ _ _ hr
      have hd : t.drop (t.length - l'.length) = l' := by
        rw [show t.length - l'.length = (a + 1) + M.length by omega, ← List.drop_drop, hM]; simp
      refine ⟨n, rfl, hn, by rw [hd]; exact hl, by omega, by omega, ry, by rw [hd]; exact hr, ?_⟩
      rw [hm, show n + (1 + m) - n - 1 = m by omega]; exact h3
theorem drop_take_drop {l : List Int} {i y : Nat} (h1 : i ≤ y) (h2 : y ≤ l.length) : l.drop i = (l.take y).drop i ++ l.drop y := by
  have h3 : l.drop i = (l.take y ++ l.drop y).drop i := by rw [List.take_append_drop]
  rw [h3, List.drop_append_of_le_length (by rw [List.length_take]; omega)]
theorem place_put {s : Sg} {t c u r' : List Int} {z : Nat} (hz : z ≤ t.length) (hzc : z ≤ c.length) (hc : c.take z = t.take z) (hr : skip s 1 (t.drop z) = some r') (hd : c.drop z = u ++ r') (hu : skip s 1 u = some []) :
    ∀ (p : List Int) {rest : List Int} {a : Nat} (_ : skip s 1 (t.drop a) = some rest) (_ : place s t p a = some z), a ≤ z ∧ place s c p a = some z ∧ skip s 1 (c.drop a) = some rest
  | [], rest, a, h, hp => by
    simp only [place, Option.some.injEq] at hp
    subst hp
    refine ⟨Nat.le_refl _, rfl, ?_⟩
    rw [h] at hr
    obtain rfl := Option.some.inj hr
    rw [hd]
    exact skip_append s 1 u _ [] hu
  | k :: ks, rest, a, h, hp => by
    rw [place] at hp
    cases hy : stepTo s t a k with
    | none => rw [hy] at hp; cases hp
    | some y =>
      rw [hy, Option.bind_some] at hp
      obtain ⟨n, rfl, hn, h1, h2, h3, ry, h4, h5⟩ := step_skip h hy
      obtain ⟨i1, i2, i3⟩ := place_put hz hzc hc hr hd hu ks h4 hp
      obtain ⟨hlt, hco, -⟩ := skip_drop (k := 0) h
      have hyc : c.take y = t.take y := by
        have := congrArg (List.take y) hc
        rwa [List.take_take, List.take_take, Nat.min_eq_left i1] at this
      have hca : c[a]? = t[a]? := by
        have e1 : (c.take y)[a]? = c[a]? := by rw [List.getElem?_take, if_pos h2]
        have e2 : (t.take y)[a]? = t[a]? := by rw [List.getElem?_take, if_pos h2]
        rw [← e1, ← e2, hyc]
      have hcl : a < c.length := by omega
      have hcg : c[a] = t[a] := by rw [List.getElem?_eq_getElem hcl, List.getElem?_eq_getElem hlt] at hca; exact Option.some.inj hca
      have hgd : c.getD a 0 = t.getD a 0 := by rw [List.getD_eq_getElem?_getD, List.getD_eq_getElem?_getD, hca]
      have ht1 := drop_take_drop (l := t) (i := a + 1) (y := y) (by omega) h3
      have hc1 := drop_take_drop (l := c) (i := a + 1) (y := y) (by omega) (by omega)
      rw [hyc] at hc1
      have hM : skip s n ((t.take y).drop (a + 1)) = some [] := by
        rw [ht1] at h1
        obtain ⟨u', e1, e2, -⟩ := skip_split s n _ _ h1
        rw [List.append_cancel_right e1]; exact e2
      have hcs : skip s n (c.drop (a + 1)) = some (c.drop y) := by
        rw [hc1]; exact skip_append s n _ _ _ hM
      have hst : stepTo s c a n = some y := by
        rw [stepTo_skip (by rw [hgd]; exact hn) hcs, List.length_drop]
        congr 1; omega
      refine ⟨by omega, by rw [place, hst]; exact i2, ?_⟩
      have hall : skip s (ar s (t.getD a 0)) (c.drop (a + 1)) = some rest := by
        rw [show ar s (t.getD a 0) = n + (1 + (ar s (t.getD a 0) - n - 1)) by omega, skip_add, hcs, Option.bind_some, skip_add, i3]
        exact h5
      rw [List.drop_eq_getElem_cons hcl, skip_cons, hcg, if_pos hco, Nat.zero_add]
      have : t.getD a 0 = t[a] := by simp [hlt]
      rw [← this]; exact hall

def putL (s : Sg) (t u : List Int) (z : Nat) : List Int := t.take z ++ (u ++ t.drop (z + (partAt s (t.drop z)).length))
def putE (s : Sg) (t p u : List Int) : List Int × Int :=
  if okT s t = true ∧ okT s u = true then (match place s t p 0 with | some z => (if (putL s t u z).length ≤ 60 then (putL s t u z, 0) else ([], 4)) | none => ([], 8)) else ([], 1)
theorem putE_1 {s : Sg} {t p u : List Int} (h : ¬ (okT s t = true ∧ okT s u = true)) : putE s t p u = ([], 1) := by rw [putE, if_neg h]
theorem putE_8 {s : Sg} {t p u : List Int} (h : okT s t = true ∧ okT s u = true) (hp : place s t p 0 = none) : putE s t p u = ([], 8) := by rw [putE, if_pos h, hp]
theorem putE_4 {s : Sg} {t p u : List Int} {z : Nat} (h : okT s t = true ∧ okT s u = true) (hp : place s t p 0 = some z) (hl : ¬ (putL s t u z).length ≤ 60) : putE s t p u = ([], 4) := by rw [putE, if_pos h, hp]; exact if_neg hl
theorem putE_0 {s : Sg} {t p u : List Int} {z : Nat} (h : okT s t = true ∧ okT s u = true) (hp : place s t p 0 = some z) (hl : (putL s t u z).length ≤ 60) : putE s t p u = (putL s t u z, 0) := by rw [putE, if_pos h, hp]; exact if_pos hl
/-- the part at a place, and what lies behind it -/
theorem part_split {s : Sg} {t r : List Int} {z : Nat} (hr : skip s 1 (t.drop z) = some r) : z + (partAt s (t.drop z)).length = t.length - r.length ∧ t.drop (z + (partAt s (t.drop z)).length) = r ∧ z < t.length ∧ r.length < t.length := by
  have hl := partAt_len hr
  have h1 := skip_len _ _ _ _ hr
  rw [List.length_drop] at hl h1
  obtain ⟨-, g2, g3, g4⟩ := endOf_some s t z r hr
  have : z + (partAt s (t.drop z)).length = t.length - r.length := by omega
  rw [this]
  exact ⟨rfl, g2, by omega, by omega⟩
/-- what is put in is there -/
theorem put_at {s : Sg} {t p u : List Int} (h : (putE s t p u).2 = 0) : okT s t = true ∧ okT s u = true ∧ atE s (putE s t p u).1 p = (u, 0) := by
  by_cases hok : okT s t = true ∧ okT s u = true
  · cases hp : place s t p 0 with
    | none => rw [putE_8 hok hp] at h; cases h
    | some z =>
      by_cases hl : (putL s t u z).length ≤ 60
      · refine ⟨hok.1, hok.2, ?_⟩
        rw [putE_0 hok hp hl]
        show atE s (putL s t u z) p = (u, 0)
        obtain ⟨r', hr, -⟩ := (place_sub p (okT_skip0 hok.1)).1 z hp
        obtain ⟨e1, e2, e3, e4⟩ := part_split hr
        have hu := (okT_parts hok.2).2.2.2
        have htl : (t.take z).length = z := by rw [List.length_take]; omega
        have hc : (putL s t u z).take z = t.take z := by unfold putL; rw [List.take_append_of_le_length (by omega), List.take_of_length_le (by omega)]
        have hd : (putL s t u z).drop z = u ++ r' := by
          unfold putL
          rw [e2, List.drop_append_of_le_length (by omega), List.drop_of_length_le (by omega), List.nil_append]
        have hzc : z ≤ (putL s t u z).length := by unfold putL; rw [List.length_append]; omega
        obtain ⟨-, g2, g3⟩ := place_put (by omega) hzc hc hr hd hu p (okT_skip0 hok.1) hp
        rw [List.drop_zero] at g3
        have hokc : okT s (putL s t u z) = true := okT_of_skip (okT_parts hok.1).1 g3 hl
        rw [atE_some hokc g2, hd]
        have hs2 := skip_append s 1 u r' [] hu
        unfold partAt
        rw [hs2]; simp
      · rw [putE_4 hok hp hl] at h; cases h
  · rw [putE_1 hok] at h; cases h
/-- what is put into its own place changes nothing -/
theorem put_same {s : Sg} {t p : List Int} (h : (atE s t p).2 = 0) : putE s t p (atE s t p).1 = (t, 0) := by
  cases hx : okT s t with
  | false => rw [atE_no hx] at h; cases h
  | true =>
    cases hp : place s t p 0 with
    | none => rw [atE_none hx hp] at h; cases h
    | some z =>
      rw [atE_some hx hp]
      show putE s t p (partAt s (t.drop z)) = (t, 0)
      obtain ⟨r', hr, -⟩ := (place_sub p (okT_skip0 hx)).1 z hp
      obtain ⟨e1, e2, e3, e4⟩ := part_split hr
      have hpl : putL s t (partAt s (t.drop z)) z = t := by
        unfold putL
        rw [e2, ← (partAt_eq hr).1, List.take_append_drop]
      have hok := (okT_part hx hr).1
      rw [putE_0 ⟨hx, hok⟩ hp (by rw [hpl]; exact (okT_parts hx).2.2.1), hpl]
end Go.Proofs.YtpmnnoopoblpgaaGreat
