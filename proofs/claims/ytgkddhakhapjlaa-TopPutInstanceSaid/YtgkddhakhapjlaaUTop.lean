/- What unification makes of terms of valid logics, in plain words: renamed apart, unified, the canonical form; a hole in a term. No program is named. -/
import Derived.Test.YtgkddhakhapjlaaUMatch
import Derived.Test.YtgkddhakhapjlaaUniStep
import Derived.Test.YtgkddhakhapjlaaMath6
namespace Go.Proofs.Ytgkddhakhapjlaa

/-- a put that goes well, written out -/
theorem put_form {s : Sg} {t p u : List Int} (h : (putE s t p u).2 = 0) : okT s t = true ∧ okT s u = true ∧ ∃ z r', place s t p 0 = some z ∧ (putE s t p u).1 = t.take z ++ (u ++ r') ∧ okT s (t.take z ++ (u ++ r')) = true ∧ t = t.take z ++ (partAt s (t.drop z) ++ r') ∧ okT s (partAt s (t.drop z)) = true ∧ t.drop (z + (partAt s (t.drop z)).length) = r' := by
  by_cases hok : okT s t = true ∧ okT s u = true
  · cases hp : place s t p 0 with
    | none => rw [putE_8 hok hp] at h; cases h
    | some z =>
      by_cases hl : (putL s t u z).length ≤ 60
      · rw [putE_0 hok hp hl]
        obtain ⟨r', hr, -⟩ := (place_sub p (okT_skip0 hok.1)).1 z hp
        obtain ⟨e1, e2, e3, e4⟩ := part_split hr
        have hu := (okT_parts hok.2).2.2.2
        have htl : (t.take z).length = z := by rw [List.length_take]; omega
        have hc : (putL s t u z).take z = t.take z := by unfold putL; rw [List.take_append_of_le_length (by omega), List.take_of_length_le (by omega)]
        have hd : (putL s t u z).drop z = u ++ r' := by
          unfold putL
          rw [e2, List.drop_append_of_le_length (by omega), List.drop_of_length_le (by omega), List.nil_append]
        have hzc : z ≤ (putL s t u z).length := by unfold putL; rw [List.length_append]; omega
        obtain ⟨-, g2, g3⟩ := place_put (by omega) hzc hc hr hd hu p (okT_skip0 hok.1) hp
        rw [List.drop_zero] at g3
        have hokc : okT s (putL s t u z) = true := okT_of_skip (okT_parts hok.1).1 g3 hl
        have hpl : putL s t u z = t.take z ++ (u ++ r') := by unfold putL; rw [e2]
        rw [hpl] at hokc
        refine ⟨hok.1, hok.2, z, r', rfl, hpl, hokc, ?_, (okT_part hok.1 hr).1, e2⟩
        rw [← (partAt_eq hr).1, List.take_append_drop]
      · rw [putE_4 hok hp hl] at h; cases h
  · rw [putE_1 hok] at h; cases h
/-- a term with a hole has as instances the term with anything in that place -/
theorem hole_inst {s : Sg} {t p u : List Int} {c : Int} (hc : c < 0) (hct : c ∉ t) (h1 : (putE s t p [c]).2 = 0) (h2 : (putE s t p u).2 = 0) :
    okT s (putE s t p [c]).1 = true ∧ okT s (putE s t p u).1 = true ∧ okT s t = true ∧ instB s (putE s t p [c]).1 (putE s t p u).1 = true ∧ instB s (putE s t p [c]).1 t = true := by
  obtain ⟨k1, -, z, r, hz, e1, o1, f1, p1, d1⟩ := put_form h1
  obtain ⟨-, k2, z', r', hz', e2, o2, f2, p2, d2⟩ := put_form h2
  rw [hz] at hz'
  cases hz'
  rw [d1] at d2
  subst d2
  have key : ∀ v : List Int, okT s v = true → instB s (t.take z ++ ([c] ++ r)) (t.take z ++ (v ++ r)) = true := by
    intro v hv
    refine instB_yes (η := fun n => if n = c then v else [n]) (fun n hn => ?_) ?_
    · show W1 s (if n = c then v else [n])
      split
      · exact okT_w1 hv
      · exact W1.var hn
    · have hid : ∀ l : List Int, c ∉ l → ap (fun n => if n = c then v else [n]) l = l := fun l hl => ap_id (fun n hn _ => if_neg (fun e => hl (by rw [← e]; exact hn)))
      rw [ap_append, ap_append, hid (t.take z) (fun hm => hct (List.mem_of_mem_take hm)), hid r (fun hm => hct (by rw [f1]; simp [hm])), ap_one hc, if_pos rfl]
  rw [e1, e2]
  refine ⟨o1, o2, k1, key u k2, ?_⟩
  have := key _ p1
  rw [← f1] at this
  exact this

/-- the variables of a term moved out of the way -/
def apN (n : Int) : Int := if n < 0 then n - 12 else n
def apartT (t : List Int) : List Int := t.map apN
theorem ap_apart {η : Int → List Int} {t : List Int} : ap η (apartT t) = ap (fun n => η (n - 12)) t := by
  induction t with
  | nil => rfl
  | cons n r ih =>
    show ap η (apN n :: apartT r) = _
    by_cases h : n < 0
    · rw [ap_neg h, apN, if_pos h, ap_neg (by omega), ih]
    · rw [ap_pos h, apN, if_neg h, ap_pos h, ih]
theorem apartT_eq (t : List Int) : apartT t = ap (fun n => [n - 12]) t := by
  induction t with
  | nil => rfl
  | cons n r ih =>
    show apN n :: apartT r = _
    by_cases h : n < 0
    · rw [ap_neg h, apN, if_pos h, ih]; rfl
    · rw [ap_pos h, apN, if_neg h, ih]
theorem apartT_w {s : Sg} {t : List Int} (h : W1 s t) : W1 s (apartT t) := by
  rw [apartT_eq]; exact h.ap (fun n hn => W1.var (by omega))
theorem apartT_len (t : List Int) : (apartT t).length = t.length := by unfold apartT; rw [List.length_map]
theorem okT_rg {s : Sg} {t : List Int} (h : okT s t = true) : ∀ n ∈ t, n < 0 → -12 ≤ n := fun n hn _ => (codeOk_bd (okT_parts h).1 (skip_codes s 1 t (okT_parts h).2.2.2 n hn)).1
theorem okT_Rg {s : Sg} {t : List Int} (h : okT s t = true) : Rg t := fun n hn h0 => by have := okT_rg h n hn h0; omega
theorem apartT_rg {s : Sg} {t : List Int} (h : okT s t = true) : Rg (apartT t) := fun n hn h0 => by
  unfold apartT at hn
  obtain ⟨m, hm, rfl⟩ := List.mem_map.1 hn
  unfold apN at h0 ⊢
  split
  · have := okT_rg h m hm ‹_›; omega
  · rename_i hh; rw [if_neg hh] at h0; omega
noncomputable def meetE (s : Sg) (a b : List Int) : List Int × Int := if okT s a = true ∧ okT s b = true then uniE s a (apartT b) a else ([], 1)
noncomputable def meetB (s : Sg) (a b : List Int) : Bool := okT s a && okT s b && uniB s a (apartT b)
noncomputable def unifB (s : Sg) (a b : List Int) : Bool := okT s a && okT s b && uniB s a b
theorem uniB_of_unified {s : Sg} {a b : List Int} (h : (∃ θ, IsMgu s a b θ)) : uniB s a b = true := by obtain ⟨θ, h⟩ := h; exact uniB_some h
end Go.Proofs.Ytgkddhakhapjlaa
