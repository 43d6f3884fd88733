/- The statement DepsLeansSaid: for every input DepsLeans returns true and leaves its arguments as they were. No condition. -/
import Derived.Test.YtpmnnoopoblpgaaGreatMlA
import Derived.Test.YtpmnnoopoblpgaaGreatMlE
import Derived.Test.YtpmnnoopoblpgaaGreatMlH
import Derived.Lib.MinMaxS
import Derived.Test.YtpmnnoopoblpgaaGreatBase
import Derived.ProofKit
import Derived.LaidMore
import Derived.OpenShut
import Derived.Stop.Joined
import Derived.ChangeMaps5
import Derived.Test.YtpmnnoopoblpgaaGreatMlD
import Derived.Test.YtpmnnoopoblpgaaGreatLit
import Derived.Test.YtpmnnoopoblpgaaGreatMlJ
import Derived.Test.YtpmnnoopoblpgaaGreatMlK
/- Each thing follows from itself: what the proof of the laws on kernel says, in plain words. No program is named. -/
namespace Go.Proofs.YtpmnnoopoblpgaaGreat

theorem uniE_by {s : Sg} (hok : okSign s = true) {a b : List Int} (ha : W1 s a) (hb : W1 s b) (ra : Rg a) (rb : Rg b) {ξ : Int → List Int} (hξ : Wsub s ξ) (he : ap ξ a = ap ξ b)
  (hm : ∀ η, Wsub s η → ap η a = ap η b → ∀ n, n < 0 → ap η (ξ n) = η n) (t : List Int) : uniE s a b t = madeE ξ t := by
 obtain ⟨θ, hθ⟩ := mgu_ex hok ha hb ra rb hξ he
 have e2 : ap θ (ap ξ t) = ap θ t := by rw [ap_ap]; exact ap_congr (fun n _ hn => hm θ hθ.th hθ.eq n hn)
 obtain ⟨c1, c2, c3⟩ := canon_two hθ.th hξ (u1 := ap θ t) (u2 := ap ξ t) (hθ.most hξ he t) e2
 rw [uniE_some hθ]
 unfold madeE
 rw [c1, c2, c3]
def aw4S : Sg := [(⟨#[67]⟩, 2)]
def aw4K : List Int := [0, -1, 0, -2, -1]
def aw4C : List Int := [0, 0, -1, 0, -2, -3, 0, 0, -1, -2, 0, -1, -3]
def aw4G : List (List Int) := [aw4K, aw4C]
def aw4P : List Stp := [(1, 1, 0), (1, 0, 0), (2, 0, 1), (2, 2, 1)]
def aw4D : List Int := [0, 0, -1, -2, 0, -1, -1]
theorem aw4_one : detE aw4S aw4C aw4K = (aw4D, 0) := by
 have hC : okT aw4S aw4C = true := by decide +kernel
 have hK : okT aw4S aw4K = true := by decide +kernel
 have hA : W1 aw4S [0, -1, 0, -2, -3] := by unfold W1; decide +kernel
 have hA' : okT aw4S [0, -1, 0, -2, -3] = true := by decide +kernel
 rw [detE_at hC hK (A := [0, -1, 0, -2, -3]) (B := [0, 0, -1, -2, 0, -1, -3]) rfl hA]
 have hξ : Wsub aw4S (fun n => if n = -13 then [-1] else if n = -14 then [-2] else if n = -3 then [-1] else [n]) := fun n hn => by
  show W1 aw4S (if n = -13 then [-1] else if n = -14 then [-2] else if n = -3 then [-1] else [n])
  split
  ·exact W1.var (by decide)
  ·split
   ·exact W1.var (by decide)
   ·split
    ·exact W1.var (by decide)
    ·exact W1.var hn
 rw [uniE_by (okT_parts hC).1 hA (apartT_w (okT_w1 hK)) (okT_Rg hA') (apartT_rg hK) hξ (by decide +kernel) (fun η hw he n hn => ?_)]
 ·decide +kernel
 ·have e1 : ap η [0, -1, 0, -2, -3] = 0 :: (η (-1) ++ (0 :: (η (-2) ++ η (-3)))) := by
   rw [ap_pos (by decide), ap_neg (by decide), ap_pos (by decide), ap_neg (by decide), ap_one (by decide)]
  have e2 : ap η (apartT aw4K) = 0 :: (η (-13) ++ (0 :: (η (-14) ++ η (-13)))) := by
   show ap η [0, -13, 0, -14, -13] = _
   rw [ap_pos (by decide), ap_neg (by decide), ap_pos (by decide), ap_neg (by decide), ap_one (by decide)]
  rw [e1, e2] at he
  obtain ⟨q1, q2⟩ := W1.uniq (hw _ (by decide)) (hw _ (by decide)) (List.cons.inj he).2
  obtain ⟨q3, q4⟩ := W1.uniq (hw _ (by decide)) (hw _ (by decide)) (List.cons.inj q2).2
  show ap η (if n = -13 then [-1] else if n = -14 then [-2] else if n = -3 then [-1] else [n]) = η n
  split
  ·rename_i h; subst h; rw [ap_one (by decide), q1]
  ·split
   ·rename_i h; subst h; rw [ap_one (by decide), q3]
   ·split
    ·rename_i h; subst h; rw [ap_one (by decide), q4, q1]
    ·rw [ap_one hn]
theorem aw4_last : detE aw4S aw4D aw4K = ([0, -1, -1], 0) := by
 have hC : okT aw4S aw4D = true := by decide +kernel
 have hK : okT aw4S aw4K = true := by decide +kernel
 have hA : W1 aw4S [0, -1, -2] := by unfold W1; decide +kernel
 have hA' : okT aw4S [0, -1, -2] = true := by decide +kernel
 rw [detE_at hC hK (A := [0, -1, -2]) (B := [0, -1, -1]) rfl hA]
 have hξ : Wsub aw4S (fun n => if n = -13 then [-1] else if n = -2 then [0, -14, -1] else [n]) := fun n hn => by
  show W1 aw4S (if n = -13 then [-1] else if n = -2 then [0, -14, -1] else [n])
  split
  ·exact W1.var (by decide)
  ·split
   ·unfold W1; decide +kernel
   ·exact W1.var hn
 rw [uniE_by (okT_parts hC).1 hA (apartT_w (okT_w1 hK)) (okT_Rg hA') (apartT_rg hK) hξ (by decide +kernel) (fun η hw he n hn => ?_)]
 ·decide +kernel
 ·have e1 : ap η [0, -1, -2] = 0 :: (η (-1) ++ η (-2)) := by
   rw [ap_pos (by decide), ap_neg (by decide), ap_one (by decide)]
  have e2 : ap η (apartT aw4K) = 0 :: (η (-13) ++ (0 :: (η (-14) ++ η (-13)))) := by
   show ap η [0, -13, 0, -14, -13] = _
   rw [ap_pos (by decide), ap_neg (by decide), ap_pos (by decide), ap_neg (by decide), ap_one (by decide)]
  rw [e1, e2] at he
  obtain ⟨q1, q2⟩ := W1.uniq (hw _ (by decide)) (hw _ (by decide)) (List.cons.inj he).2
  show ap η (if n = -13 then [-1] else if n = -2 then [0, -14, -1] else [n]) = η n
  split
  ·rename_i h; subst h; rw [ap_one (by decide), q1]
  ·split
   ·rename_i h; subst h
    rw [ap_pos (by decide), ap_neg (by decide), ap_one (by decide), q2, q1]
   ·rw [ap_one hn]
theorem aw4_says : saysE aw4S aw4G aw4P = ([0, -1, -1], 0) := by
 have h1 : stepE aw4S aw4G [] (1, 1, 0) = (aw4C, 0) := by unfold stepE; rw [if_pos rfl]; decide +kernel
 have h2 : stepE aw4S aw4G [aw4C] (1, 0, 0) = (aw4K, 0) := by unfold stepE; rw [if_pos rfl]; decide +kernel
 have h3 : stepE aw4S aw4G [aw4C, aw4K] (2, 0, 1) = (aw4D, 0) := by unfold stepE; rw [if_neg (by decide)]; exact aw4_one
 have h4 : stepE aw4S aw4G [aw4C, aw4K, aw4D] (2, 2, 1) = ([0, -1, -1], 0) := by unfold stepE; rw [if_neg (by decide)]; exact aw4_last
 have hr : runL aw4S aw4G aw4P [] = ([aw4C, aw4K, aw4D, [0, -1, -1]], 0) := by
  unfold aw4P
  rw [runL, h1, if_pos rfl, List.nil_append, runL, h2, if_pos rfl, List.cons_append, List.nil_append, runL, h3, if_pos rfl, List.cons_append, List.cons_append, List.nil_append, runL, h4, if_pos rfl, runL]
  rfl
 unfold saysE
 rw [if_pos (by decide +kernel), hr]
 rfl
end Go.Proofs.YtpmnnoopoblpgaaGreat

/- The chapter's example of a library, in plain words: it is sound, i leans on k and s, and it breaks if k says that each thing follows from itself. No program is named. -/
namespace Go.Proofs.YtpmnnoopoblpgaaGreat

def nK : ByteArray := ⟨#[107]⟩
def nS : ByteArray := ⟨#[115]⟩
def nI : ByteArray := ⟨#[105]⟩
def nAnn : ByteArray := ⟨#[97, 110, 110]⟩
def nBob : ByteArray := ⟨#[98, 111, 98]⟩
def skI : List Int := [0, -1, -1]
def skiL : List Ent := [(nK, nAnn, aw4K, [], []), (nS, nAnn, aw4C, [], []), (nI, nBob, skI, [nK, nS], aw4P)]
theorem ski_ok : okLib aw4S skiL = true := by decide +kernel
theorem ins_self {s : Sg} {a : List Int} : instB s a a = true := instB_iff.2 ⟨fun n => [n], fun _ hn => W1.var hn, ap_id (fun _ _ _ => rfl)⟩
theorem ski_at {x : ByteArray} : (atN skiL x).isSome = true ↔ x = nK ∨ x = nS ∨ x = nI := by
 unfold atN skiL
 rw [List.findIdx?_isSome]
 simp only [List.any_cons, List.any_nil, Bool.or_false, Bool.or_eq_true, eNm]
 constructor
 ·rintro (h | h | h)
  ·exact .inl (of_decide_eq_true h).symm
  ·exact .inr (.inl (of_decide_eq_true h).symm)
  ·exact .inr (.inr (of_decide_eq_true h).symm)
 ·rintro (h | h | h)
  ·exact .inl (decide_eq_true h.symm)
  ·exact .inr (.inl (decide_eq_true h.symm))
  ·exact .inr (.inr (decide_eq_true h.symm))
theorem ski_uses (n : ByteArray) : usesN skiL n = if n = nI then [nK, nS] else [] := by
 cases h : atN skiL n with
 | none =>
  unfold usesN
  rw [h]
  by_cases e : n = nI
  ·have : (atN skiL n).isSome = true := ski_at.2 (.inr (.inr e))
   rw [h] at this; cases this
  ·rw [if_neg e]
 | some i =>
  obtain ⟨hi, e⟩ := atN_some h
  unfold usesN
  rw [h]
  match i, hi, e with
  | 0, _, e => subst e; rfl
  | 1, _, e => subst e; rfl
  | 2, _, e => subst e; rfl
theorem ski_rch {may : ByteArray → Prop} {n u : ByteArray} (h : Rch (usesN skiL) may n u) : n = nI ∧ (u = nK ∨ u = nS) := by
 induction h with
 | one h1 h2 =>
  rw [ski_uses] at h1
  by_cases e : n = nI
  ·rw [if_pos e] at h1; exact ⟨e, by simpa using h1⟩
  ·rw [if_neg e] at h1; cases h1
 | more h0 h1 h2 ih =>
  rw [ski_uses] at h1
  rcases ih.2 with rfl | rfl
  ·rw [if_neg (by decide)] at h1; cases h1
  ·rw [if_neg (by decide)] at h1; cases h1
theorem ski_loop (x : ByteArray) : loopB skiL x = false := by
 cases h : loopB skiL x with
 | false => rfl
 | true =>
  unfold loopB at h
  obtain ⟨h1, h2⟩ := ski_rch (rchB_iff.1 h)
  subst h1
  rcases h2 with h2 | h2 <;> exact absurd h2 (by decide)
theorem ski_leans (x : ByteArray) : (rchB skiL (fun _ => true) nI x && (atN skiL x).isSome) = true ↔ x ∈ [nK, nS] := by
 rw [Bool.and_eq_true, rchB_iff, ski_at]
 constructor
 ·rintro ⟨h, -⟩
  have := (ski_rch h).2
  simpa using this
 ·intro h
  have hu : x ∈ usesN skiL nI := by rw [ski_uses, if_pos rfl]; exact h
  refine ⟨.one hu rfl, ?_⟩
  simp at h
  rcases h with h | h
  ·exact .inl h
  ·exact .inr (.inl h)
theorem ski_asc : AscN [nK, nS] := by
 refine List.Pairwise.cons (fun y hy => ?_) (List.pairwise_singleton _ _)
 rw [List.mem_singleton] at hy
 subst hy
 show nK.data.toList < nS.data.toList
 decide
theorem strX_ax {s : Sg} {l : List Ent} {i : Nat} (h : ePf (l.getD i default) = []) : strX s l i = some (eSays (l.getD i default)) := by unfold strX; rw [if_pos h]
theorem ski_str : strX aw4S skiL 2 = some skI := by
 have e1 : ePf (skiL.getD 2 default) = aw4P := rfl
 have e2 : eUses (skiL.getD 2 default) = [nK, nS] := rfl
 have e3 : givF skiL [nK, nS] = aw4G := rfl
 have e4 : inAll skiL [nK, nS] = true := rfl
 unfold strX
 rw [e1, e2, if_neg (by decide), if_pos e4, e3, aw4_says]
 rfl
theorem ski_hold : ∀ i, i < 3 → holdX aw4S skiL i = true := by
 intro i hi
 have h0 : ∀ t, strX aw4S skiL i = some t → t = eSays (skiL.getD i default) → okT aw4S t = true → holdX aw4S skiL i = true := fun t h1 h2 h3 => by
  unfold holdX
  rw [h1]
  simp only
  rw [← h2, h3, ins_self]
  rfl
 match i, hi with
 | 0, _ => exact h0 _ (strX_ax rfl) rfl (by decide +kernel)
 | 1, _ => exact h0 _ (strX_ax rfl) rfl (by decide +kernel)
 | 2, _ => exact h0 _ ski_str rfl (by decide +kernel)
theorem ski_inside : ∀ x ∈ skiL, ∀ u ∈ eUses x, (atN skiL u).isSome = true := by
 intro x hx u hu
 have : skiL.all (fun x => (eUses x).all (fun u => (atN skiL u).isSome)) = true := by decide
 rw [List.all_eq_true] at this
 have := this x hx
 rw [List.all_eq_true] at this
 exact this u hu
/-! if k says that each thing follows from itself -/
def aw6G : List (List Int) := [skI, aw4C]
def aw6D : List Int := [0, 0, 0, -1, -2, -1, 0, 0, -1, -2, -2]
theorem aw6_one : detE aw4S aw4C skI = (aw6D, 0) := by
 have hC : okT aw4S aw4C = true := by decide +kernel
 have hK : okT aw4S skI = true := by decide +kernel
 have hA : W1 aw4S [0, -1, 0, -2, -3] := by unfold W1; decide +kernel
 have hA' : okT aw4S [0, -1, 0, -2, -3] = true := by decide +kernel
 rw [detE_at hC hK (A := [0, -1, 0, -2, -3]) (B := [0, 0, -1, -2, 0, -1, -3]) rfl hA]
 have hξ : Wsub aw4S (fun n => if n = -13 then [0, -2, -3] else if n = -1 then [0, -2, -3] else [n]) := fun n hn => by
  show W1 aw4S (if n = -13 then [0, -2, -3] else if n = -1 then [0, -2, -3] else [n])
  split
  ·unfold W1; decide +kernel
  ·split
   ·unfold W1; decide +kernel
   ·exact W1.var hn
 rw [uniE_by (okT_parts hC).1 hA (apartT_w (okT_w1 hK)) (okT_Rg hA') (apartT_rg hK) hξ (by decide +kernel) (fun η hw he n hn => ?_)]
 ·decide +kernel
 ·have e1 : ap η [0, -1, 0, -2, -3] = 0 :: (η (-1) ++ (0 :: (η (-2) ++ η (-3)))) := by
   rw [ap_pos (by decide), ap_neg (by decide), ap_pos (by decide), ap_neg (by decide), ap_one (by decide)]
  have e2 : ap η (apartT skI) = 0 :: (η (-13) ++ η (-13)) := by
   show ap η [0, -13, -13] = _
   rw [ap_pos (by decide), ap_neg (by decide), ap_one (by decide)]
  have e3 : ap η [0, -2, -3] = 0 :: (η (-2) ++ η (-3)) := by
   rw [ap_pos (by decide), ap_neg (by decide), ap_one (by decide)]
  rw [e1, e2] at he
  obtain ⟨q1, q2⟩ := W1.uniq (hw _ (by decide)) (hw _ (by decide)) (List.cons.inj he).2
  show ap η (if n = -13 then [0, -2, -3] else if n = -1 then [0, -2, -3] else [n]) = η n
  split
  ·rename_i h; subst h; rw [e3, ← q2]
  ·split
   ·rename_i h; subst h; rw [e3, q1, ← q2]
   ·rw [ap_one hn]
theorem aw6_last : (detE aw4S aw6D skI).2 = 8 := by
 have hC : okT aw4S aw6D = true := by decide +kernel
 have hK : okT aw4S skI = true := by decide +kernel
 have hA : W1 aw4S [0, 0, -1, -2, -1] := by unfold W1; decide +kernel
 rw [detE_at hC hK (A := [0, 0, -1, -2, -1]) (B := [0, 0, -1, -2, -2]) rfl hA]
 rw [uniE_none (fun η hw he => ?_)]
 have e1 : ap η [0, 0, -1, -2, -1] = 0 :: ((0 :: (η (-1) ++ η (-2))) ++ η (-1)) := by
  rw [ap_pos (by decide), ap_pos (by decide), ap_neg (by decide), ap_neg (by decide), ap_one (by decide)]
  simp
 have e2 : ap η (apartT skI) = 0 :: (η (-13) ++ η (-13)) := by
  show ap η [0, -13, -13] = _
  rw [ap_pos (by decide), ap_neg (by decide), ap_one (by decide)]
 rw [e1, e2] at he
 have h1 : W1 aw4S (0 :: (η (-1) ++ η (-2))) := by
  have := (show W1 aw4S [0, -1, -2] by unfold W1; decide +kernel).ap hw
  rw [ap_pos (by decide), ap_neg (by decide), ap_one (by decide)] at this
  exact this
 obtain ⟨q1, q2⟩ := W1.uniq h1 (hw _ (by decide)) (List.cons.inj he).2
 have := congrArg List.length (q1.trans q2.symm)
 simp at this
 omega
theorem aw6_says : (saysE aw4S aw6G aw4P).2 = 8 := by
 have h1 : stepE aw4S aw6G [] (1, 1, 0) = (aw4C, 0) := by unfold stepE; rw [if_pos rfl]; decide +kernel
 have h2 : stepE aw4S aw6G [aw4C] (1, 0, 0) = (skI, 0) := by unfold stepE; rw [if_pos rfl]; decide +kernel
 have h3 : stepE aw4S aw6G [aw4C, skI] (2, 0, 1) = (aw6D, 0) := by unfold stepE; rw [if_neg (by decide)]; exact aw6_one
 have h4 : (stepE aw4S aw6G [aw4C, skI, aw6D] (2, 2, 1)).2 = 8 := by unfold stepE; rw [if_neg (by decide)]; exact aw6_last
 have hr : (runL aw4S aw6G aw4P []).2 = 8 := by
  unfold aw4P
  rw [runL, h1, if_pos rfl, List.nil_append, runL, h2, if_pos rfl, List.cons_append, List.nil_append, runL, h3, if_pos rfl, List.cons_append, List.cons_append, List.nil_append, runL, if_neg (by rw [h4]; decide)]
  exact h4
 unfold saysE
 rw [if_pos (by decide +kernel), if_neg (by rw [hr]; decide)]
 exact hr
def skiL2 : List Ent := [(nK, nAnn, skI, [], []), (nS, nAnn, aw4C, [], []), (nI, nBob, skI, [nK, nS], aw4P)]
theorem ski2_hold : holdX aw4S skiL2 2 = false := by
 have e1 : ePf (skiL2.getD 2 default) = aw4P := rfl
 have e2 : eUses (skiL2.getD 2 default) = [nK, nS] := rfl
 have e3 : givF skiL2 [nK, nS] = aw6G := rfl
 have e4 : inAll skiL2 [nK, nS] = true := rfl
 have : strX aw4S skiL2 2 = none := by
  unfold strX
  rw [e1, e2, if_neg (by decide), if_pos e4, e3, if_neg (by rw [aw6_says]; decide)]
 unfold holdX
 rw [this]
theorem ski2_ax : ∀ i, i < 2 → holdX aw4S skiL2 i = true := by
 intro i hi
 have h0 : ∀ t, strX aw4S skiL2 i = some t → t = eSays (skiL2.getD i default) → okT aw4S t = true → holdX aw4S skiL2 i = true := fun t h1 h2 h3 => by
  unfold holdX
  rw [h1]
  simp only
  rw [← h2, h3, ins_self]
  rfl
 match i, hi with
 | 0, _ => exact h0 _ (strX_ax rfl) rfl (by decide +kernel)
 | 1, _ => exact h0 _ (strX_ax rfl) rfl (by decide +kernel)
theorem ski_breaks (x : ByteArray) : chB skiL (fun k => holdX aw4S skiL k && !holdX aw4S skiL2 k) x = true ↔ x ∈ [nI] := by
 rw [chB_iff]
 constructor
 ·rintro ⟨i, hi, h1, h2⟩
  match i, hi, h1, h2 with
  | 0, _, h1, _ => rw [ski2_ax 0 (by decide)] at h1; simp at h1
  | 1, _, h1, _ => rw [ski2_ax 1 (by decide)] at h1; simp at h1
  | 2, _, _, h2 => rw [← h2]; exact List.mem_singleton.2 rfl
 ·intro h
  rw [List.mem_singleton] at h
  subst h
  exact ⟨2, by decide, by rw [ski_hold 2 (by decide), ski2_hold]; rfl, rfl⟩
end Go.Proofs.YtpmnnoopoblpgaaGreat

/- Names that are a circle, told step by step. No program is named. -/
namespace Go.Proofs.YtpmnnoopoblpgaaGreat

end Go.Proofs.YtpmnnoopoblpgaaGreat

/- Facts of the program's types that the rows over the kernel want; the start of a row that lists variables. -/
namespace Go.Proofs.YtpmnnoopoblpgaaGreat
open Go Go.RowKit Go.ChangeShapes Go.WideShapes Go.ChangeAt Go.Deep

theorem gives3 {P : Program} {t : TypeId} {α β γ : Type} {E : Enc α} {F : Enc β} {G : Enc γ} {f0 f1 f2 : Field} (ht : P.underlying t = some (.struct #[f0, f1, f2])) (h0 : f0.offset = 0) (h1 : f1.offset = E.size) (h2 : f2.offset = E.size + F.size) (hc : P.cellsOf t = E.size + (F.size + G.size))
  (hc0 : P.cellsOf f0.type = E.size) (hc1 : P.cellsOf f1.type = F.size) (hc2 : P.cellsOf f2.type = G.size) (g0 : Gives P f0.type E) (g1 : Gives P f1.type F) (g2 : Gives P f2.type G) : Gives P t (pairE E (pairE F G)) := by
 intro H enc w base spare held n cs x h
 obtain ⟨y0, y1, y2, n', _, hl, r0, r1, r2⟩ := trod_struct3 ht h
 obtain ⟨a, ha⟩ := g0 H enc w base spare held n' _ _ r0
 obtain ⟨b, hb⟩ := g1 H enc w base spare held n' _ _ r1
 obtain ⟨c, hcc⟩ := g2 H enc w base spare held n' _ _ r2
 refine ⟨(a, b, c), _, _, ?_, ha, _, _, rfl, hb, hcc⟩
 rw [h0, h1, h2, hc0, hc1, hc2, List.drop_zero]
 have e1 : (cs.drop (E.size + F.size)).take G.size = cs.drop (E.size + F.size) := List.take_of_length_le (by simp; omega)
 rw [e1, ← List.drop_drop, List.take_append_drop, List.take_append_drop]
theorem gStp : Gives Tryz.prog 117 stpE := gives3 Tryz.underlying117 rfl rfl rfl (by kernel_rfl) (by kernel_rfl) (by kernel_rfl) (by kernel_rfl) gInt gInt gInt
theorem gSteps : Gives Tryz.prog 35 (slE stpE) := gives_slice Tryz.underlying35 (by kernel_rfl) gStp
end Go.Proofs.YtpmnnoopoblpgaaGreat

/- Facts of the program's types that the rows over libraries want. -/
namespace Go.Proofs.YtpmnnoopoblpgaaGreat
open Go Go.RowKit Go.ChangeShapes Go.WideShapes Go.ChangeAt Go.Deep

theorem gives5 {P : Program} {t : TypeId} {α β γ δ ε : Type} {E : Enc α} {F : Enc β} {G : Enc γ} {J : Enc δ} {K : Enc ε} {f0 f1 f2 f3 f4 : Field} (ht : P.underlying t = some (.struct #[f0, f1, f2, f3, f4])) (h0 : f0.offset = 0) (h1 : f1.offset = E.size) (h2 : f2.offset = E.size + F.size) (h3 : f3.offset = E.size + F.size + G.size) (h4 : f4.offset = E.size + F.size + G.size + J.size)
  (hc : P.cellsOf t = E.size + (F.size + (G.size + (J.size + K.size)))) (hc0 : P.cellsOf f0.type = E.size) (hc1 : P.cellsOf f1.type = F.size) (hc2 : P.cellsOf f2.type = G.size) (hc3 : P.cellsOf f3.type = J.size) (hc4 : P.cellsOf f4.type = K.size)
  (g0 : Gives P f0.type E) (g1 : Gives P f1.type F) (g2 : Gives P f2.type G) (g3 : Gives P f3.type J) (g4 : Gives P f4.type K) : Gives P t (pairE E (pairE F (pairE G (pairE J K)))) := by
 intro H enc w base spare held n cs x h
 obtain ⟨xs, n', _, rfl, hl, hlen, hf⟩ := DataW.trod_struct ht h
 match xs, hlen with
 | [y0, y1, y2, y3, y4], _ =>
  have r0 := hf 0 f0 rfl
  have r1 := hf 1 f1 rfl
  have r2 := hf 2 f2 rfl
  have r3 := hf 3 f3 rfl
  have r4 := hf 4 f4 rfl
  simp only [List.getElem?_cons_zero, List.getElem?_cons_succ] at r0 r1 r2 r3 r4
  obtain ⟨a, ha⟩ := g0 H enc w base spare held n' _ _ r0
  obtain ⟨b, hb⟩ := g1 H enc w base spare held n' _ _ r1
  obtain ⟨c, hcc⟩ := g2 H enc w base spare held n' _ _ r2
  obtain ⟨d, hd⟩ := g3 H enc w base spare held n' _ _ r3
  obtain ⟨e, he⟩ := g4 H enc w base spare held n' _ _ r4
  refine ⟨(a, b, c, d, e), _, _, ?_, ha, _, _, rfl, hb, _, _, rfl, hcc, _, _, rfl, hd, he⟩
  rw [h0, h1, h2, h3, h4, hc0, hc1, hc2, hc3, hc4, List.drop_zero]
  have e1 : (cs.drop (E.size + F.size + G.size + J.size)).take K.size = cs.drop (E.size + F.size + G.size + J.size) := List.take_of_length_le (by simp; omega)
  have e2 : cs.drop (E.size + F.size + G.size + J.size) = (cs.drop (E.size + F.size + G.size)).drop J.size := by rw [List.drop_drop]
  have e3 : cs.drop (E.size + F.size + G.size) = (cs.drop (E.size + F.size)).drop G.size := by rw [List.drop_drop]
  have e4 : cs.drop (E.size + F.size) = (cs.drop E.size).drop F.size := by rw [List.drop_drop]
  rw [e1, e2, List.take_append_drop, e3, List.take_append_drop, e4, List.take_append_drop, List.take_append_drop]
theorem gStrs : Gives Tryz.prog 29 (slE strE) := gives_slice Tryz.underlying29 (by kernel_rfl) gStr
theorem gEnt : Gives Tryz.prog 37 entE := gives5 Tryz.underlying37 rfl rfl rfl rfl rfl (by kernel_rfl) (by kernel_rfl) (by kernel_rfl) (by kernel_rfl) (by kernel_rfl) (by kernel_rfl) gStr gStr gTerm gStrs gSteps
theorem gLib : Gives Tryz.prog 24 (slE entE) := gives_slice Tryz.underlying24 (by kernel_rfl) gEnt
end Go.Proofs.YtpmnnoopoblpgaaGreat

/- Walks: heavy. -/
namespace Go.Proofs.YtpmnnoopoblpgaaGreat
open Go Go.RowKit Go.Maps

def hvRel (l : List Ent) (w : World) (i : Value) (wr : World) : Prop := ∃ k : Nat, i = .int .i64 k ∧ k ≤ l.length ∧ Below w.heap.size w wr
def hvRel2 (N : Nat) (w : World) (i : Value) (wr : World) : Prop := ∃ j : Nat, i = .int .i64 j ∧ j ≤ N ∧ Below w.heap.size w wr
def HvRet (l : List Ent) (w : World) (e : Ending) (w' : World) : Prop := ∃ r : Bool, e = .returned (.bool r) ∧ (r = false → l.length ≤ 100) ∧ Below w.heap.size w w'
theorem HvRet.t {l : List Ent} {w w' : World} (hb : Below w.heap.size w w') : HvRet l w (.returned (.bool true)) w' := ⟨true, rfl, (fun h => by cases h), hb⟩
set_option maxRecDepth 100000 in
set_option maxHeartbeats 8000000 in
theorem heavy_any {S1 S2 : Nat → Prop} (sa la : Option Addr) (sc lc : Nat) (s : Sg) (l : List Ent) (w : World) (h1 : Sign S1 w sa sc s) (h2 : LibL S2 w la lc l) :
  Calls Tryz.prog 12 #[.slice sa s.length sc, .slice la l.length lc] w (HvRet l w) := by
 have m := h2.le
 have m1 := h1.le
 have h2H := Lib.hid h2
 clear h1 h2
 generalize hns : s.length = ns at *
 clear hns
 by_cases a1 : 20 < ns
 ·have b1 : ((20 : Int) < (ns : Int)) = True := eq_true (by omega)
  go_enter Tryz.func12, Tryz.ntmps12
  go_wp2_with fail
  go_ret
  exact HvRet.t (.refl _ _)
 ·have b1 : ((20 : Int) < (ns : Int)) = False := eq_false (by omega)
  by_cases a2 : 10 < l.length
  ·have b2 : ((10 : Int) < (l.length : Int)) = True := eq_true (by omega)
   by_cases a3 : l.length ≤ 60
   ·have b3 : ((l.length : Int) ≤ 60) = True := eq_true (by omega)
    go_enter Tryz.func12, Tryz.ntmps12
    go_wp2_with fail
    go_ret
    exact HvRet.t (.refl _ _)
   ·have b3 : ((l.length : Int) ≤ 60) = False := eq_false (by omega)
    by_cases a4 : 100 < l.length
    ·have b4 : ((100 : Int) < (l.length : Int)) = True := eq_true (by omega)
     go_enter Tryz.func12, Tryz.ntmps12
     go_wp2_with fail
     go_ret
     exact HvRet.t (.refl _ _)
    ·have b4 : ((100 : Int) < (l.length : Int)) = False := eq_false (by omega)
     go_enter Tryz.func12, Tryz.ntmps12
     have hl100 := Lib.hid (show l.length ≤ 100 by omega)
     go_wp2_with fail
     go_loopw [5] (fun i wr => hvRel l w i wr) (fun i _ => l.length - (intOf i).toNat)
     case atStart => exact ⟨0, rfl, Nat.zero_le _, .refl _ _⟩
     case round =>
      obtain ⟨k, rfl, hk, hB⟩ := hrel
      by_cases hlt : k < l.length
      ·obtain ⟨b, off, a1, c1, a2, c2, a3, c3, rfl, -, s0, s1, s2, s3, s4, z1, z2, hI, hU, hP⟩ := (h2H.out.below hB).ent k hlt
       obtain ⟨W, hW⟩ : ∃ W, wr.alloc (.cells #[.string (eNm l[k]), .string (eBy l[k]), .slice a1 (eSays l[k]).length c1, .slice a2 (eUses l[k]).length c2, .slice a3 (ePf l[k]).length c3] 37) = W := ⟨_, rfl⟩
       have hBW : Below wr.heap.size wr W := by rw [← hW]; exact below1 wr _
       have p0 : W.cell? ⟨wr.heap.size, 0, none⟩ = some (.string (eNm l[k])) := by rw [← hW]; clear hW; go_simp
       have p1 : W.cell? ⟨wr.heap.size, 1, none⟩ = some (.string (eBy l[k])) := by rw [← hW]; clear hW; go_simp
       have p2 : W.cell? ⟨wr.heap.size, 2, none⟩ = some (.slice a1 (eSays l[k]).length c1) := by rw [← hW]; clear hW; go_simp
       have q3 : W.cell? ⟨wr.heap.size, 3, none⟩ = some (.slice a2 (eUses l[k]).length c2) := by rw [← hW]; clear hW; go_simp
       have p4 : W.cell? ⟨wr.heap.size, 4, none⟩ = some (.slice a3 (ePf l[k]).length c3) := by rw [← hW]; clear hW; go_simp
       have hUW := hU.below hBW
       obtain ⟨us, hus⟩ : ∃ us, eUses l[k] = us := ⟨_, rfl⟩
       rw [hus] at hUW s3 q3 hW
       obtain ⟨n2, hn2⟩ : ∃ n2, us.length = n2 := ⟨_, rfl⟩
       have hm2 := hUW.le
       rw [hn2] at s3 q3 hW hm2
       have hUH := Lib.hid hUW
       have husH := Lib.hid hn2
       have hB2H := Lib.hid (bcall hB hBW)
       have m3 := hI.le
       have m4 := hP.le
       clear hI hU hP hUW hB hBW hus hn2
       generalize eNm l[k] = nm at *
       generalize eBy l[k] = bn at *
       generalize (eSays l[k]).length = n1 at *
       generalize (ePf l[k]).length = n3 at *
       unfold big at z1 z2
       by_cases x0 : 100 < nm.size
       ·have y0 : ((100 : Int) < (nm.size : Int)) = True := eq_true (by omega)
        go_wp2_with fail
        go_ret
        exact HvRet.t hB2H.out
       ·have y0 : ((100 : Int) < (nm.size : Int)) = False := eq_false (by omega)
        by_cases x1 : 100 < bn.size
        ·have y1 : ((100 : Int) < (bn.size : Int)) = True := eq_true (by omega)
         go_wp2_with fail
         go_ret
         exact HvRet.t hB2H.out
        ·have y1 : ((100 : Int) < (bn.size : Int)) = False := eq_false (by omega)
         by_cases x2 : 100 < n1
         ·have y2 : ((100 : Int) < (n1 : Int)) = True := eq_true (by omega)
          go_wp2_with fail
          go_ret
          exact HvRet.t hB2H.out
         ·have y2 : ((100 : Int) < (n1 : Int)) = False := eq_false (by omega)
          by_cases x3 : 20 < n2
          ·have y3 : ((20 : Int) < (n2 : Int)) = True := eq_true (by omega)
           go_wp2_with fail
           go_ret
           exact HvRet.t hB2H.out
          ·have y3 : ((20 : Int) < (n2 : Int)) = False := eq_false (by omega)
           by_cases x5 : 12 < n3
           ·have y5 : ((12 : Int) < (n3 : Int)) = True := eq_true (by omega)
            by_cases x6 : n3 ≤ 60
            ·have y6 : ((n3 : Int) ≤ 60) = True := eq_true (by omega)
             go_wp2_with fail
             go_ret
             exact HvRet.t hB2H.out
            ·have y6 : ((n3 : Int) ≤ 60) = False := eq_false (by omega)
             by_cases x7 : 100 < n3
             ·have y7 : ((100 : Int) < (n3 : Int)) = True := eq_true (by omega)
              go_wp2_with fail
              go_ret
              exact HvRet.t hB2H.out
             ·have y7 : ((100 : Int) < (n3 : Int)) = False := eq_false (by omega)
              go_wp2_with fail
              clear p0 p1 p2 p4
              go_loopw [7] (fun i wr => hvRel2 n2 W i wr) (fun i _ => n2 - (intOf i).toNat)
              case atStart => exact ⟨0, rfl, Nat.zero_le _, .refl _ _⟩
              case round =>
               obtain ⟨j, rfl, hj, hBj⟩ := hrel
               have r3 := cell_later hBj q3
               by_cases hjl : j < n2
               ·obtain ⟨b2, o2, rfl, -, qu, hzu⟩ := (hUH.out.below hBj).str j (by have := husH.out; omega)
                generalize us[j]'(by have := husH.out; omega) = u at qu hzu
                by_cases hu : 100 < u.size
                ·have hui : ((100 : Int) < (u.size : Int)) = True := eq_true (by omega)
                 have hBH := Lib.hid (bcall hB2H.out hBj)
                 clear hBj
                 go_wp2_with fail
                 go_ret
                 exact HvRet.t hBH.out
                ·have hui : ((100 : Int) < (u.size : Int)) = False := eq_false (by omega)
                 have hfin := Lib.hid (show hvRel2 n2 W (.int .i64 ((j : Int) + 1)) wr from ⟨j + 1, by simp, hjl, hBj⟩)
                 clear hBj
                 go_wp2_with fail
                 go_roundw
                 case rel => exact hfin.out
                 case measure => simp [intOf]; omega
               ·have hjj : ((j : Int) < (n2 : Int)) = False := eq_false (by omega)
                have hfin := Lib.hid (show hvRel l w (.int .i64 ((k : Int) + 1)) wr from ⟨k + 1, by simp, hlt, bcall hB2H.out hBj⟩)
                clear hBj hjl hj
                go_wp2_with fail
                go_roundw
                case rel => exact hfin.out
                case measure => simp [intOf]; omega
           ·have y5 : ((12 : Int) < (n3 : Int)) = False := eq_false (by omega)
            have y7 : ((100 : Int) < (n3 : Int)) = False := eq_false (by omega)
            go_wp2_with fail
            clear p0 p1 p2 p4
            go_loopw [7] (fun i wr => hvRel2 n2 W i wr) (fun i _ => n2 - (intOf i).toNat)
            case atStart => exact ⟨0, rfl, Nat.zero_le _, .refl _ _⟩
            case round =>
             obtain ⟨j, rfl, hj, hBj⟩ := hrel
             have r3 := cell_later hBj q3
             by_cases hjl : j < n2
             ·obtain ⟨b2, o2, rfl, -, qu, hzu⟩ := (hUH.out.below hBj).str j (by have := husH.out; omega)
              generalize us[j]'(by have := husH.out; omega) = u at qu hzu
              by_cases hu : 100 < u.size
              ·have hui : ((100 : Int) < (u.size : Int)) = True := eq_true (by omega)
               have hBH := Lib.hid (bcall hB2H.out hBj)
               clear hBj
               go_wp2_with fail
               go_ret
               exact HvRet.t hBH.out
              ·have hui : ((100 : Int) < (u.size : Int)) = False := eq_false (by omega)
               have hfin := Lib.hid (show hvRel2 n2 W (.int .i64 ((j : Int) + 1)) wr from ⟨j + 1, by simp, hjl, hBj⟩)
               clear hBj
               go_wp2_with fail
               go_roundw
               case rel => exact hfin.out
               case measure => simp [intOf]; omega
             ·have hjj : ((j : Int) < (n2 : Int)) = False := eq_false (by omega)
              have hfin := Lib.hid (show hvRel l w (.int .i64 ((k : Int) + 1)) wr from ⟨k + 1, by simp, hlt, bcall hB2H.out hBj⟩)
              clear hBj hjl hj
              go_wp2_with fail
              go_roundw
              case rel => exact hfin.out
              case measure => simp [intOf]; omega
      ·have hkk : ((k : Int) < (l.length : Int)) = False := eq_false (by omega)
       have hBH := Lib.hid hB
       clear hB hlt hk
       go_wp2_with fail
       go_ret
       exact ⟨false, rfl, fun _ => hl100.out, hBH.out⟩
  ·have b2 : ((10 : Int) < (l.length : Int)) = False := eq_false (by omega)
   have b4 : ((100 : Int) < (l.length : Int)) = False := eq_false (by omega)
   go_enter Tryz.func12, Tryz.ntmps12
   have hl100 := Lib.hid (show l.length ≤ 100 by omega)
   go_wp2_with fail
   go_loopw [5] (fun i wr => hvRel l w i wr) (fun i _ => l.length - (intOf i).toNat)
   case atStart => exact ⟨0, rfl, Nat.zero_le _, .refl _ _⟩
   case round =>
    obtain ⟨k, rfl, hk, hB⟩ := hrel
    by_cases hlt : k < l.length
    ·obtain ⟨b, off, a1, c1, a2, c2, a3, c3, rfl, -, s0, s1, s2, s3, s4, z1, z2, hI, hU, hP⟩ := (h2H.out.below hB).ent k hlt
     obtain ⟨W, hW⟩ : ∃ W, wr.alloc (.cells #[.string (eNm l[k]), .string (eBy l[k]), .slice a1 (eSays l[k]).length c1, .slice a2 (eUses l[k]).length c2, .slice a3 (ePf l[k]).length c3] 37) = W := ⟨_, rfl⟩
     have hBW : Below wr.heap.size wr W := by rw [← hW]; exact below1 wr _
     have p0 : W.cell? ⟨wr.heap.size, 0, none⟩ = some (.string (eNm l[k])) := by rw [← hW]; clear hW; go_simp
     have p1 : W.cell? ⟨wr.heap.size, 1, none⟩ = some (.string (eBy l[k])) := by rw [← hW]; clear hW; go_simp
     have p2 : W.cell? ⟨wr.heap.size, 2, none⟩ = some (.slice a1 (eSays l[k]).length c1) := by rw [← hW]; clear hW; go_simp
     have q3 : W.cell? ⟨wr.heap.size, 3, none⟩ = some (.slice a2 (eUses l[k]).length c2) := by rw [← hW]; clear hW; go_simp
     have p4 : W.cell? ⟨wr.heap.size, 4, none⟩ = some (.slice a3 (ePf l[k]).length c3) := by rw [← hW]; clear hW; go_simp
     have hUW := hU.below hBW
     obtain ⟨us, hus⟩ : ∃ us, eUses l[k] = us := ⟨_, rfl⟩
     rw [hus] at hUW s3 q3 hW
     obtain ⟨n2, hn2⟩ : ∃ n2, us.length = n2 := ⟨_, rfl⟩
     have hm2 := hUW.le
     rw [hn2] at s3 q3 hW hm2
     have hUH := Lib.hid hUW
     have husH := Lib.hid hn2
     have hB2H := Lib.hid (bcall hB hBW)
     have m3 := hI.le
     have m4 := hP.le
     clear hI hU hP hUW hB hBW hus hn2
     generalize eNm l[k] = nm at *
     generalize eBy l[k] = bn at *
     generalize (eSays l[k]).length = n1 at *
     generalize (ePf l[k]).length = n3 at *
     unfold big at z1 z2
     by_cases x0 : 100 < nm.size
     ·have y0 : ((100 : Int) < (nm.size : Int)) = True := eq_true (by omega)
      go_wp2_with fail
      go_ret
      exact HvRet.t hB2H.out
     ·have y0 : ((100 : Int) < (nm.size : Int)) = False := eq_false (by omega)
      by_cases x1 : 100 < bn.size
      ·have y1 : ((100 : Int) < (bn.size : Int)) = True := eq_true (by omega)
       go_wp2_with fail
       go_ret
       exact HvRet.t hB2H.out
      ·have y1 : ((100 : Int) < (bn.size : Int)) = False := eq_false (by omega)
       by_cases x2 : 100 < n1
       ·have y2 : ((100 : Int) < (n1 : Int)) = True := eq_true (by omega)
        go_wp2_with fail
        go_ret
        exact HvRet.t hB2H.out
       ·have y2 : ((100 : Int) < (n1 : Int)) = False := eq_false (by omega)
        by_cases x3 : 20 < n2
        ·have y3 : ((20 : Int) < (n2 : Int)) = True := eq_true (by omega)
         go_wp2_with fail
         go_ret
         exact HvRet.t hB2H.out
        ·have y3 : ((20 : Int) < (n2 : Int)) = False := eq_false (by omega)
         by_cases x5 : 12 < n3
         ·have y5 : ((12 : Int) < (n3 : Int)) = True := eq_true (by omega)
          by_cases x6 : n3 ≤ 60
          ·have y6 : ((n3 : Int) ≤ 60) = True := eq_true (by omega)
           go_wp2_with fail
           go_ret
           exact HvRet.t hB2H.out
          ·have y6 : ((n3 : Int) ≤ 60) = False := eq_false (by omega)
           by_cases x7 : 100 < n3
           ·have y7 : ((100 : Int) < (n3 : Int)) = True := eq_true (by omega)
            go_wp2_with fail
            go_ret
            exact HvRet.t hB2H.out
           ·have y7 : ((100 : Int) < (n3 : Int)) = False := eq_false (by omega)
            go_wp2_with fail
            clear p0 p1 p2 p4
            go_loopw [7] (fun i wr => hvRel2 n2 W i wr) (fun i _ => n2 - (intOf i).toNat)
            case atStart => exact ⟨0, rfl, Nat.zero_le _, .refl _ _⟩
            case round =>
             obtain ⟨j, rfl, hj, hBj⟩ := hrel
             have r3 := cell_later hBj q3
             by_cases hjl : j < n2
             ·obtain ⟨b2, o2, rfl, -, qu, hzu⟩ := (hUH.out.below hBj).str j (by have := husH.out; omega)
              generalize us[j]'(by have := husH.out; omega) = u at qu hzu
              by_cases hu : 100 < u.size
              ·have hui : ((100 : Int) < (u.size : Int)) = True := eq_true (by omega)
               have hBH := Lib.hid (bcall hB2H.out hBj)
               clear hBj
               go_wp2_with fail
               go_ret
               exact HvRet.t hBH.out
              ·have hui : ((100 : Int) < (u.size : Int)) = False := eq_false (by omega)
               have hfin := Lib.hid (show hvRel2 n2 W (.int .i64 ((j : Int) + 1)) wr from ⟨j + 1, by simp, hjl, hBj⟩)
               clear hBj
               go_wp2_with fail
               go_roundw
               case rel => exact hfin.out
               case measure => simp [intOf]; omega
             ·have hjj : ((j : Int) < (n2 : Int)) = False := eq_false (by omega)
              have hfin := Lib.hid (show hvRel l w (.int .i64 ((k : Int) + 1)) wr from ⟨k + 1, by simp, hlt, bcall hB2H.out hBj⟩)
              clear hBj hjl hj
              go_wp2_with fail
              go_roundw
              case rel => exact hfin.out
              case measure => simp [intOf]; omega
         ·have y5 : ((12 : Int) < (n3 : Int)) = False := eq_false (by omega)
          have y7 : ((100 : Int) < (n3 : Int)) = False := eq_false (by omega)
          go_wp2_with fail
          clear p0 p1 p2 p4
          go_loopw [7] (fun i wr => hvRel2 n2 W i wr) (fun i _ => n2 - (intOf i).toNat)
          case atStart => exact ⟨0, rfl, Nat.zero_le _, .refl _ _⟩
          case round =>
           obtain ⟨j, rfl, hj, hBj⟩ := hrel
           have r3 := cell_later hBj q3
           by_cases hjl : j < n2
           ·obtain ⟨b2, o2, rfl, -, qu, hzu⟩ := (hUH.out.below hBj).str j (by have := husH.out; omega)
            generalize us[j]'(by have := husH.out; omega) = u at qu hzu
            by_cases hu : 100 < u.size
            ·have hui : ((100 : Int) < (u.size : Int)) = True := eq_true (by omega)
             have hBH := Lib.hid (bcall hB2H.out hBj)
             clear hBj
             go_wp2_with fail
             go_ret
             exact HvRet.t hBH.out
            ·have hui : ((100 : Int) < (u.size : Int)) = False := eq_false (by omega)
             have hfin := Lib.hid (show hvRel2 n2 W (.int .i64 ((j : Int) + 1)) wr from ⟨j + 1, by simp, hjl, hBj⟩)
             clear hBj
             go_wp2_with fail
             go_roundw
             case rel => exact hfin.out
             case measure => simp [intOf]; omega
           ·have hjj : ((j : Int) < (n2 : Int)) = False := eq_false (by omega)
            have hfin := Lib.hid (show hvRel l w (.int .i64 ((k : Int) + 1)) wr from ⟨k + 1, by simp, hlt, bcall hB2H.out hBj⟩)
            clear hBj hjl hj
            go_wp2_with fail
            go_roundw
            case rel => exact hfin.out
            case measure => simp [intOf]; omega
    ·have hkk : ((k : Int) < (l.length : Int)) = False := eq_false (by omega)
     have hBH := Lib.hid hB
     clear hB hlt hk
     go_wp2_with fail
     go_ret
     exact ⟨false, rfl, fun _ => hl100.out, hBH.out⟩
end Go.Proofs.YtpmnnoopoblpgaaGreat

/- Walks: the chapter's example of a library; SameTexts. -/
namespace Go.Proofs.YtpmnnoopoblpgaaGreat
open Go Go.RowKit Go.Maps

abbrev skK : Obj := .cells #[.int .i64 0, .int .i64 (-1), .int .i64 0, .int .i64 (-2), .int .i64 (-1)] 3
abbrev skC : Obj := .cells #[.int .i64 0, .int .i64 0, .int .i64 (-1), .int .i64 0, .int .i64 (-2), .int .i64 (-3), .int .i64 0, .int .i64 0, .int .i64 (-1), .int .i64 (-2), .int .i64 0, .int .i64 (-1), .int .i64 (-3)] 3
abbrev skP : Obj := .cells #[.int .i64 1, .int .i64 1, .int .i64 0, .int .i64 1, .int .i64 0, .int .i64 0, .int .i64 2, .int .i64 0, .int .i64 1, .int .i64 2, .int .i64 2, .int .i64 1] 117
abbrev skT : Obj := .cells #[.int .i64 0, .int .i64 (-1), .int .i64 (-1)] 3
abbrev skU : Obj := .cells #[.string nK, .string nS] 9
abbrev skE1 (n : Nat) : Obj := .cells #[.string nK, .string nAnn, .slice (some ⟨n, 0, none⟩) 5 5, .slice none 0 0, .slice none 0 0] 37
abbrev skE2 (n : Nat) : Obj := .cells #[.string nS, .string nAnn, .slice (some ⟨n + 1 + 1, 0, none⟩) 13 13, .slice none 0 0, .slice none 0 0] 37
abbrev skE3 (n : Nat) : Obj := .cells #[.string nI, .string nBob, .slice (some ⟨n + 1 + 1 + 1 + 1 + 1, 0, none⟩) 3 3, .slice (some ⟨n + 1 + 1 + 1 + 1 + 1 + 1, 0, none⟩) 2 2, .slice (some ⟨n + 1 + 1 + 1 + 1, 0, none⟩) 4 4] 37
abbrev skS : Obj := .cells #[.string ⟨#[67]⟩, .int .i64 2] 115
abbrev skL (n : Nat) : Obj := .cells #[.string nK, .string nAnn, .slice (some ⟨n, 0, none⟩) 5 5, .slice none 0 0, .slice none 0 0, .string nS, .string nAnn, .slice (some ⟨n + 1 + 1, 0, none⟩) 13 13, .slice none 0 0, .slice none 0 0,
 .string nI, .string nBob, .slice (some ⟨n + 1 + 1 + 1 + 1 + 1, 0, none⟩) 3 3, .slice (some ⟨n + 1 + 1 + 1 + 1 + 1 + 1, 0, none⟩) 2 2, .slice (some ⟨n + 1 + 1 + 1 + 1, 0, none⟩) 4 4] 37
abbrev skW (w : World) : World := (((((((w.alloc skK).alloc (skE1 w.heap.size)).alloc skC).alloc (skE2 w.heap.size)).alloc skP).alloc skT).alloc skU).alloc (skE3 w.heap.size)
theorem inr0 : inRange 0 := by unfold inRange; decide
theorem inr1 : inRange 1 := by unfold inRange; decide
theorem inr2 : inRange 2 := by unfold inRange; decide
structure SkAt (n : Nat) (W : World) : Prop where
 k : Ints (fun _ => True) W (some ⟨n, 0, none⟩) 5 aw4K
 c : Ints (fun _ => True) W (some ⟨n + 1 + 1, 0, none⟩) 13 aw4C
 p : Steps (fun _ => True) W (some ⟨n + 1 + 1 + 1 + 1, 0, none⟩) 4 aw4P
 t : Ints (fun _ => True) W (some ⟨n + 1 + 1 + 1 + 1 + 1, 0, none⟩) 3 skI
 u : Sl strE (fun _ => True) W (some ⟨n + 1 + 1 + 1 + 1 + 1 + 1, 0, none⟩) 2 [nK, nS]
theorem SkAt.below {n : Nat} {W W' : World} (h : SkAt n W) (hb : Below W.heap.size W W') : SkAt n W' := ⟨h.k.below hb, h.c.below hb, h.p.below hb, h.t.below hb, h.u.below hb⟩
theorem sk_at (w : World) : SkAt w.heap.size (skW w) ∧ Below w.heap.size w (skW w) ∧ (skW w).heap.size = w.heap.size + 8 := by
 have hK := (Ints.new w aw4K 3 (by decide) (by unfold inRange; decide)).any
 obtain ⟨W1, hW1⟩ : ∃ W, w.alloc skK = W := ⟨_, rfl⟩
 rw [show w.alloc (.cells (aw4K.map (Value.int .i64)).toArray 3) = w.alloc skK from rfl, hW1] at hK
 have z1 : W1.heap.size = w.heap.size + 1 := by rw [← hW1]; simp
 have b1 : Below w.heap.size w W1 := by rw [← hW1]; exact below1 _ _
 obtain ⟨W2, hW2⟩ : ∃ W, W1.alloc (skE1 w.heap.size) = W := ⟨_, rfl⟩
 have z2 : W2.heap.size = w.heap.size + 1 + 1 := by rw [← hW2]; simp [z1]
 have b2 : Below W1.heap.size W1 W2 := by rw [← hW2]; exact below1 _ _
 have hC := (Ints.new W2 aw4C 3 (by decide) (by unfold inRange; decide)).any
 obtain ⟨W3, hW3⟩ : ∃ W, W2.alloc skC = W := ⟨_, rfl⟩
 rw [show W2.alloc (.cells (aw4C.map (Value.int .i64)).toArray 3) = W2.alloc skC from rfl, hW3, z2] at hC
 have z3 : W3.heap.size = w.heap.size + 1 + 1 + 1 := by rw [← hW3]; simp [z2]
 have b3 : Below W2.heap.size W2 W3 := by rw [← hW3]; exact below1 _ _
 obtain ⟨W4, hW4⟩ : ∃ W, W3.alloc (skE2 w.heap.size) = W := ⟨_, rfl⟩
 have z4 : W4.heap.size = w.heap.size + 1 + 1 + 1 + 1 := by rw [← hW4]; simp [z3]
 have b4 : Below W3.heap.size W3 W4 := by rw [← hW4]; exact below1 _ _
 have hP := (Sl.new (E := stpE) (S := fun _ => False) W4 [[.int .i64 1, .int .i64 1, .int .i64 0], [.int .i64 1, .int .i64 0, .int .i64 0], [.int .i64 2, .int .i64 0, .int .i64 1], [.int .i64 2, .int .i64 2, .int .i64 1]] aw4P 117 rfl (by decide) (fun i h1 h2 => by
  match i, h1 with
  | 0, _ => exact ⟨[_], _, rfl, ⟨rfl, (inr1 : inRange 1)⟩, [_], [_], rfl, ⟨rfl, (inr1 : inRange 1)⟩, ⟨rfl, (inr0 : inRange 0)⟩⟩
  | 1, _ => exact ⟨[_], _, rfl, ⟨rfl, (inr1 : inRange 1)⟩, [_], [_], rfl, ⟨rfl, (inr0 : inRange 0)⟩, ⟨rfl, (inr0 : inRange 0)⟩⟩
  | 2, _ => exact ⟨[_], _, rfl, ⟨rfl, (inr2 : inRange 2)⟩, [_], [_], rfl, ⟨rfl, (inr0 : inRange 0)⟩, ⟨rfl, (inr1 : inRange 1)⟩⟩
  | 3, _ => exact ⟨[_], _, rfl, ⟨rfl, (inr2 : inRange 2)⟩, [_], [_], rfl, ⟨rfl, (inr2 : inRange 2)⟩, ⟨rfl, (inr1 : inRange 1)⟩⟩)).any
 obtain ⟨W5, hW5⟩ : ∃ W, W4.alloc skP = W := ⟨_, rfl⟩
 have hP5 : Steps (fun _ => True) W5 (some ⟨w.heap.size + 1 + 1 + 1 + 1, 0, none⟩) 4 aw4P := by rw [← z4, ← hW5]; exact hP
 have z5 : W5.heap.size = w.heap.size + 1 + 1 + 1 + 1 + 1 := by rw [← hW5]; simp [z4]
 have b5 : Below W4.heap.size W4 W5 := by rw [← hW5]; exact below1 _ _
 have hT := (Ints.new W5 skI 3 (by decide) (by unfold inRange; decide)).any
 obtain ⟨W6, hW6⟩ : ∃ W, W5.alloc skT = W := ⟨_, rfl⟩
 rw [show W5.alloc (.cells (skI.map (Value.int .i64)).toArray 3) = W5.alloc skT from rfl, hW6, z5] at hT
 have z6 : W6.heap.size = w.heap.size + 1 + 1 + 1 + 1 + 1 + 1 := by rw [← hW6]; simp [z5]
 have b6 : Below W5.heap.size W5 W6 := by rw [← hW6]; exact below1 _ _
 have hU := (Sl.new (E := strE) (S := fun _ => False) W6 [[.string nK], [.string nS]] [nK, nS] 9 rfl (by decide) (fun i h1 h2 => by
  match i, h1 with
  | 0, _ => exact ⟨rfl, (by decide : 1 ≤ big)⟩
  | 1, _ => exact ⟨rfl, (by decide : 1 ≤ big)⟩)).any
 obtain ⟨W7, hW7⟩ : ∃ W, W6.alloc skU = W := ⟨_, rfl⟩
 have hU7 : Sl strE (fun _ => True) W7 (some ⟨w.heap.size + 1 + 1 + 1 + 1 + 1 + 1, 0, none⟩) 2 [nK, nS] := by rw [← z6, ← hW7]; exact hU
 have z7 : W7.heap.size = w.heap.size + 1 + 1 + 1 + 1 + 1 + 1 + 1 := by rw [← hW7]; simp [z6]
 have b7 : Below W6.heap.size W6 W7 := by rw [← hW7]; exact below1 _ _
 obtain ⟨W8, hW8⟩ : ∃ W, W7.alloc (skE3 w.heap.size) = W := ⟨_, rfl⟩
 have z8 : W8.heap.size = w.heap.size + 1 + 1 + 1 + 1 + 1 + 1 + 1 + 1 := by rw [← hW8]; simp [z7]
 have b8 : Below W7.heap.size W7 W8 := by rw [← hW8]; exact below1 _ _
 have hWW : skW w = W8 := by unfold skW; rw [hW1, hW2, hW3, hW4, hW5, hW6, hW7, hW8]
 rw [hWW]
 refine ⟨⟨(((((((hK.below b2).below b3).below b4).below b5).below b6).below b7).below b8), ((((hC.below b4).below b5).below b6).below b7).below b8, ((hP5.below b6).below b7).below b8, (hT.below b7).below b8, hU7.below b8⟩, ?_, by omega⟩
 exact bcall (bcall (bcall (bcall (bcall (bcall (bcall b1 b2) b3) b4) b5) b6) b7) b8
theorem sk_sign (w : World) : Sign (fun _ => True) (w.alloc skS) (some ⟨w.heap.size, 0, none⟩) 1 aw4S :=
 (Sl.new (E := symE) (S := fun _ => False) w [[.string ⟨#[67]⟩, .int .i64 2]] aw4S 115 rfl (by decide) (fun i h1 h2 => by
  match i, h1 with
  | 0, _ => exact ⟨[_], [_], rfl, ⟨rfl, (by decide : 1 ≤ big)⟩, ⟨rfl, (by unfold inRange; decide : inRange 2)⟩⟩)).any
theorem sk_lib {n : Nat} {W : World} (h : SkAt n W) : LibL (fun _ => True) (W.alloc (skL n)) (some ⟨W.heap.size, 0, none⟩) 3 skiL :=
 (Sl.new (E := entE) (S := fun _ => True) W [[.string nK, .string nAnn, .slice (some ⟨n, 0, none⟩) 5 5, .slice none 0 0, .slice none 0 0], [.string nS, .string nAnn, .slice (some ⟨n + 1 + 1, 0, none⟩) 13 13, .slice none 0 0, .slice none 0 0],
  [.string nI, .string nBob, .slice (some ⟨n + 1 + 1 + 1 + 1 + 1, 0, none⟩) 3 3, .slice (some ⟨n + 1 + 1 + 1 + 1 + 1 + 1, 0, none⟩) 2 2, .slice (some ⟨n + 1 + 1 + 1 + 1, 0, none⟩) 4 4]] skiL 37 rfl (by decide) (fun i h1 h2 => by
  match i, h1 with
  | 0, _ => exact ⟨[_], _, rfl, ⟨rfl, (by decide : 1 ≤ big)⟩, [_], _, rfl, ⟨rfl, (by decide : 3 ≤ big)⟩, [_], _, rfl, ⟨_, _, rfl, h.k⟩, [_], [_], rfl, ⟨none, 0, rfl, Sl.empty⟩, ⟨none, 0, rfl, Sl.empty⟩⟩
  | 1, _ => exact ⟨[_], _, rfl, ⟨rfl, (by decide : 1 ≤ big)⟩, [_], _, rfl, ⟨rfl, (by decide : 3 ≤ big)⟩, [_], _, rfl, ⟨_, _, rfl, h.c⟩, [_], [_], rfl, ⟨none, 0, rfl, Sl.empty⟩, ⟨none, 0, rfl, Sl.empty⟩⟩
  | 2, _ => exact ⟨[_], _, rfl, ⟨rfl, (by decide : 1 ≤ big)⟩, [_], _, rfl, ⟨rfl, (by decide : 3 ≤ big)⟩, [_], _, rfl, ⟨_, _, rfl, h.t⟩, [_], [_], rfl, ⟨_, _, rfl, h.u⟩, ⟨_, _, rfl, h.p⟩⟩)).any
def SkiRet (w : World) (e : Ending) (w' : World) : Prop := ∃ sa sc la lc, e = .returned (.tuple #[.slice sa 1 sc, .slice la 3 lc]) ∧ Sign (fun _ => True) w' sa sc aw4S ∧ LibL (fun _ => True) w' la lc skiL ∧ Below w.heap.size w w'
set_option maxHeartbeats 4000000 in
theorem ski_any (w : World) : Calls Tryz.prog 64 #[] w (SkiRet w) := by
 obtain ⟨hA, hB, hz⟩ := sk_at w
 have hA1 := hA.below (below1 (skW w) skS)
 have s1 := (sk_sign (skW w)).below (below1 _ (skL w.heap.size))
 have l1 := sk_lib hA1
 have l2 := (sk_lib hA).below (below1 _ skS)
 have s2 := sk_sign ((skW w).alloc (skL w.heap.size))
 have e1 : (skW w).heap.size = w.heap.size + 1 + 1 + 1 + 1 + 1 + 1 + 1 + 1 := hz
 have e2 : ((skW w).alloc skS).heap.size = w.heap.size + 1 + 1 + 1 + 1 + 1 + 1 + 1 + 1 + 1 := by rw [World.size_alloc, e1]
 have e3 : ((skW w).alloc (skL w.heap.size)).heap.size = w.heap.size + 1 + 1 + 1 + 1 + 1 + 1 + 1 + 1 + 1 := by rw [World.size_alloc, e1]
 rw [e1] at s1 l2
 rw [e2] at l1
 rw [e3] at s2
 have hb1 := Below.drew (bcall hB (below2 (skW w) skS (skL w.heap.size)))
 have hb2 := Below.drew (bcall hB (below2 (skW w) (skL w.heap.size) skS))
 have r1 := Lib.hid (And.intro (s1.drew (Drew.mk _ 1)) (And.intro (l1.drew (Drew.mk _ 1)) hb1))
 have r2 := Lib.hid (And.intro (s2.drew (Drew.mk _ 1)) (And.intro (l2.drew (Drew.mk _ 1)) hb2))
 clear hA hB hz hA1 s1 l1 l2 s2 e1 e2 e3 hb1 hb2
 go_enter Tryz.func64, Tryz.ntmps64
 go_wp2_with fail
 go_region
 all_goals go_wp2_with fail
 all_goals go_ret2
 ·exact ⟨_, _, _, _, rfl, r1.out.1, r1.out.2.1, r1.out.2.2⟩
 ·exact ⟨_, _, _, _, rfl, r2.out.1, r2.out.2.1, r2.out.2.2⟩
end Go.Proofs.YtpmnnoopoblpgaaGreat

/- Walks: SameTexts; awake of the laws on libraries. -/
namespace Go.Proofs.YtpmnnoopoblpgaaGreat
open Go Go.RowKit Go.Maps

theorem stake_ne {l1 l2 : List ByteArray} {k : Nat} (h1 : k < l1.length) (h2 : k < l2.length) (h : l1[k] ≠ l2[k]) : l1 ≠ l2 := fun e => by subst e; exact h rfl
theorem stake_succ {l1 l2 : List ByteArray} {k : Nat} (h1 : k < l1.length) (h2 : k < l2.length) (ht : l1.take k = l2.take k) (h : l1[k] = l2[k]) : l1.take (k + 1) = l2.take (k + 1) := by
 rw [List.take_succ_eq_append_getElem h1, List.take_succ_eq_append_getElem h2, ht, h]
set_option maxHeartbeats 1000000 in
theorem SameTexts_any {S1 S2 : Nat → Prop} (a1 a2 : Option Addr) (c1 c2 : Nat) (l1 l2 : List ByteArray) (w : World) (h1 : Sl strE S1 w a1 c1 l1) (h2 : Sl strE S2 w a2 c2 l2) :
  Calls Tryz.prog 17 #[.slice a1 l1.length c1, .slice a2 l2.length c2] w fun e w' => e = .returned (.bool (decide (l1 = l2))) ∧ Drew w w' := by
 have m1 := h1.le
 have m2 := h2.le
 by_cases hl : l1.length = l2.length
 ·have hlH := Lib.hid hl
  have h1H := Lib.hid h1
  have h2H := Lib.hid h2
  clear h1 h2
  go_enter Tryz.func17, Tryz.ntmps17
  go_wp2
  clear hl
  go_loopw [5] (fun i wr => ∃ k : Nat, k ≤ l1.length ∧ i = .int .i64 k ∧ l1.take k = l2.take k ∧ Drew w wr) (fun i _ => l1.length - (intOf i).toNat)
  case atStart => exact ⟨0, by omega, rfl, rfl, .refl _⟩
  case round =>
   obtain ⟨k, hk, rfl, ht, n, rfl⟩ := hrel
   have htH := Lib.hid ht
   clear ht
   have hle := hlH.out
   by_cases hlt : k < l1.length
   ·have hlt2 : k < l2.length := by omega
    obtain ⟨b1, o1, rfl, -, q1, -⟩ := h1H.out.str k hlt
    obtain ⟨b2, o2, rfl, -, q2, -⟩ := h2H.out.str k hlt2
    clear hle
    obtain ⟨x, hx⟩ : ∃ x, l1[k] = x := ⟨_, rfl⟩
    obtain ⟨y, hy⟩ : ∃ y, l2[k] = y := ⟨_, rfl⟩
    rw [hx] at q1
    rw [hy] at q2
    by_cases hxy : x = y
    ·have hq := str_eq hxy
     have hfin := Lib.hid (stake_succ hlt hlt2 htH.out (by rw [hx, hy]; exact hxy))
     clear hx hy hxy
     go_wp2_with fail
     go_quiet (fail)
     all_goals go_wp2_with fail
     all_goals exact ⟨⟨k + 1, by omega, by go_num, hfin.out, .mk _ _⟩, by simp [intOf]; omega⟩
    ·have hq := str_neq hxy
     have hfin := Lib.hid (stake_ne hlt hlt2 (by rw [hx, hy]; exact hxy))
     clear hx hy hxy
     go_wp2_with fail
     go_quiet (fail)
     all_goals go_wp2_with fail
     all_goals go_ret
     all_goals exact ⟨ret_bool (decide_eq_false hfin.out).symm, .mk2 _ _ _⟩
   ·have hk2 : ¬ k < l2.length := by omega
    have hkl : ((k : Int) < (l1.length : Int)) = False := eq_false (by omega)
    have hfin := Lib.hid (show l1 = l2 by
     have := htH.out
     rw [List.take_of_length_le (by omega), List.take_of_length_le (by omega)] at this
     exact this)
    clear hle hlt hk
    go_wp2_with fail
    go_ret
    exact ⟨ret_bool (decide_eq_true hfin.out).symm, .mk _ _⟩
 ·clear h1 h2
  have hb := int_ne hl
  go_enter Tryz.func17, Tryz.ntmps17
  go_wp2_with fail
  go_ret
  exact ⟨ret_bool (decide_eq_false (fun e => hl (by rw [e]))).symm, .refl _⟩
theorem ski_misB (x : ByteArray) : misB skiL x = false := by
 cases h : misB skiL x with
 | false => rfl
 | true =>
  unfold misB at h
  rw [Bool.and_eq_true, List.any_eq_true] at h
  obtain ⟨⟨y, hy, hu⟩, hn⟩ := h
  have := ski_inside y hy x (memB_iff.1 hu)
  cases ha : atN skiL x <;> rw [ha] at hn this <;> simp_all
theorem ski_sound : soundE aw4S skiL true = (true, 0) := by
 have h1 : noneB (misB skiL) = true := by unfold noneB; simp only [decide_eq_true_eq]; exact ski_misB
 have h2 : noneB (faiB aw4S skiL) = true := by
  unfold noneB
  simp only [decide_eq_true_eq]
  intro x
  unfold faiB
  rw [ski_misB, Bool.false_or]
  cases h : chB skiL (fun i => !holdX aw4S skiL i) x with
  | false => rfl
  | true =>
   obtain ⟨i, hi, h1, -⟩ := chB_iff.1 h
   rw [ski_hold i hi] at h1
   cases h1
 unfold soundE
 rw [ski_ok, h1, h2]
 rfl
theorem NamesRet.is {f : ByteArray → Bool} {er : Int} {w : World} {e : Ending} {w' : World} {M : List ByteArray} (h : NamesRet f er w e w') (hM : AscN M) (hf : ∀ x, f x = true ↔ x ∈ M) :
  ∃ a c, e = .returned (.tuple #[.slice a M.length c, .int .i64 er]) ∧ Sl strE (fun b => w.heap.size ≤ b) w' a c M ∧ Below w.heap.size w w' := by
 obtain ⟨v, L, rfl, h1, h2, h3, h4⟩ := h
 have e : L = M := h2.uniq hM (fun x => (h3 x).trans (hf x))
 subst e
 obtain ⟨a, c, rfl, hs⟩ := OwnS.strs h1
 exact ⟨a, c, rfl, hs, h4⟩
set_option maxRecDepth 100000 in
set_option maxHeartbeats 4000000 in
theorem awake6_any (w : World) : Calls Tryz.prog 11 #[] w fun e w' => e = .returned (.bool true) ∧ Below w.heap.size w w' := by
 have v0 := Lib.hid (ski_any w)
 go_enter Tryz.func11, Tryz.ntmps11
 go_wp2_with fail
 refine v0.out.mono ?_
 rintro e w1 ⟨sa, sc, la, lc, rfl, hS, hL, hb1⟩
 have v1 := Sound_any (b := true) sa la sc lc aw4S skiL w1 hS hL (by decide) (fun B W xb _ hD => circNil_no hD (fun x _ => ski_loop x))
 rw [ski_sound] at v1
 have v1H := Lib.hid v1
 have hSH := Lib.hid hS
 have hLH := Lib.hid hL
 have hb1H := Lib.hid hb1
 clear v1 hS hL hb1
 go_wp2_with fail
 refine v1H.out.mono ?_
 rintro e w2 ⟨rfl, hb2⟩
 have v2 := Leans_any sa la sc lc aw4S skiL nI (by decide) w2 (hSH.out.below hb2) (hLH.out.below hb2) (by decide)
 have hbb := bcall hb1H.out hb2
 have e2 : leansE aw4S skiL nI = (fun x => rchB skiL (fun _ => true) nI x && (atN skiL x).isSome, 0) := by
  have : atN skiL nI = some 2 := by decide
  unfold leansE; rw [ski_ok, this]; rfl
 rw [e2] at v2
 have v2H := Lib.hid v2
 have hb2H := Lib.hid hb2
 have hbH := Lib.hid hbb
 clear v2 hb2 hbb e2
 go_wp2_with fail
 refine v2H.out.mono ?_
 rintro e w3 h3
 obtain ⟨a3, c3, rfl, hI3, hb3⟩ := h3.is ski_asc ski_leans
 have hb23 := bcall hb2H.out hb3
 have hbb := bcall hbH.out hb3
 have hT := Ints.new w3 skI 3 (by decide) (by unfold inRange; decide)
 have hb4 := below1 w3 skT
 have hT4 : Ints (fun b => b = w3.heap.size) (w3.alloc skT) (some ⟨w3.heap.size, 0, none⟩) 3 skI := hT
 have v3 := Breaks_any sa la (some ⟨w3.heap.size, 0, none⟩) sc lc 3 aw4S skiL nK skI (by decide) (w3.alloc skT) ((hSH.out.below hb23).below hb4) ((hLH.out.below hb23).below hb4) hT4 (by decide)
 have e3 : breaksE aw4S skiL nK skI = (chB skiL (fun k => holdX aw4S skiL k && !holdX aw4S skiL2 k), 0) := by
  have h1 : atN skiL nK = some 0 := by decide
  have h2 : isCanonT aw4S skI = true := by decide +kernel
  have h4 : setSays skiL 0 skI = skiL2 := rfl
  unfold breaksE
  rw [ski_ok, h2, h1]
  show (chB skiL (fun k => holdX aw4S skiL k && !holdX aw4S (setSays skiL 0 skI) k), (0 : Int)) = _
  rw [h4]
 rw [e3] at v3
 have v3H := Lib.hid v3
 have hI3H := Lib.hid (hI3.below hb4)
 have hbH3 := Lib.hid (bcall hbb hb4)
 clear h3 hb3 hI3 hb23 hbb hT hb4 hT4 v3 e3
 go_wp2_with fail
 refine v3H.out.mono ?_
 rintro e w5 h5
 obtain ⟨a5, c5, rfl, hI5, hb5⟩ := h5.is (List.pairwise_singleton _ _) ski_breaks
 have hI3' := hI3H.out.below hb5
 have hbb := bcall hbH3.out hb5
 have hu1 := (Sl.new (E := strE) (S := fun _ => False) w5 [[.string nK], [.string nS]] [nK, nS] 9 rfl (by decide) (fun i h1 h2 => by
  match i, h1 with
  | 0, _ => exact ⟨rfl, (by decide : 1 ≤ big)⟩
  | 1, _ => exact ⟨rfl, (by decide : 1 ≤ big)⟩))
 have hb6 := below1 w5 skU
 have hu1' : Sl strE (fun b => False ∨ b = w5.heap.size) (w5.alloc skU) (some ⟨w5.heap.size, 0, none⟩) 2 [nK, nS] := hu1
 have v5 := SameTexts_any a3 (some ⟨w5.heap.size, 0, none⟩) c3 2 [nK, nS] [nK, nS] (w5.alloc skU) (hI3'.below hb6) hu1'
 have v5H := Lib.hid v5
 have hI5H := Lib.hid (hI5.below hb6)
 have hbH6 := Lib.hid (bcall hbb hb6)
 clear h5 hb5 hI5 hI3' hbb hu1 hu1' hb6 v5
 go_wp2_with fail
 refine v5H.out.mono ?_
 rintro e w7 ⟨rfl, hd7⟩
 have hI7 := hI5H.out.below (hd7.below _)
 have hbb := bcall hbH6.out (hd7.below _)
 have hu2 := (Sl.new (E := strE) (S := fun _ => False) w7 [[.string nI]] [nI] 9 rfl (by decide) (fun i h1 h2 => by
  match i, h1 with
  | 0, _ => exact ⟨rfl, (by decide : 1 ≤ big)⟩))
 have hb8 := below1 w7 (.cells #[.string nI] 9)
 have hu2' : Sl strE (fun b => False ∨ b = w7.heap.size) (w7.alloc (.cells #[.string nI] 9)) (some ⟨w7.heap.size, 0, none⟩) 1 [nI] := hu2
 have v7 := SameTexts_any a5 (some ⟨w7.heap.size, 0, none⟩) c5 1 [nI] [nI] (w7.alloc (.cells #[.string nI] 9)) (hI7.below hb8) hu2'
 have v7H := Lib.hid v7
 have hbH8 := Lib.hid (bcall hbb hb8)
 clear hd7 hI7 hbb hu2 hu2' hb8 v7
 go_wp2_with fail
 refine v7H.out.mono ?_
 rintro e w9 ⟨rfl, hd9⟩
 have hfin := Lib.hid (bcall hbH8.out (hd9.below _))
 clear hd9
 go_wp2_with fail
 go_ret
 exact ⟨rfl, hfin.out⟩
end Go.Proofs.YtpmnnoopoblpgaaGreat

/- Walks: slices.Min of names. -/
namespace Go.Proofs.YtpmnnoopoblpgaaGreat
open Go Go.RowKit Go.Maps

end Go.Proofs.YtpmnnoopoblpgaaGreat

/- Walks: deps.IsCircle. -/
namespace Go.Proofs.YtpmnnoopoblpgaaGreat
open Go Go.RowKit Go.Maps

def nxB (l : List Ent) (L : List ByteArray) (i : Nat) : Bool := memB (usesN l (L.getD i ByteArray.empty)) (L.getD ((i + 1) % L.length) ByteArray.empty)
end Go.Proofs.YtpmnnoopoblpgaaGreat

/- Walks: IsCircle of the reference. -/
namespace Go.Proofs.YtpmnnoopoblpgaaGreat
open Go Go.RowKit Go.Maps

def cB (l : List Ent) (L : List ByteArray) (i : Nat) : Bool := (atN l (L.getD i ByteArray.empty)).isSome && (!memB (L.take i) (L.getD i ByteArray.empty) && (!ltB (L.getD i ByteArray.empty) (L.headD ByteArray.empty) && nxB l L i))
end Go.Proofs.YtpmnnoopoblpgaaGreat

/- The least circle is a circle. -/
namespace Go.Proofs.YtpmnnoopoblpgaaGreat

structure CirP (l : List Ent) (first : ByteArray) (out : List ByteArray) (now : ByteArray) : Prop where
 h0 : 0 < out.length
 hd : out.getD 0 ByteArray.empty = first
 ls : out.getD (out.length - 1) ByteArray.empty = now
 nd : out.Nodup
 ge : ∀ y ∈ out, ltB y first = false
 nx : ∀ i, i + 1 < out.length → out.getD (i + 1) ByteArray.empty ∈ usesN l (out.getD i ByteArray.empty)
theorem ltB_irr (x : ByteArray) : ltB x x = false := by
 cases e : ltB x x with
 | false => rfl
 | true => exact (ltN_irr _ (ltB_iff.1 e)).elim
theorem CirP.start (l : List Ent) (first : ByteArray) : CirP l first [first] first :=
 ⟨by simp, rfl, rfl, by simp, fun y hy => by rw [List.mem_singleton.1 hy]; exact ltB_irr _, fun i h => by simp at h⟩
theorem getD_snoc_lt {L : List ByteArray} {x : ByteArray} {i : Nat} (h : i < L.length) : (L ++ [x]).getD i ByteArray.empty = L.getD i ByteArray.empty := by
 rw [List.getD_eq_getElem?_getD, List.getD_eq_getElem?_getD, List.getElem?_append_left h]
theorem getD_snoc_eq {L : List ByteArray} {x : ByteArray} : (L ++ [x]).getD L.length ByteArray.empty = x := by
 rw [List.getD_eq_getElem?_getD, List.getElem?_append_right (Nat.le_refl _)]; simp
theorem CirP.step {l : List Ent} {first now nx : ByteArray} {out : List ByteArray} (h : CirP l first out now) (hu : nx ∈ usesN l now) (hc : candB l first out nx = true) : CirP l first (out ++ [nx]) nx := by
 have h0 := h.h0
 unfold candB at hc
 rw [Bool.and_eq_true, Bool.and_eq_true, Bool.not_eq_true', decide_eq_false_iff_not] at hc
 obtain ⟨hne, hf, -⟩ := hc
 unfold freeB at hf
 rw [Bool.or_eq_true, decide_eq_true_eq, Bool.and_eq_true, Bool.not_eq_true'] at hf
 rcases hf with e | ⟨hlt, hno⟩
 ·exact (hne e).elim
 have hni : nx ∉ out := fun e => by rw [memB_iff.2 e] at hno; cases hno
 refine ⟨by simp, by rw [getD_snoc_lt h0]; exact h.hd, by simp, ?_, fun y hy => ?_, fun i hi => ?_⟩
 ·rw [List.nodup_append]
  exact ⟨h.nd, by simp, fun a ha b hb e => hni (by rw [List.mem_singleton] at hb; rw [← hb, ← e]; exact ha)⟩
 ·rcases List.mem_append.1 hy with e | e
  ·exact h.ge y e
  ·rw [List.mem_singleton.1 e]
   cases eb : ltB nx first with
   | false => rfl
   | true => exact (ltN_irr _ (ltN_tr _ _ _ (ltB_iff.1 hlt) (ltB_iff.1 eb))).elim
 ·rw [List.length_append, List.length_singleton] at hi
  by_cases e : i + 1 < out.length
  ·rw [getD_snoc_lt e, getD_snoc_lt (by omega)]
   exact h.nx i e
  ·have e2 : i + 1 = out.length := by omega
   rw [e2, getD_snoc_eq, getD_snoc_lt (by omega)]
   have e3 : i = out.length - 1 := by omega
   rw [e3, h.ls]; exact hu
end Go.Proofs.YtpmnnoopoblpgaaGreat

/- The law DepsCircles, walked. -/
namespace Go.Proofs.YtpmnnoopoblpgaaGreat
open Go Go.RowKit Go.Maps

set_option maxHeartbeats 400000 in
theorem SameIntsD_any {S1 S2 : Nat → Prop} (a1 a2 : Option Addr) (c1 c2 : Nat) (l1 l2 : List Int) (w : World) (h1 : Ints S1 w a1 c1 l1) (h2 : Ints S2 w a2 c2 l2) :
  Calls Tryz.prog 53 #[.slice a1 l1.length c1, .slice a2 l2.length c2] w fun e w' => e = .returned (.bool (decide (l1 = l2))) ∧ Drew w w' := by
 have m1 := h1.le
 have m2 := h2.le
 by_cases hl : l1.length = l2.length
 ·have hlH := Lib.hid hl
  go_enter Tryz.func53, Tryz.ntmps53
  go_wp2
  clear hl
  go_loopw [5] (fun i wr => ∃ k : Nat, k ≤ l1.length ∧ i = .int .i64 k ∧ l1.take k = l2.take k ∧ Drew w wr) (fun i _ => l1.length - (intOf i).toNat)
  case atStart => exact ⟨0, by omega, rfl, rfl, .refl _⟩
  case round =>
   obtain ⟨k, hk, rfl, ht, n, rfl⟩ := hrel
   have htH := Lib.hid ht
   clear ht
   have hle := hlH.out
   by_cases hlt : k < l1.length
   ·have hlt2 : k < l2.length := by omega
    obtain ⟨b1, o1, rfl, -, q1, -⟩ := h1.int k hlt
    obtain ⟨b2, o2, rfl, -, q2, -⟩ := h2.int k hlt2
    clear h1 h2 hle
    go_wp2
    go_quiet (fail)
    all_goals go_wp2
    ·go_ret
     exact ⟨ret_bool (decide_eq_false (take_ne hlt hlt2 (by assumption))).symm, .mk2 _ _ _⟩
    ·exact ⟨⟨k + 1, by omega, by go_num, take_succ_eq hlt hlt2 htH.out (by assumption), .mk _ _⟩, by simp [intOf]; omega⟩
   ·clear hle
    have hk2 : ¬ k < l2.length := by have := hlH.out; omega
    go_wp2
    go_ret
    exact ⟨ret_bool (decide_eq_true (take_all_eq hlH.out hk2 htH.out)).symm, .mk _ _⟩
 ·go_enter Tryz.func53, Tryz.ntmps53
  have hb := int_ne hl
  go_wp2
  go_ret
  exact ⟨ret_bool (decide_eq_false (fun e => hl (by rw [e]))).symm, .refl _⟩
end Go.Proofs.YtpmnnoopoblpgaaGreat

/- The law DepsLeans, walked. -/
namespace Go.Proofs.YtpmnnoopoblpgaaGreat
open Go Go.RowKit Go.Maps

theorem leans_end {s : Sg} {l : List Ent} {n u : ByteArray} {f : ByteArray → Bool} {er : Int} (hL : leansE s l n = (f, er)) (hu : f u = true) : er = 0 ∧ ∃ g, usersE s l u = (g, 0) ∧ g n = true := by
 cases hok : okLib s l with
 | false => rw [leansE_bad hok] at hL; injection hL with h1 _; rw [← h1] at hu; cases hu
 | true =>
  cases hat : atN l n with
  | none => rw [leansE_no hok hat] at hL; injection hL with h1 _; rw [← h1] at hu; cases hu
  | some i =>
   unfold leansE at hL
   rw [if_pos hok, hat] at hL
   injection hL with h1 h2
   rw [← h1] at hu
   simp only [Bool.and_eq_true] at hu
   obtain ⟨hi, e⟩ := nmI_of hat
   cases hau : atN l u with
   | none => rw [hau] at hu; cases hu.2
   | some k =>
    refine ⟨h2.symm, _, by unfold usersE; rw [if_pos hok, hau], ?_⟩
    rw [chB_at (okLib_parts hok).2.2.2, hat]
    show rchB l (fun _ => true) (nmI l i) u = true
    rw [e]; exact hu.1
def leaRel (w2 : World) (N : Nat) (i : Value) (wr : World) : Prop := ∃ k : Nat, i = .int .i64 k ∧ k ≤ N ∧ Below w2.heap.size w2 wr
set_option maxRecDepth 100000 in
set_option maxHeartbeats 8000000 in
theorem DepsLeans_walk {S1 S2 : Nat → Prop} (sa : Option Addr) (sc : Nat) (s : Sg) (la : Option Addr) (lc : Nat) (l : List Ent) (n : ByteArray) (w : World) (h1 : Sign S1 w sa sc s) (h2 : LibL S2 w la lc l) (hn : n.size ≤ big) :
  Calls Tryz.prog 7 #[.slice sa s.length sc, .slice la l.length lc, .string n] w fun e w' => e = .returned (.bool true) ∧ Below w.heap.size w w' := by
 have m1 := h1.le
 have m2 := h2.le
 have va := Lib.hid (awake6_any w)
 have vh := Lib.hid (fun W (hb : Below w.heap.size w W) => heavy_any sa la sc lc s l W (h1.below hb) (h2.below hb))
 have h1H := Lib.hid h1
 have h2H := Lib.hid h2
 have hnH := Lib.hid hn
 clear h1 h2
 unfold big at hn
 go_enter Tryz.func7, Tryz.ntmps7
 go_wp2_with fail
 refine va.out.mono ?_
 rintro e w1 ⟨rfl, hb1⟩
 have vh1 := Lib.hid (vh.out w1 hb1)
 have hb1H := Lib.hid hb1
 clear hb1
 go_wp2_with fail
 refine vh1.out.mono ?_
 rintro e w2 ⟨r, rfl, hlen, hb2⟩
 have hb2H := Lib.hid (bcall hb1H.out hb2)
 clear hb2
 cases r with
 | true =>
  clear hlen
  go_wp2_with fail
  go_ret
  exact ⟨rfl, hb2H.out⟩
 | false =>
 have hl100 := Lib.hid (hlen rfl)
 clear hlen
 by_cases x1 : 100 < n.size
 ·have y1 : ((100 : Int) < (n.size : Int)) = True := eq_true (by omega)
  go_wp2_with fail
  go_ret
  exact ⟨rfl, hb2H.out⟩
 have y1 : ((100 : Int) < (n.size : Int)) = False := eq_false (by omega)
 have hl1000 : l.length ≤ 1000 := by have := hl100.out; omega
 have h1w := h1H.out.below hb2H.out
 have h2w := h2H.out.below hb2H.out
 obtain ⟨⟨fL, gL⟩, hLe⟩ : ∃ r, leansE s l n = r := ⟨_, rfl⟩
 obtain ⟨⟨fU, gU⟩, hUs⟩ : ∃ r, usersE s l n = r := ⟨_, rfl⟩
 obtain ⟨⟨fA, gA⟩, hAx⟩ : ∃ r, axsE s l n = r := ⟨_, rfl⟩
 obtain ⟨⟨fI, gI⟩, hId⟩ : ∃ r, idleE s l = r := ⟨_, rfl⟩
 obtain ⟨⟨ly, gY⟩, hLy⟩ : ∃ r, layersE s l = r := ⟨_, rfl⟩
 have vLeA := fun W (hb : Below w2.heap.size w2 W) => Leans_any sa la sc lc s l n hnH.out W (h1w.below hb) (h2w.below hb) hl1000
 simp only [hLe] at vLeA
 have vLeAH := Lib.hid vLeA
 clear vLeA
 have vLeB := fun W (hb : Below w2.heap.size w2 W) => rLeans_any sa la sc lc s l n W (h1w.below hb) (h2w.below hb)
 simp only [hLe] at vLeB
 have vLeBH := Lib.hid vLeB
 clear vLeB
 have vUsA := fun W (hb : Below w2.heap.size w2 W) => Users_any sa la sc lc s l n hnH.out W (h1w.below hb) (h2w.below hb) hl1000
 simp only [hUs] at vUsA
 have vUsAH := Lib.hid vUsA
 clear vUsA
 have vUsB := fun W (hb : Below w2.heap.size w2 W) => rUsers_any sa la sc lc s l n W (h1w.below hb) (h2w.below hb)
 simp only [hUs] at vUsB
 have vUsBH := Lib.hid vUsB
 clear vUsB
 have vAxA := fun W (hb : Below w2.heap.size w2 W) => Axioms_any sa la sc lc s l n hnH.out W (h1w.below hb) (h2w.below hb) hl1000
 simp only [hAx] at vAxA
 have vAxAH := Lib.hid vAxA
 clear vAxA
 have vAxB := fun W (hb : Below w2.heap.size w2 W) => rAxioms_any sa la sc lc s l n W (h1w.below hb) (h2w.below hb)
 simp only [hAx] at vAxB
 have vAxBH := Lib.hid vAxB
 clear vAxB
 have vIdA := fun W (hb : Below w2.heap.size w2 W) => Idle_any sa la sc lc s l W (h1w.below hb) (h2w.below hb) hl1000
 simp only [hId] at vIdA
 have vIdAH := Lib.hid vIdA
 clear vIdA
 have vIdB := fun W (hb : Below w2.heap.size w2 W) => rIdle_any sa la sc lc s l W (h1w.below hb) (h2w.below hb)
 simp only [hId] at vIdB
 have vIdBH := Lib.hid vIdB
 clear vIdB
 have vLyA := fun W (hb : Below w2.heap.size w2 W) => Layers_any sa la sc lc s l W (h1w.below hb) (h2w.below hb) hl1000
 simp only [hLy] at vLyA
 have vLyAH := Lib.hid vLyA
 clear vLyA
 have vLyB := fun W (hb : Below w2.heap.size w2 W) => rLayers_any sa la sc lc s l W (h1w.below hb) (h2w.below hb)
 simp only [hLy] at vLyB
 have vLyBH := Lib.hid vLyB
 clear vLyB
 have vUuH := Lib.hid (fun (u : ByteArray) (hu : u.size ≤ big) W (hb : Below w2.heap.size w2 W) => Users_any sa la sc lc s l u hu W (h1w.below hb) (h2w.below hb) hl1000)
 have hLeH := Lib.hid hLe
 clear hLe hUs hAx hId hLy h1w h2w x1 hl1000
 have hB0 := Lib.hid (Below.refl w2.heap.size w2)
 have c1a := Lib.hid (vLeAH.out _ hB0.out)
 go_wp2_with fail
 refine c1a.out.mono ?_
 rintro e y1a ⟨v, L1, rfl, hO, hA, hm, hb⟩
 obtain ⟨a1, d1, rfl, hS⟩ := OwnS.strs hO
 have mm1 := hS.le
 have hB1a := Lib.hid (bcall hB0.out hb)
 have hSH := Lib.hid hS
 have hAH := Lib.hid hA
 have hm1H := Lib.hid hm
 have c1b := Lib.hid (vLeBH.out _ hB1a.out)
 clear hA hm hO hS hb c1a
 go_wp2_with fail
 refine c1b.out.mono ?_
 rintro e y1b ⟨v, L', rfl, hO, hA, hm, hb⟩
 obtain rfl := hAH.out.uniq hA (fun z => (hm1H.out z).trans (hm z).symm)
 clear hA hm hAH
 obtain ⟨a1', d1', rfl, hS⟩ := OwnS.strs hO
 have hB1b := Lib.hid (bcall hB1a.out hb)
 have hS1b := Lib.hid (hSH.out.below hb)
 have t1 := Lib.hid (SameTexts_any a1 a1' d1 d1' L1 L1 y1b hS1b.out hS)
 have hLL1 : decide (L1 = L1) = true := by simp
 clear hO hS hb hSH c1b
 go_wp2_with fail
 refine t1.out.mono ?_
 rintro e y1c ⟨rfl, hd⟩
 have hB1 := Lib.hid (bcall hB1b.out (hd.below _))
 have hK1 := Lib.hid (hS1b.out.below (hd.below _))
 clear hd t1
 have c2a := Lib.hid (vUsAH.out _ hB1.out)
 go_wp2_with fail
 refine c2a.out.mono ?_
 rintro e y2a ⟨v, L2, rfl, hO, hA, hm, hb⟩
 obtain ⟨a2, d2, rfl, hS⟩ := OwnS.strs hO
 have mm2 := hS.le
 have hB2a := Lib.hid (bcall hB1.out hb)
 have hSH := Lib.hid hS
 have hAH := Lib.hid hA
 have hm2H := Lib.hid hm
 have c2b := Lib.hid (vUsBH.out _ hB2a.out)
 have hK2a := Lib.hid (hK1.out.below hb)
 clear hA hm hO hS hb c2a
 go_wp2_with fail
 refine c2b.out.mono ?_
 rintro e y2b ⟨v, L', rfl, hO, hA, hm, hb⟩
 obtain rfl := hAH.out.uniq hA (fun z => (hm2H.out z).trans (hm z).symm)
 clear hA hm hAH
 obtain ⟨a2', d2', rfl, hS⟩ := OwnS.strs hO
 have hB2b := Lib.hid (bcall hB2a.out hb)
 have hS2b := Lib.hid (hSH.out.below hb)
 have hK2b := Lib.hid (hK2a.out.below hb)
 have t2 := Lib.hid (SameTexts_any a2 a2' d2 d2' L2 L2 y2b hS2b.out hS)
 have hLL2 : decide (L2 = L2) = true := by simp
 clear hO hS hb hSH c2b
 go_wp2_with fail
 refine t2.out.mono ?_
 rintro e y2c ⟨rfl, hd⟩
 have hB2 := Lib.hid (bcall hB2b.out (hd.below _))
 have hK2 := Lib.hid (hK2b.out.below (hd.below _))
 clear hd t2
 have c3a := Lib.hid (vAxAH.out _ hB2.out)
 go_wp2_with fail
 refine c3a.out.mono ?_
 rintro e y3a ⟨v, L3, rfl, hO, hA, hm, hb⟩
 obtain ⟨a3, d3, rfl, hS⟩ := OwnS.strs hO
 have mm3 := hS.le
 have hB3a := Lib.hid (bcall hB2.out hb)
 have hSH := Lib.hid hS
 have hAH := Lib.hid hA
 have hm3H := Lib.hid hm
 have c3b := Lib.hid (vAxBH.out _ hB3a.out)
 have hK3a := Lib.hid (hK2.out.below hb)
 clear hA hm hO hS hb c3a
 go_wp2_with fail
 refine c3b.out.mono ?_
 rintro e y3b ⟨v, L', rfl, hO, hA, hm, hb⟩
 obtain rfl := hAH.out.uniq hA (fun z => (hm3H.out z).trans (hm z).symm)
 clear hA hm hAH
 obtain ⟨a3', d3', rfl, hS⟩ := OwnS.strs hO
 have hB3b := Lib.hid (bcall hB3a.out hb)
 have hS3b := Lib.hid (hSH.out.below hb)
 have hK3b := Lib.hid (hK3a.out.below hb)
 have t3 := Lib.hid (SameTexts_any a3 a3' d3 d3' L3 L3 y3b hS3b.out hS)
 have hLL3 : decide (L3 = L3) = true := by simp
 clear hO hS hb hSH c3b
 go_wp2_with fail
 refine t3.out.mono ?_
 rintro e y3c ⟨rfl, hd⟩
 have hB3 := Lib.hid (bcall hB3b.out (hd.below _))
 have hK3 := Lib.hid (hK3b.out.below (hd.below _))
 clear hd t3
 have c4a := Lib.hid (vIdAH.out _ hB3.out)
 go_wp2_with fail
 refine c4a.out.mono ?_
 rintro e y4a ⟨v, L4, rfl, hO, hA, hm, hb⟩
 obtain ⟨a4, d4, rfl, hS⟩ := OwnS.strs hO
 have mm4 := hS.le
 have hB4a := Lib.hid (bcall hB3.out hb)
 have hSH := Lib.hid hS
 have hAH := Lib.hid hA
 have hm4H := Lib.hid hm
 have c4b := Lib.hid (vIdBH.out _ hB4a.out)
 have hK4a := Lib.hid (hK3.out.below hb)
 clear hA hm hO hS hb c4a
 go_wp2_with fail
 refine c4b.out.mono ?_
 rintro e y4b ⟨v, L', rfl, hO, hA, hm, hb⟩
 obtain rfl := hAH.out.uniq hA (fun z => (hm4H.out z).trans (hm z).symm)
 clear hA hm hAH
 obtain ⟨a4', d4', rfl, hS⟩ := OwnS.strs hO
 have hB4b := Lib.hid (bcall hB4a.out hb)
 have hS4b := Lib.hid (hSH.out.below hb)
 have hK4b := Lib.hid (hK4a.out.below hb)
 have t4 := Lib.hid (SameTexts_any a4 a4' d4 d4' L4 L4 y4b hS4b.out hS)
 have hLL4 : decide (L4 = L4) = true := by simp
 clear hO hS hb hSH c4b
 go_wp2_with fail
 refine t4.out.mono ?_
 rintro e y4c ⟨rfl, hd⟩
 have hB4 := Lib.hid (bcall hB4b.out (hd.below _))
 have hK4 := Lib.hid (hK4b.out.below (hd.below _))
 clear hd t4
 have c5a := Lib.hid (vLyAH.out _ hB4.out)
 go_wp2_with fail
 refine c5a.out.mono ?_
 rintro e y5a ⟨v, rfl, hO, hb⟩
 obtain ⟨ao, co, rfl, hI⟩ := OwnI.ints hO
 have mmO := hI.le
 have hB5a := Lib.hid (bcall hB4.out hb)
 have hK5a := Lib.hid (hK4.out.below hb)
 have hIH := Lib.hid hI
 have c5b := Lib.hid (vLyBH.out _ hB5a.out)
 clear hI hO hb c5a
 try simp only at mmO
 go_wp2_with fail
 refine c5b.out.mono ?_
 rintro e y5b ⟨v, rfl, hO, hb⟩
 obtain ⟨ao2, co2, rfl, hI⟩ := OwnI.ints hO
 have hB5b := Lib.hid (bcall hB5a.out hb)
 have hK5b := Lib.hid (hK5a.out.below hb)
 have t5 := Lib.hid (SameIntsD_any ao ao2 co co2 ly ly y5b (hIH.out.below hb) hI)
 have hOO : decide (ly = ly) = true := by simp
 clear hI hO hb c5b hIH
 go_wp2_with fail
 refine t5.out.mono ?_
 rintro e y5 ⟨rfl, hd⟩
 have hB5 := Lib.hid (bcall hB5b.out (hd.below _))
 have hK5 := Lib.hid (hK5b.out.below (hd.below _))
 clear hd t5
 go_wp2_with fail
 go_loopw [23] (fun iv wr => leaRel y5 L1.length iv wr) (fun iv _ => L1.length - (intOf iv).toNat)
 case atStart => exact ⟨0, rfl, Nat.zero_le _, .refl _ _⟩
 case round =>
  obtain ⟨k, rfl, hk, hB⟩ := hrel
  by_cases hkl : k < L1.length
  ·have hkk : (k : Int) < (L1.length : Int) := by omega
   have hu := (hm1H.out L1[k]).1 (List.getElem_mem hkl)
   try simp only at hu
   obtain ⟨rfl, g, hg, hgn⟩ := leans_end hLeH.out hu
   obtain ⟨b1, o1, rfl, -, q1, hz⟩ := (hK5.out.below hB).str k hkl
   have vu := vUuH.out L1[k] hz wr (bcall hB5.out hB)
   rw [hg] at vu
   have vuH := Lib.hid vu
   have hBH := Lib.hid hB
   have hgnH := Lib.hid hgn
   clear vu hg hgn hu hB
   generalize L1[k] = u at *
   go_wp2_with fail
   refine vuH.out.mono ?_
   rintro e w9 ⟨v, Lx, rfl, hO, -, hm, hb⟩
   obtain ⟨ax, dx, rfl, hS⟩ := OwnS.strs hO
   have mmx := hS.le
   have hmem : memB Lx n = true := memB_iff.2 ((hm n).2 hgnH.out)
   have vhs := rHas_any ax dx Lx n w9 hS
   rw [hmem] at vhs
   have vhsH := Lib.hid vhs
   have hfin := Lib.hid (show leaRel y5 L1.length (.int .i64 ((k : Int) + 1)) w9 from ⟨k + 1, by simp, hkl, bcall hBH.out hb⟩)
   clear hO hm hb hS hmem vhs
   go_wp2_with fail
   refine vhsH.out.mono ?_
   rintro e w10 ⟨rfl, rfl⟩
   go_wp2_with fail
   go_roundw
   case rel => exact hfin.out
   case measure => simp [intOf]; omega
  ·have hkk : ((k : Int) < (L1.length : Int)) = False := eq_false (by omega)
   have hfin := Lib.hid (bcall hb2H.out (bcall hB5.out hB))
   clear hB hk hkl
   go_wp2_with fail
   go_ret
   exact ⟨rfl, hfin.out⟩
end Go.Proofs.YtpmnnoopoblpgaaGreat

/- The statement DepsLeansSaid: for every input DepsLeans returns true and leaves its arguments as they were. No condition. -/
namespace Go.Proofs.YtpmnnoopoblpgaaGreat
open Go Go.RowKit Go.ChangeShapes Go.WideShapes Go.ChangeAt

set_option maxRecDepth 100000 in
theorem depsLeans_lifted (os : Os) (started : os.Started) (H : Type) (enc : TypeId × Value → H) :
  ReturnsInHanded {} Tryz.checked os 7 .any (Rows.depsLeansSpec.pre6 enc Tryz.prog Tryz.f7 Rows.depsLeansRow.domain false) (Rows.depsLeansSpec.post enc Tryz.prog Tryz.f7 false true false false) := by
 refine returnsInHanded_of_change (C := Tryz.checked) Tryz.own started (by kernel_rfl) Tryz.func7
  (ChangeSpec.witness6 (enc := enc) (C := Tryz.checked) false ⟨#[], #[.slice none 0 0, .slice none 0 0, .string ByteArray.empty], []⟩ 8 (by kernel_rfl) (by kernel_rfl) (by kernel_rfl) (by kernel_rfl)) ?_
 intro W base args ds gs before hval0 hW hcnd _
 have hval : ∀ (j : Nat) t v, Tryz.f7.params[j]? = some t → args[j]? = some v → Value.okWide Tryz.prog W .any base t v := hval0
 have hW' := hW
 obtain ⟨p, q, hA0, hV, rfl, hfz, hnd⟩ := hW
 have hA : DataW.TrodAll enc Tryz.prog W 0 (fun _ => true) true Tryz.f7.params.toList args.toList ds p := hA0
 rw [Tryz.params7] at hA hval
 obtain ⟨v0, v1, v2, d0, d1, d2, p0, p1, p2, rfl, rfl, rfl, h0, h1, h2⟩ := trodAll_three hA
 obtain ⟨rfl, rfl⟩ := trodVars_none hV
 clear hA0 hval0
 simp only [List.append_nil] at hW'
 have hlt : ∀ x ∈ p0 ++ (p1 ++ p2), x.block < W.heap.size := fun x hx => hW'.lt x (by simpa using hx)
 have keep0 := fun (W' : World) (hn : Below W.heap.size W W') => Below.trod Tryz.laidOut (by kernel_rfl) (of_decide_eq_true (by kernel_rfl)) h0 hn (fun x hx => hlt x (by simp [hx]))
 have keep1 := fun (W' : World) (hn : Below W.heap.size W W') => Below.trod Tryz.laidOut (by kernel_rfl) (of_decide_eq_true (by kernel_rfl)) h1 hn (fun x hx => hlt x (by simp [hx]))
 have keep2 := fun (W' : World) (hn : Below W.heap.size W W') => Below.trod Tryz.laidOut (by kernel_rfl) (of_decide_eq_true (by kernel_rfl)) h2 hn (fun x hx => hlt x (by simp [hx]))
 obtain ⟨l0, a0, c0, rfl, r0⟩ := gSign.arg h0 (okWide_slice Tryz.underlying23 (hval 0 23 v0 rfl rfl))
 obtain ⟨l1, a1, c1, rfl, r1⟩ := gLib.arg h1 (okWide_slice Tryz.underlying24 (hval 1 24 v1 rfl rfl))
 obtain ⟨s2, rfl, rfl, rfl, ws2⟩ := ChangeMaps.open_string Tryz.underlying9 (hval 2 9 v2 rfl rfl) h2
 refine (DepsLeans_walk _ _ _ _ _ _ _ W r0 r1 (by unfold big; unfold maxLen at ws2; omega)).mono fun e W' ⟨he, hB⟩ => ?_
 subst he
 exact ⟨_, rfl, _, _, _, [], _, [], hW', trodAll_mk1 (shut_bool Tryz.underlying4 true), trodAll_mk3 (keep0 _ hB) (keep1 _ hB) (keep2 _ hB), rfl, hB.frame _, fun h => by cases h⟩

theorem depsLeans_holds : Rows.DepsLeansSaid :=
 OpenClaim.holds_of_wide 7 Tryz.f7 rfl rfl rfl rfl rfl rfl rfl ⟨rfl, rfl, rfl, rfl, rfl⟩ rfl rfl rfl rfl rfl (by kernel_rfl) Tryz.func7 (by kernel_rfl)
  (of_decide_eq_true (by kernel_rfl)) (by unfold Func.isWrapper; rw [if_neg (of_decide_eq_false (by kernel_rfl))]; exact ⟨rfl, rfl⟩)
  (fun os started H enc _ => depsLeans_lifted os started H enc)
end Go.Proofs.YtpmnnoopoblpgaaGreat
