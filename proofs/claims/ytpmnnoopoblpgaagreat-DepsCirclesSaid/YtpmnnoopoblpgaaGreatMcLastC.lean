/- The statement DepsCirclesSaid: for every input DepsCircles returns true and leaves its arguments as they were. No condition. -/
import Derived.Test.YtpmnnoopoblpgaaGreatRegS
import Derived.Test.YtpmnnoopoblpgaaGreatMcA
import Derived.Test.YtpmnnoopoblpgaaGreatMcE
import Derived.Test.YtpmnnoopoblpgaaGreatMcH
import Derived.Lib.MinMaxS
import Derived.Test.YtpmnnoopoblpgaaGreatBase
import Derived.ProofKit
import Derived.LaidMore
import Derived.OpenShut
import Derived.Stop.Joined
import Derived.ChangeMaps5
import Derived.Test.YtpmnnoopoblpgaaGreatMcD
import Derived.Test.YtpmnnoopoblpgaaGreatLit
import Derived.Test.YtpmnnoopoblpgaaGreatMcJ
/- Each thing follows from itself: what the proof of the laws on kernel says, in plain words. No program is named. -/
namespace Go.Proofs.YtpmnnoopoblpgaaGreat

theorem uniE_by {s : Sg} (hok : okSign s = true) {a b : List Int} (ha : W1 s a) (hb : W1 s b) (ra : Rg a) (rb : Rg b) {ξ : Int → List Int} (hξ : Wsub s ξ) (he : ap ξ a = ap ξ b)
  (hm : ∀ η, Wsub s η → ap η a = ap η b → ∀ n, n < 0 → ap η (ξ n) = η n) (t : List Int) : uniE s a b t = madeE ξ t := by
 obtain ⟨θ, hθ⟩ := mgu_ex hok ha hb ra rb hξ he
 have e2 : ap θ (ap ξ t) = ap θ t := by rw [ap_ap]; exact ap_congr (fun n _ hn => hm θ hθ.th hθ.eq n hn)
 obtain ⟨c1, c2, c3⟩ := canon_two hθ.th hξ (u1 := ap θ t) (u2 := ap ξ t) (hθ.most hξ he t) e2
 rw [uniE_some hθ]
 unfold madeE
 rw [c1, c2, c3]
def aw4S : Sg := [(⟨#[67]⟩, 2)]
def aw4K : List Int := [0, -1, 0, -2, -1]
def aw4C : List Int := [0, 0, -1, 0, -2, -3, 0, 0, -1, -2, 0, -1, -3]
def aw4G : List (List Int) := [aw4K, aw4C]
def aw4P : List Stp := [(1, 1, 0), (1, 0, 0), (2, 0, 1), (2, 2, 1)]
def aw4D : List Int := [0, 0, -1, -2, 0, -1, -1]
theorem aw4_one : detE aw4S aw4C aw4K = (aw4D, 0) := by
 have hC : okT aw4S aw4C = true := by decide +kernel
 have hK : okT aw4S aw4K = true := by decide +kernel
 have hA : W1 aw4S [0, -1, 0, -2, -3] := by unfold W1; decide +kernel
 have hA' : okT aw4S [0, -1, 0, -2, -3] = true := by decide +kernel
 rw [detE_at hC hK (A := [0, -1, 0, -2, -3]) (B := [0, 0, -1, -2, 0, -1, -3]) rfl hA]
 have hξ : Wsub aw4S (fun n => if n = -13 then [-1] else if n = -14 then [-2] else if n = -3 then [-1] else [n]) := fun n hn => by
  show W1 aw4S (if n = -13 then [-1] else if n = -14 then [-2] else if n = -3 then [-1] else [n])
  split
  ·exact W1.var (by decide)
  ·split
   ·exact W1.var (by decide)
   ·split
    ·exact W1.var (by decide)
    ·exact W1.var hn
 rw [uniE_by (okT_parts hC).1 hA (apartT_w (okT_w1 hK)) (okT_Rg hA') (apartT_rg hK) hξ (by decide +kernel) (fun η hw he n hn => ?_)]
 ·decide +kernel
 ·have e1 : ap η [0, -1, 0, -2, -3] = 0 :: (η (-1) ++ (0 :: (η (-2) ++ η (-3)))) := by
   rw [ap_pos (by decide), ap_neg (by decide), ap_pos (by decide), ap_neg (by decide), ap_one (by decide)]
  have e2 : ap η (apartT aw4K) = 0 :: (η (-13) ++ (0 :: (η (-14) ++ η (-13)))) := by
   show ap η [0, -13, 0, -14, -13] = _
   rw [ap_pos (by decide), ap_neg (by decide), ap_pos (by decide), ap_neg (by decide), ap_one (by decide)]
  rw [e1, e2] at he
  obtain ⟨q1, q2⟩ := W1.uniq (hw _ (by decide)) (hw _ (by decide)) (List.cons.inj he).2
  obtain ⟨q3, q4⟩ := W1.uniq (hw _ (by decide)) (hw _ (by decide)) (List.cons.inj q2).2
  show ap η (if n = -13 then [-1] else if n = -14 then [-2] else if n = -3 then [-1] else [n]) = η n
  split
  ·rename_i h; subst h; rw [ap_one (by decide), q1]
  ·split
   ·rename_i h; subst h; rw [ap_one (by decide), q3]
   ·split
    ·rename_i h; subst h; rw [ap_one (by decide), q4, q1]
    ·rw [ap_one hn]
theorem aw4_last : detE aw4S aw4D aw4K = ([0, -1, -1], 0) := by
 have hC : okT aw4S aw4D = true := by decide +kernel
 have hK : okT aw4S aw4K = true := by decide +kernel
 have hA : W1 aw4S [0, -1, -2] := by unfold W1; decide +kernel
 have hA' : okT aw4S [0, -1, -2] = true := by decide +kernel
 rw [detE_at hC hK (A := [0, -1, -2]) (B := [0, -1, -1]) rfl hA]
 have hξ : Wsub aw4S (fun n => if n = -13 then [-1] else if n = -2 then [0, -14, -1] else [n]) := fun n hn => by
  show W1 aw4S (if n = -13 then [-1] else if n = -2 then [0, -14, -1] else [n])
  split
  ·exact W1.var (by decide)
  ·split
   ·unfold W1; decide +kernel
   ·exact W1.var hn
 rw [uniE_by (okT_parts hC).1 hA (apartT_w (okT_w1 hK)) (okT_Rg hA') (apartT_rg hK) hξ (by decide +kernel) (fun η hw he n hn => ?_)]
 ·decide +kernel
 ·have e1 : ap η [0, -1, -2] = 0 :: (η (-1) ++ η (-2)) := by
   rw [ap_pos (by decide), ap_neg (by decide), ap_one (by decide)]
  have e2 : ap η (apartT aw4K) = 0 :: (η (-13) ++ (0 :: (η (-14) ++ η (-13)))) := by
   show ap η [0, -13, 0, -14, -13] = _
   rw [ap_pos (by decide), ap_neg (by decide), ap_pos (by decide), ap_neg (by decide), ap_one (by decide)]
  rw [e1, e2] at he
  obtain ⟨q1, q2⟩ := W1.uniq (hw _ (by decide)) (hw _ (by decide)) (List.cons.inj he).2
  show ap η (if n = -13 then [-1] else if n = -2 then [0, -14, -1] else [n]) = η n
  split
  ·rename_i h; subst h; rw [ap_one (by decide), q1]
  ·split
   ·rename_i h; subst h
    rw [ap_pos (by decide), ap_neg (by decide), ap_one (by decide), q2, q1]
   ·rw [ap_one hn]
theorem aw4_says : saysE aw4S aw4G aw4P = ([0, -1, -1], 0) := by
 have h1 : stepE aw4S aw4G [] (1, 1, 0) = (aw4C, 0) := by unfold stepE; rw [if_pos rfl]; decide +kernel
 have h2 : stepE aw4S aw4G [aw4C] (1, 0, 0) = (aw4K, 0) := by unfold stepE; rw [if_pos rfl]; decide +kernel
 have h3 : stepE aw4S aw4G [aw4C, aw4K] (2, 0, 1) = (aw4D, 0) := by unfold stepE; rw [if_neg (by decide)]; exact aw4_one
 have h4 : stepE aw4S aw4G [aw4C, aw4K, aw4D] (2, 2, 1) = ([0, -1, -1], 0) := by unfold stepE; rw [if_neg (by decide)]; exact aw4_last
 have hr : runL aw4S aw4G aw4P [] = ([aw4C, aw4K, aw4D, [0, -1, -1]], 0) := by
  unfold aw4P
  rw [runL, h1, if_pos rfl, List.nil_append, runL, h2, if_pos rfl, List.cons_append, List.nil_append, runL, h3, if_pos rfl, List.cons_append, List.cons_append, List.nil_append, runL, h4, if_pos rfl, runL]
  rfl
 unfold saysE
 rw [if_pos (by decide +kernel), hr]
 rfl
end Go.Proofs.YtpmnnoopoblpgaaGreat

/- The chapter's example of a library, in plain words: it is sound, i leans on k and s, and it breaks if k says that each thing follows from itself. No program is named. -/
namespace Go.Proofs.YtpmnnoopoblpgaaGreat

def nK : ByteArray := ⟨#[107]⟩
def nS : ByteArray := ⟨#[115]⟩
def nI : ByteArray := ⟨#[105]⟩
def nAnn : ByteArray := ⟨#[97, 110, 110]⟩
def nBob : ByteArray := ⟨#[98, 111, 98]⟩
def skI : List Int := [0, -1, -1]
def skiL : List Ent := [(nK, nAnn, aw4K, [], []), (nS, nAnn, aw4C, [], []), (nI, nBob, skI, [nK, nS], aw4P)]
theorem ski_ok : okLib aw4S skiL = true := by decide +kernel
theorem ins_self {s : Sg} {a : List Int} : instB s a a = true := instB_iff.2 ⟨fun n => [n], fun _ hn => W1.var hn, ap_id (fun _ _ _ => rfl)⟩
theorem ski_at {x : ByteArray} : (atN skiL x).isSome = true ↔ x = nK ∨ x = nS ∨ x = nI := by
 unfold atN skiL
 rw [List.findIdx?_isSome]
 simp only [List.any_cons, List.any_nil, Bool.or_false, Bool.or_eq_true, eNm]
 constructor
 ·rintro (h | h | h)
  ·exact .inl (of_decide_eq_true h).symm
  ·exact .inr (.inl (of_decide_eq_true h).symm)
  ·exact .inr (.inr (of_decide_eq_true h).symm)
 ·rintro (h | h | h)
  ·exact .inl (decide_eq_true h.symm)
  ·exact .inr (.inl (decide_eq_true h.symm))
  ·exact .inr (.inr (decide_eq_true h.symm))
theorem ski_uses (n : ByteArray) : usesN skiL n = if n = nI then [nK, nS] else [] := by
 cases h : atN skiL n with
 | none =>
  unfold usesN
  rw [h]
  by_cases e : n = nI
  ·have : (atN skiL n).isSome = true := ski_at.2 (.inr (.inr e))
   rw [h] at this; cases this
  ·rw [if_neg e]
 | some i =>
  obtain ⟨hi, e⟩ := atN_some h
  unfold usesN
  rw [h]
  match i, hi, e with
  | 0, _, e => subst e; rfl
  | 1, _, e => subst e; rfl
  | 2, _, e => subst e; rfl
theorem ski_rch {may : ByteArray → Prop} {n u : ByteArray} (h : Rch (usesN skiL) may n u) : n = nI ∧ (u = nK ∨ u = nS) := by
 induction h with
 | one h1 h2 =>
  rw [ski_uses] at h1
  by_cases e : n = nI
  ·rw [if_pos e] at h1; exact ⟨e, by simpa using h1⟩
  ·rw [if_neg e] at h1; cases h1
 | more h0 h1 h2 ih =>
  rw [ski_uses] at h1
  rcases ih.2 with rfl | rfl
  ·rw [if_neg (by decide)] at h1; cases h1
  ·rw [if_neg (by decide)] at h1; cases h1
theorem ski_loop (x : ByteArray) : loopB skiL x = false := by
 cases h : loopB skiL x with
 | false => rfl
 | true =>
  unfold loopB at h
  obtain ⟨h1, h2⟩ := ski_rch (rchB_iff.1 h)
  subst h1
  rcases h2 with h2 | h2 <;> exact absurd h2 (by decide)
theorem ski_leans (x : ByteArray) : (rchB skiL (fun _ => true) nI x && (atN skiL x).isSome) = true ↔ x ∈ [nK, nS] := by
 rw [Bool.and_eq_true, rchB_iff, ski_at]
 constructor
 ·rintro ⟨h, -⟩
  have := (ski_rch h).2
  simpa using this
 ·intro h
  have hu : x ∈ usesN skiL nI := by rw [ski_uses, if_pos rfl]; exact h
  refine ⟨.one hu rfl, ?_⟩
  simp at h
  rcases h with h | h
  ·exact .inl h
  ·exact .inr (.inl h)
theorem ski_asc : AscN [nK, nS] := by
 refine List.Pairwise.cons (fun y hy => ?_) (List.pairwise_singleton _ _)
 rw [List.mem_singleton] at hy
 subst hy
 show nK.data.toList < nS.data.toList
 decide
theorem strX_ax {s : Sg} {l : List Ent} {i : Nat} (h : ePf (l.getD i default) = []) : strX s l i = some (eSays (l.getD i default)) := by unfold strX; rw [if_pos h]
theorem ski_str : strX aw4S skiL 2 = some skI := by
 have e1 : ePf (skiL.getD 2 default) = aw4P := rfl
 have e2 : eUses (skiL.getD 2 default) = [nK, nS] := rfl
 have e3 : givF skiL [nK, nS] = aw4G := rfl
 have e4 : inAll skiL [nK, nS] = true := rfl
 unfold strX
 rw [e1, e2, if_neg (by decide), if_pos e4, e3, aw4_says]
 rfl
theorem ski_hold : ∀ i, i < 3 → holdX aw4S skiL i = true := by
 intro i hi
 have h0 : ∀ t, strX aw4S skiL i = some t → t = eSays (skiL.getD i default) → okT aw4S t = true → holdX aw4S skiL i = true := fun t h1 h2 h3 => by
  unfold holdX
  rw [h1]
  simp only
  rw [← h2, h3, ins_self]
  rfl
 match i, hi with
 | 0, _ => exact h0 _ (strX_ax rfl) rfl (by decide +kernel)
 | 1, _ => exact h0 _ (strX_ax rfl) rfl (by decide +kernel)
 | 2, _ => exact h0 _ ski_str rfl (by decide +kernel)
theorem ski_inside : ∀ x ∈ skiL, ∀ u ∈ eUses x, (atN skiL u).isSome = true := by
 intro x hx u hu
 have : skiL.all (fun x => (eUses x).all (fun u => (atN skiL u).isSome)) = true := by decide
 rw [List.all_eq_true] at this
 have := this x hx
 rw [List.all_eq_true] at this
 exact this u hu
/-! if k says that each thing follows from itself -/
def aw6G : List (List Int) := [skI, aw4C]
def aw6D : List Int := [0, 0, 0, -1, -2, -1, 0, 0, -1, -2, -2]
theorem aw6_one : detE aw4S aw4C skI = (aw6D, 0) := by
 have hC : okT aw4S aw4C = true := by decide +kernel
 have hK : okT aw4S skI = true := by decide +kernel
 have hA : W1 aw4S [0, -1, 0, -2, -3] := by unfold W1; decide +kernel
 have hA' : okT aw4S [0, -1, 0, -2, -3] = true := by decide +kernel
 rw [detE_at hC hK (A := [0, -1, 0, -2, -3]) (B := [0, 0, -1, -2, 0, -1, -3]) rfl hA]
 have hξ : Wsub aw4S (fun n => if n = -13 then [0, -2, -3] else if n = -1 then [0, -2, -3] else [n]) := fun n hn => by
  show W1 aw4S (if n = -13 then [0, -2, -3] else if n = -1 then [0, -2, -3] else [n])
  split
  ·unfold W1; decide +kernel
  ·split
   ·unfold W1; decide +kernel
   ·exact W1.var hn
 rw [uniE_by (okT_parts hC).1 hA (apartT_w (okT_w1 hK)) (okT_Rg hA') (apartT_rg hK) hξ (by decide +kernel) (fun η hw he n hn => ?_)]
 ·decide +kernel
 ·have e1 : ap η [0, -1, 0, -2, -3] = 0 :: (η (-1) ++ (0 :: (η (-2) ++ η (-3)))) := by
   rw [ap_pos (by decide), ap_neg (by decide), ap_pos (by decide), ap_neg (by decide), ap_one (by decide)]
  have e2 : ap η (apartT skI) = 0 :: (η (-13) ++ η (-13)) := by
   show ap η [0, -13, -13] = _
   rw [ap_pos (by decide), ap_neg (by decide), ap_one (by decide)]
  have e3 : ap η [0, -2, -3] = 0 :: (η (-2) ++ η (-3)) := by
   rw [ap_pos (by decide), ap_neg (by decide), ap_one (by decide)]
  rw [e1, e2] at he
  obtain ⟨q1, q2⟩ := W1.uniq (hw _ (by decide)) (hw _ (by decide)) (List.cons.inj he).2
  show ap η (if n = -13 then [0, -2, -3] else if n = -1 then [0, -2, -3] else [n]) = η n
  split
  ·rename_i h; subst h; rw [e3, ← q2]
  ·split
   ·rename_i h; subst h; rw [e3, q1, ← q2]
   ·rw [ap_one hn]
theorem aw6_last : (detE aw4S aw6D skI).2 = 8 := by
 have hC : okT aw4S aw6D = true := by decide +kernel
 have hK : okT aw4S skI = true := by decide +kernel
 have hA : W1 aw4S [0, 0, -1, -2, -1] := by unfold W1; decide +kernel
 rw [detE_at hC hK (A := [0, 0, -1, -2, -1]) (B := [0, 0, -1, -2, -2]) rfl hA]
 rw [uniE_none (fun η hw he => ?_)]
 have e1 : ap η [0, 0, -1, -2, -1] = 0 :: ((0 :: (η (-1) ++ η (-2))) ++ η (-1)) := by
  rw [ap_pos (by decide), ap_pos (by decide), ap_neg (by decide), ap_neg (by decide), ap_one (by decide)]
  simp
 have e2 : ap η (apartT skI) = 0 :: (η (-13) ++ η (-13)) := by
  show ap η [0, -13, -13] = _
  rw [ap_pos (by decide), ap_neg (by decide), ap_one (by decide)]
 rw [e1, e2] at he
 have h1 : W1 aw4S (0 :: (η (-1) ++ η (-2))) := by
  have := (show W1 aw4S [0, -1, -2] by unfold W1; decide +kernel).ap hw
  rw [ap_pos (by decide), ap_neg (by decide), ap_one (by decide)] at this
  exact this
 obtain ⟨q1, q2⟩ := W1.uniq h1 (hw _ (by decide)) (List.cons.inj he).2
 have := congrArg List.length (q1.trans q2.symm)
 simp at this
 omega
theorem aw6_says : (saysE aw4S aw6G aw4P).2 = 8 := by
 have h1 : stepE aw4S aw6G [] (1, 1, 0) = (aw4C, 0) := by unfold stepE; rw [if_pos rfl]; decide +kernel
 have h2 : stepE aw4S aw6G [aw4C] (1, 0, 0) = (skI, 0) := by unfold stepE; rw [if_pos rfl]; decide +kernel
 have h3 : stepE aw4S aw6G [aw4C, skI] (2, 0, 1) = (aw6D, 0) := by unfold stepE; rw [if_neg (by decide)]; exact aw6_one
 have h4 : (stepE aw4S aw6G [aw4C, skI, aw6D] (2, 2, 1)).2 = 8 := by unfold stepE; rw [if_neg (by decide)]; exact aw6_last
 have hr : (runL aw4S aw6G aw4P []).2 = 8 := by
  unfold aw4P
  rw [runL, h1, if_pos rfl, List.nil_append, runL, h2, if_pos rfl, List.cons_append, List.nil_append, runL, h3, if_pos rfl, List.cons_append, List.cons_append, List.nil_append, runL, if_neg (by rw [h4]; decide)]
  exact h4
 unfold saysE
 rw [if_pos (by decide +kernel), if_neg (by rw [hr]; decide)]
 exact hr
def skiL2 : List Ent := [(nK, nAnn, skI, [], []), (nS, nAnn, aw4C, [], []), (nI, nBob, skI, [nK, nS], aw4P)]
theorem ski2_hold : holdX aw4S skiL2 2 = false := by
 have e1 : ePf (skiL2.getD 2 default) = aw4P := rfl
 have e2 : eUses (skiL2.getD 2 default) = [nK, nS] := rfl
 have e3 : givF skiL2 [nK, nS] = aw6G := rfl
 have e4 : inAll skiL2 [nK, nS] = true := rfl
 have : strX aw4S skiL2 2 = none := by
  unfold strX
  rw [e1, e2, if_neg (by decide), if_pos e4, e3, if_neg (by rw [aw6_says]; decide)]
 unfold holdX
 rw [this]
theorem ski2_ax : ∀ i, i < 2 → holdX aw4S skiL2 i = true := by
 intro i hi
 have h0 : ∀ t, strX aw4S skiL2 i = some t → t = eSays (skiL2.getD i default) → okT aw4S t = true → holdX aw4S skiL2 i = true := fun t h1 h2 h3 => by
  unfold holdX
  rw [h1]
  simp only
  rw [← h2, h3, ins_self]
  rfl
 match i, hi with
 | 0, _ => exact h0 _ (strX_ax rfl) rfl (by decide +kernel)
 | 1, _ => exact h0 _ (strX_ax rfl) rfl (by decide +kernel)
theorem ski_breaks (x : ByteArray) : chB skiL (fun k => holdX aw4S skiL k && !holdX aw4S skiL2 k) x = true ↔ x ∈ [nI] := by
 rw [chB_iff]
 constructor
 ·rintro ⟨i, hi, h1, h2⟩
  match i, hi, h1, h2 with
  | 0, _, h1, _ => rw [ski2_ax 0 (by decide)] at h1; simp at h1
  | 1, _, h1, _ => rw [ski2_ax 1 (by decide)] at h1; simp at h1
  | 2, _, _, h2 => rw [← h2]; exact List.mem_singleton.2 rfl
 ·intro h
  rw [List.mem_singleton] at h
  subst h
  exact ⟨2, by decide, by rw [ski_hold 2 (by decide), ski2_hold]; rfl, rfl⟩
end Go.Proofs.YtpmnnoopoblpgaaGreat

/- Names that are a circle, told step by step. No program is named. -/
namespace Go.Proofs.YtpmnnoopoblpgaaGreat

theorem nodup_takeC {L : List ByteArray} : L.Nodup ↔ ∀ i (h : i < L.length), memB (L.take i) L[i] = false := by
 unfold List.Nodup
 rw [List.pairwise_iff_getElem]
 constructor
 ·intro h i hi
  cases e : memB (L.take i) L[i] with
  | false => rfl
  | true =>
   obtain ⟨j, hj, he⟩ := List.getElem_of_mem (memB_iff.1 e)
   rw [List.length_take] at hj
   rw [List.getElem_take] at he
   exact (h j i (by omega) hi (by omega) he).elim
 ·intro h i j hi hj hij e
  have := h j hj
  have hm : L[i] ∈ L.take j := by rw [List.mem_take_iff_getElem]; exact ⟨i, by omega, rfl⟩
  rw [← e, memB_iff.2 hm] at this
  cases this
theorem minS_le (x y : ByteArray) : (Lib.minS x y = x ∨ Lib.minS x y = y) ∧ ¬ ltN x (Lib.minS x y) ∧ ¬ ltN y (Lib.minS x y) := by
 unfold Lib.minS
 by_cases h : x.data.toList < y.data.toList ∨ x.data.toList = y.data.toList
 ·rw [if_pos h]
  refine ⟨.inl rfl, ltN_irr _, fun hy => ?_⟩
  rcases h with h | h
  ·exact ltN_irr _ (ltN_tr _ _ _ h hy)
  ·have := bs_inj h; rw [this] at hy; exact ltN_irr _ hy
 ·rw [if_neg h]
  exact ⟨.inr rfl, fun hx => h (.inl hx), ltN_irr _⟩
theorem min_fold : ∀ (r : List ByteArray) (x : ByteArray), (r.foldl Lib.minS x = x ∨ r.foldl Lib.minS x ∈ r) ∧ ¬ ltN x (r.foldl Lib.minS x) ∧ ∀ y ∈ r, ¬ ltN y (r.foldl Lib.minS x)
 | [], x => ⟨.inl rfl, ltN_irr _, by simp⟩
 | z :: r, x => by
  obtain ⟨h1, h2, h3⟩ := min_fold r (Lib.minS x z)
  obtain ⟨k1, k2, k3⟩ := minS_le x z
  rw [List.foldl_cons]
  have hx : ∀ u, ¬ ltN u (Lib.minS x z) → ¬ ltN u (r.foldl Lib.minS (Lib.minS x z)) := fun u hu hlt => by
   rcases ltN_tri (Lib.minS x z) u with e | e | e
   ·exact h2 (ltN_tr _ _ _ e hlt)
   ·rw [← e] at hlt; exact h2 hlt
   ·exact hu e
  refine ⟨?_, hx x k2, fun y hy => ?_⟩
  ·rcases h1 with e | e
   ·rcases k1 with k | k
    ·exact .inl (e.trans k)
    ·exact .inr (by rw [e, k]; simp)
   ·exact .inr (List.mem_cons_of_mem _ e)
  ·rcases List.mem_cons.1 hy with e | e
   ·rw [e]; exact hx z k3
   ·exact h3 y e
theorem min_head {L : List ByteArray} (h0 : 0 < L.length) : Lib.minOfS L = L.headD ByteArray.empty ↔ ∀ i (h : i < L.length), ltB L[i] (L.headD ByteArray.empty) = false := by
 have hm : ¬ ltN (L.headD ByteArray.empty) (Lib.minOfS L) ∧ (∀ y ∈ L, ¬ ltN y (Lib.minOfS L)) ∧ Lib.minOfS L ∈ L := by
  obtain ⟨h1, h2, h3⟩ := min_fold L (L.headD ByteArray.empty)
  refine ⟨h2, h3, ?_⟩
  rcases h1 with e | e
  ·show L.foldl Lib.minS _ ∈ L
   rw [e]
   cases L with
   | nil => simp at h0
   | cons x r => simp
  ·exact e
 constructor
 ·intro e i hi
  cases hb : ltB L[i] (L.headD ByteArray.empty) with
  | false => rfl
  | true => rw [← e] at hb; exact (hm.2.1 _ (List.getElem_mem hi) (ltB_iff.1 hb)).elim
 ·intro h
  rcases ltN_tri (Lib.minOfS L) (L.headD ByteArray.empty) with e | e | e
  ·obtain ⟨i, hi, he⟩ := List.getElem_of_mem hm.2.2
   have := h i hi
   rw [he, ltB_iff.2 e] at this
   cases this
  ·exact e
  ·exact (hm.1 e).elim
end Go.Proofs.YtpmnnoopoblpgaaGreat

/- Facts of the program's types that the rows over the kernel want; the start of a row that lists variables. -/
namespace Go.Proofs.YtpmnnoopoblpgaaGreat
open Go Go.RowKit Go.ChangeShapes Go.WideShapes Go.ChangeAt Go.Deep

theorem gives3 {P : Program} {t : TypeId} {α β γ : Type} {E : Enc α} {F : Enc β} {G : Enc γ} {f0 f1 f2 : Field} (ht : P.underlying t = some (.struct #[f0, f1, f2])) (h0 : f0.offset = 0) (h1 : f1.offset = E.size) (h2 : f2.offset = E.size + F.size) (hc : P.cellsOf t = E.size + (F.size + G.size))
  (hc0 : P.cellsOf f0.type = E.size) (hc1 : P.cellsOf f1.type = F.size) (hc2 : P.cellsOf f2.type = G.size) (g0 : Gives P f0.type E) (g1 : Gives P f1.type F) (g2 : Gives P f2.type G) : Gives P t (pairE E (pairE F G)) := by
 intro H enc w base spare held n cs x h
 obtain ⟨y0, y1, y2, n', _, hl, r0, r1, r2⟩ := trod_struct3 ht h
 obtain ⟨a, ha⟩ := g0 H enc w base spare held n' _ _ r0
 obtain ⟨b, hb⟩ := g1 H enc w base spare held n' _ _ r1
 obtain ⟨c, hcc⟩ := g2 H enc w base spare held n' _ _ r2
 refine ⟨(a, b, c), _, _, ?_, ha, _, _, rfl, hb, hcc⟩
 rw [h0, h1, h2, hc0, hc1, hc2, List.drop_zero]
 have e1 : (cs.drop (E.size + F.size)).take G.size = cs.drop (E.size + F.size) := List.take_of_length_le (by simp; omega)
 rw [e1, ← List.drop_drop, List.take_append_drop, List.take_append_drop]
theorem gStp : Gives Tryz.prog 117 stpE := gives3 Tryz.underlying117 rfl rfl rfl (by kernel_rfl) (by kernel_rfl) (by kernel_rfl) (by kernel_rfl) gInt gInt gInt
theorem gSteps : Gives Tryz.prog 35 (slE stpE) := gives_slice Tryz.underlying35 (by kernel_rfl) gStp
end Go.Proofs.YtpmnnoopoblpgaaGreat

/- Facts of the program's types that the rows over libraries want. -/
namespace Go.Proofs.YtpmnnoopoblpgaaGreat
open Go Go.RowKit Go.ChangeShapes Go.WideShapes Go.ChangeAt Go.Deep

theorem gives5 {P : Program} {t : TypeId} {α β γ δ ε : Type} {E : Enc α} {F : Enc β} {G : Enc γ} {J : Enc δ} {K : Enc ε} {f0 f1 f2 f3 f4 : Field} (ht : P.underlying t = some (.struct #[f0, f1, f2, f3, f4])) (h0 : f0.offset = 0) (h1 : f1.offset = E.size) (h2 : f2.offset = E.size + F.size) (h3 : f3.offset = E.size + F.size + G.size) (h4 : f4.offset = E.size + F.size + G.size + J.size)
  (hc : P.cellsOf t = E.size + (F.size + (G.size + (J.size + K.size)))) (hc0 : P.cellsOf f0.type = E.size) (hc1 : P.cellsOf f1.type = F.size) (hc2 : P.cellsOf f2.type = G.size) (hc3 : P.cellsOf f3.type = J.size) (hc4 : P.cellsOf f4.type = K.size)
  (g0 : Gives P f0.type E) (g1 : Gives P f1.type F) (g2 : Gives P f2.type G) (g3 : Gives P f3.type J) (g4 : Gives P f4.type K) : Gives P t (pairE E (pairE F (pairE G (pairE J K)))) := by
 intro H enc w base spare held n cs x h
 obtain ⟨xs, n', _, rfl, hl, hlen, hf⟩ := DataW.trod_struct ht h
 match xs, hlen with
 | [y0, y1, y2, y3, y4], _ =>
  have r0 := hf 0 f0 rfl
  have r1 := hf 1 f1 rfl
  have r2 := hf 2 f2 rfl
  have r3 := hf 3 f3 rfl
  have r4 := hf 4 f4 rfl
  simp only [List.getElem?_cons_zero, List.getElem?_cons_succ] at r0 r1 r2 r3 r4
  obtain ⟨a, ha⟩ := g0 H enc w base spare held n' _ _ r0
  obtain ⟨b, hb⟩ := g1 H enc w base spare held n' _ _ r1
  obtain ⟨c, hcc⟩ := g2 H enc w base spare held n' _ _ r2
  obtain ⟨d, hd⟩ := g3 H enc w base spare held n' _ _ r3
  obtain ⟨e, he⟩ := g4 H enc w base spare held n' _ _ r4
  refine ⟨(a, b, c, d, e), _, _, ?_, ha, _, _, rfl, hb, _, _, rfl, hcc, _, _, rfl, hd, he⟩
  rw [h0, h1, h2, h3, h4, hc0, hc1, hc2, hc3, hc4, List.drop_zero]
  have e1 : (cs.drop (E.size + F.size + G.size + J.size)).take K.size = cs.drop (E.size + F.size + G.size + J.size) := List.take_of_length_le (by simp; omega)
  have e2 : cs.drop (E.size + F.size + G.size + J.size) = (cs.drop (E.size + F.size + G.size)).drop J.size := by rw [List.drop_drop]
  have e3 : cs.drop (E.size + F.size + G.size) = (cs.drop (E.size + F.size)).drop G.size := by rw [List.drop_drop]
  have e4 : cs.drop (E.size + F.size) = (cs.drop E.size).drop F.size := by rw [List.drop_drop]
  rw [e1, e2, List.take_append_drop, e3, List.take_append_drop, e4, List.take_append_drop, List.take_append_drop]
theorem gStrs : Gives Tryz.prog 29 (slE strE) := gives_slice Tryz.underlying29 (by kernel_rfl) gStr
theorem gEnt : Gives Tryz.prog 37 entE := gives5 Tryz.underlying37 rfl rfl rfl rfl rfl (by kernel_rfl) (by kernel_rfl) (by kernel_rfl) (by kernel_rfl) (by kernel_rfl) (by kernel_rfl) gStr gStr gTerm gStrs gSteps
theorem gLib : Gives Tryz.prog 24 (slE entE) := gives_slice Tryz.underlying24 (by kernel_rfl) gEnt
end Go.Proofs.YtpmnnoopoblpgaaGreat

/- Walks: heavy. -/
namespace Go.Proofs.YtpmnnoopoblpgaaGreat
open Go Go.RowKit Go.Maps

def hvRel (l : List Ent) (w : World) (i : Value) (wr : World) : Prop := ∃ k : Nat, i = .int .i64 k ∧ k ≤ l.length ∧ Below w.heap.size w wr
def hvRel2 (N : Nat) (w : World) (i : Value) (wr : World) : Prop := ∃ j : Nat, i = .int .i64 j ∧ j ≤ N ∧ Below w.heap.size w wr
def HvRet (l : List Ent) (w : World) (e : Ending) (w' : World) : Prop := ∃ r : Bool, e = .returned (.bool r) ∧ (r = false → l.length ≤ 100) ∧ Below w.heap.size w w'
theorem HvRet.t {l : List Ent} {w w' : World} (hb : Below w.heap.size w w') : HvRet l w (.returned (.bool true)) w' := ⟨true, rfl, (fun h => by cases h), hb⟩
set_option maxRecDepth 100000 in
set_option maxHeartbeats 8000000 in
theorem heavy_any {S1 S2 : Nat → Prop} (sa la : Option Addr) (sc lc : Nat) (s : Sg) (l : List Ent) (w : World) (h1 : Sign S1 w sa sc s) (h2 : LibL S2 w la lc l) :
  Calls Tryz.prog 12 #[.slice sa s.length sc, .slice la l.length lc] w (HvRet l w) := by
 have m := h2.le
 have m1 := h1.le
 have h2H := Lib.hid h2
 clear h1 h2
 generalize hns : s.length = ns at *
 clear hns
 by_cases a1 : 20 < ns
 ·have b1 : ((20 : Int) < (ns : Int)) = True := eq_true (by omega)
  go_enter Tryz.func12, Tryz.ntmps12
  go_wp2_with fail
  go_ret
  exact HvRet.t (.refl _ _)
 ·have b1 : ((20 : Int) < (ns : Int)) = False := eq_false (by omega)
  by_cases a2 : 10 < l.length
  ·have b2 : ((10 : Int) < (l.length : Int)) = True := eq_true (by omega)
   by_cases a3 : l.length ≤ 60
   ·have b3 : ((l.length : Int) ≤ 60) = True := eq_true (by omega)
    go_enter Tryz.func12, Tryz.ntmps12
    go_wp2_with fail
    go_ret
    exact HvRet.t (.refl _ _)
   ·have b3 : ((l.length : Int) ≤ 60) = False := eq_false (by omega)
    by_cases a4 : 100 < l.length
    ·have b4 : ((100 : Int) < (l.length : Int)) = True := eq_true (by omega)
     go_enter Tryz.func12, Tryz.ntmps12
     go_wp2_with fail
     go_ret
     exact HvRet.t (.refl _ _)
    ·have b4 : ((100 : Int) < (l.length : Int)) = False := eq_false (by omega)
     go_enter Tryz.func12, Tryz.ntmps12
     have hl100 := Lib.hid (show l.length ≤ 100 by omega)
     go_wp2_with fail
     go_loopw [5] (fun i wr => hvRel l w i wr) (fun i _ => l.length - (intOf i).toNat)
     case atStart => exact ⟨0, rfl, Nat.zero_le _, .refl _ _⟩
     case round =>
      obtain ⟨k, rfl, hk, hB⟩ := hrel
      by_cases hlt : k < l.length
      ·obtain ⟨b, off, a1, c1, a2, c2, a3, c3, rfl, -, s0, s1, s2, s3, s4, z1, z2, hI, hU, hP⟩ := (h2H.out.below hB).ent k hlt
       obtain ⟨W, hW⟩ : ∃ W, wr.alloc (.cells #[.string (eNm l[k]), .string (eBy l[k]), .slice a1 (eSays l[k]).length c1, .slice a2 (eUses l[k]).length c2, .slice a3 (ePf l[k]).length c3] 37) = W := ⟨_, rfl⟩
       have hBW : Below wr.heap.size wr W := by rw [← hW]; exact below1 wr _
       have p0 : W.cell? ⟨wr.heap.size, 0, none⟩ = some (.string (eNm l[k])) := by rw [← hW]; clear hW; go_simp
       have p1 : W.cell? ⟨wr.heap.size, 1, none⟩ = some (.string (eBy l[k])) := by rw [← hW]; clear hW; go_simp
       have p2 : W.cell? ⟨wr.heap.size, 2, none⟩ = some (.slice a1 (eSays l[k]).length c1) := by rw [← hW]; clear hW; go_simp
       have q3 : W.cell? ⟨wr.heap.size, 3, none⟩ = some (.slice a2 (eUses l[k]).length c2) := by rw [← hW]; clear hW; go_simp
       have p4 : W.cell? ⟨wr.heap.size, 4, none⟩ = some (.slice a3 (ePf l[k]).length c3) := by rw [← hW]; clear hW; go_simp
       have hUW := hU.below hBW
       obtain ⟨us, hus⟩ : ∃ us, eUses l[k] = us := ⟨_, rfl⟩
       rw [hus] at hUW s3 q3 hW
       obtain ⟨n2, hn2⟩ : ∃ n2, us.length = n2 := ⟨_, rfl⟩
       have hm2 := hUW.le
       rw [hn2] at s3 q3 hW hm2
       have hUH := Lib.hid hUW
       have husH := Lib.hid hn2
       have hB2H := Lib.hid (bcall hB hBW)
       have m3 := hI.le
       have m4 := hP.le
       clear hI hU hP hUW hB hBW hus hn2
       generalize eNm l[k] = nm at *
       generalize eBy l[k] = bn at *
       generalize (eSays l[k]).length = n1 at *
       generalize (ePf l[k]).length = n3 at *
       unfold big at z1 z2
       by_cases x0 : 100 < nm.size
       ·have y0 : ((100 : Int) < (nm.size : Int)) = True := eq_true (by omega)
        go_wp2_with fail
        go_ret
        exact HvRet.t hB2H.out
       ·have y0 : ((100 : Int) < (nm.size : Int)) = False := eq_false (by omega)
        by_cases x1 : 100 < bn.size
        ·have y1 : ((100 : Int) < (bn.size : Int)) = True := eq_true (by omega)
         go_wp2_with fail
         go_ret
         exact HvRet.t hB2H.out
        ·have y1 : ((100 : Int) < (bn.size : Int)) = False := eq_false (by omega)
         by_cases x2 : 100 < n1
         ·have y2 : ((100 : Int) < (n1 : Int)) = True := eq_true (by omega)
          go_wp2_with fail
          go_ret
          exact HvRet.t hB2H.out
         ·have y2 : ((100 : Int) < (n1 : Int)) = False := eq_false (by omega)
          by_cases x3 : 20 < n2
          ·have y3 : ((20 : Int) < (n2 : Int)) = True := eq_true (by omega)
           go_wp2_with fail
           go_ret
           exact HvRet.t hB2H.out
          ·have y3 : ((20 : Int) < (n2 : Int)) = False := eq_false (by omega)
           by_cases x5 : 12 < n3
           ·have y5 : ((12 : Int) < (n3 : Int)) = True := eq_true (by omega)
            by_cases x6 : n3 ≤ 60
            ·have y6 : ((n3 : Int) ≤ 60) = True := eq_true (by omega)
             go_wp2_with fail
             go_ret
             exact HvRet.t hB2H.out
            ·have y6 : ((n3 : Int) ≤ 60) = False := eq_false (by omega)
             by_cases x7 : 100 < n3
             ·have y7 : ((100 : Int) < (n3 : Int)) = True := eq_true (by omega)
              go_wp2_with fail
              go_ret
              exact HvRet.t hB2H.out
             ·have y7 : ((100 : Int) < (n3 : Int)) = False := eq_false (by omega)
              go_wp2_with fail
              clear p0 p1 p2 p4
              go_loopw [7] (fun i wr => hvRel2 n2 W i wr) (fun i _ => n2 - (intOf i).toNat)
              case atStart => exact ⟨0, rfl, Nat.zero_le _, .refl _ _⟩
              case round =>
               obtain ⟨j, rfl, hj, hBj⟩ := hrel
               have r3 := cell_later hBj q3
               by_cases hjl : j < n2
               ·obtain ⟨b2, o2, rfl, -, qu, hzu⟩ := (hUH.out.below hBj).str j (by have := husH.out; omega)
                generalize us[j]'(by have := husH.out; omega) = u at qu hzu
                by_cases hu : 100 < u.size
                ·have hui : ((100 : Int) < (u.size : Int)) = True := eq_true (by omega)
                 have hBH := Lib.hid (bcall hB2H.out hBj)
                 clear hBj
                 go_wp2_with fail
                 go_ret
                 exact HvRet.t hBH.out
                ·have hui : ((100 : Int) < (u.size : Int)) = False := eq_false (by omega)
                 have hfin := Lib.hid (show hvRel2 n2 W (.int .i64 ((j : Int) + 1)) wr from ⟨j + 1, by simp, hjl, hBj⟩)
                 clear hBj
                 go_wp2_with fail
                 go_roundw
                 case rel => exact hfin.out
                 case measure => simp [intOf]; omega
               ·have hjj : ((j : Int) < (n2 : Int)) = False := eq_false (by omega)
                have hfin := Lib.hid (show hvRel l w (.int .i64 ((k : Int) + 1)) wr from ⟨k + 1, by simp, hlt, bcall hB2H.out hBj⟩)
                clear hBj hjl hj
                go_wp2_with fail
                go_roundw
                case rel => exact hfin.out
                case measure => simp [intOf]; omega
           ·have y5 : ((12 : Int) < (n3 : Int)) = False := eq_false (by omega)
            have y7 : ((100 : Int) < (n3 : Int)) = False := eq_false (by omega)
            go_wp2_with fail
            clear p0 p1 p2 p4
            go_loopw [7] (fun i wr => hvRel2 n2 W i wr) (fun i _ => n2 - (intOf i).toNat)
            case atStart => exact ⟨0, rfl, Nat.zero_le _, .refl _ _⟩
            case round =>
             obtain ⟨j, rfl, hj, hBj⟩ := hrel
             have r3 := cell_later hBj q3
             by_cases hjl : j < n2
             ·obtain ⟨b2, o2, rfl, -, qu, hzu⟩ := (hUH.out.below hBj).str j (by have := husH.out; omega)
              generalize us[j]'(by have := husH.out; omega) = u at qu hzu
              by_cases hu : 100 < u.size
              ·have hui : ((100 : Int) < (u.size : Int)) = True := eq_true (by omega)
               have hBH := Lib.hid (bcall hB2H.out hBj)
               clear hBj
               go_wp2_with fail
               go_ret
               exact HvRet.t hBH.out
              ·have hui : ((100 : Int) < (u.size : Int)) = False := eq_false (by omega)
               have hfin := Lib.hid (show hvRel2 n2 W (.int .i64 ((j : Int) + 1)) wr from ⟨j + 1, by simp, hjl, hBj⟩)
               clear hBj
               go_wp2_with fail
               go_roundw
               case rel => exact hfin.out
               case measure => simp [intOf]; omega
             ·have hjj : ((j : Int) < (n2 : Int)) = False := eq_false (by omega)
              have hfin := Lib.hid (show hvRel l w (.int .i64 ((k : Int) + 1)) wr from ⟨k + 1, by simp, hlt, bcall hB2H.out hBj⟩)
              clear hBj hjl hj
              go_wp2_with fail
              go_roundw
              case rel => exact hfin.out
              case measure => simp [intOf]; omega
      ·have hkk : ((k : Int) < (l.length : Int)) = False := eq_false (by omega)
       have hBH := Lib.hid hB
       clear hB hlt hk
       go_wp2_with fail
       go_ret
       exact ⟨false, rfl, fun _ => hl100.out, hBH.out⟩
  ·have b2 : ((10 : Int) < (l.length : Int)) = False := eq_false (by omega)
   have b4 : ((100 : Int) < (l.length : Int)) = False := eq_false (by omega)
   go_enter Tryz.func12, Tryz.ntmps12
   have hl100 := Lib.hid (show l.length ≤ 100 by omega)
   go_wp2_with fail
   go_loopw [5] (fun i wr => hvRel l w i wr) (fun i _ => l.length - (intOf i).toNat)
   case atStart => exact ⟨0, rfl, Nat.zero_le _, .refl _ _⟩
   case round =>
    obtain ⟨k, rfl, hk, hB⟩ := hrel
    by_cases hlt : k < l.length
    ·obtain ⟨b, off, a1, c1, a2, c2, a3, c3, rfl, -, s0, s1, s2, s3, s4, z1, z2, hI, hU, hP⟩ := (h2H.out.below hB).ent k hlt
     obtain ⟨W, hW⟩ : ∃ W, wr.alloc (.cells #[.string (eNm l[k]), .string (eBy l[k]), .slice a1 (eSays l[k]).length c1, .slice a2 (eUses l[k]).length c2, .slice a3 (ePf l[k]).length c3] 37) = W := ⟨_, rfl⟩
     have hBW : Below wr.heap.size wr W := by rw [← hW]; exact below1 wr _
     have p0 : W.cell? ⟨wr.heap.size, 0, none⟩ = some (.string (eNm l[k])) := by rw [← hW]; clear hW; go_simp
     have p1 : W.cell? ⟨wr.heap.size, 1, none⟩ = some (.string (eBy l[k])) := by rw [← hW]; clear hW; go_simp
     have p2 : W.cell? ⟨wr.heap.size, 2, none⟩ = some (.slice a1 (eSays l[k]).length c1) := by rw [← hW]; clear hW; go_simp
     have q3 : W.cell? ⟨wr.heap.size, 3, none⟩ = some (.slice a2 (eUses l[k]).length c2) := by rw [← hW]; clear hW; go_simp
     have p4 : W.cell? ⟨wr.heap.size, 4, none⟩ = some (.slice a3 (ePf l[k]).length c3) := by rw [← hW]; clear hW; go_simp
     have hUW := hU.below hBW
     obtain ⟨us, hus⟩ : ∃ us, eUses l[k] = us := ⟨_, rfl⟩
     rw [hus] at hUW s3 q3 hW
     obtain ⟨n2, hn2⟩ : ∃ n2, us.length = n2 := ⟨_, rfl⟩
     have hm2 := hUW.le
     rw [hn2] at s3 q3 hW hm2
     have hUH := Lib.hid hUW
     have husH := Lib.hid hn2
     have hB2H := Lib.hid (bcall hB hBW)
     have m3 := hI.le
     have m4 := hP.le
     clear hI hU hP hUW hB hBW hus hn2
     generalize eNm l[k] = nm at *
     generalize eBy l[k] = bn at *
     generalize (eSays l[k]).length = n1 at *
     generalize (ePf l[k]).length = n3 at *
     unfold big at z1 z2
     by_cases x0 : 100 < nm.size
     ·have y0 : ((100 : Int) < (nm.size : Int)) = True := eq_true (by omega)
      go_wp2_with fail
      go_ret
      exact HvRet.t hB2H.out
     ·have y0 : ((100 : Int) < (nm.size : Int)) = False := eq_false (by omega)
      by_cases x1 : 100 < bn.size
      ·have y1 : ((100 : Int) < (bn.size : Int)) = True := eq_true (by omega)
       go_wp2_with fail
       go_ret
       exact HvRet.t hB2H.out
      ·have y1 : ((100 : Int) < (bn.size : Int)) = False := eq_false (by omega)
       by_cases x2 : 100 < n1
       ·have y2 : ((100 : Int) < (n1 : Int)) = True := eq_true (by omega)
        go_wp2_with fail
        go_ret
        exact HvRet.t hB2H.out
       ·have y2 : ((100 : Int) < (n1 : Int)) = False := eq_false (by omega)
        by_cases x3 : 20 < n2
        ·have y3 : ((20 : Int) < (n2 : Int)) = True := eq_true (by omega)
         go_wp2_with fail
         go_ret
         exact HvRet.t hB2H.out
        ·have y3 : ((20 : Int) < (n2 : Int)) = False := eq_false (by omega)
         by_cases x5 : 12 < n3
         ·have y5 : ((12 : Int) < (n3 : Int)) = True := eq_true (by omega)
          by_cases x6 : n3 ≤ 60
          ·have y6 : ((n3 : Int) ≤ 60) = True := eq_true (by omega)
           go_wp2_with fail
           go_ret
           exact HvRet.t hB2H.out
          ·have y6 : ((n3 : Int) ≤ 60) = False := eq_false (by omega)
           by_cases x7 : 100 < n3
           ·have y7 : ((100 : Int) < (n3 : Int)) = True := eq_true (by omega)
            go_wp2_with fail
            go_ret
            exact HvRet.t hB2H.out
           ·have y7 : ((100 : Int) < (n3 : Int)) = False := eq_false (by omega)
            go_wp2_with fail
            clear p0 p1 p2 p4
            go_loopw [7] (fun i wr => hvRel2 n2 W i wr) (fun i _ => n2 - (intOf i).toNat)
            case atStart => exact ⟨0, rfl, Nat.zero_le _, .refl _ _⟩
            case round =>
             obtain ⟨j, rfl, hj, hBj⟩ := hrel
             have r3 := cell_later hBj q3
             by_cases hjl : j < n2
             ·obtain ⟨b2, o2, rfl, -, qu, hzu⟩ := (hUH.out.below hBj).str j (by have := husH.out; omega)
              generalize us[j]'(by have := husH.out; omega) = u at qu hzu
              by_cases hu : 100 < u.size
              ·have hui : ((100 : Int) < (u.size : Int)) = True := eq_true (by omega)
               have hBH := Lib.hid (bcall hB2H.out hBj)
               clear hBj
               go_wp2_with fail
               go_ret
               exact HvRet.t hBH.out
              ·have hui : ((100 : Int) < (u.size : Int)) = False := eq_false (by omega)
               have hfin := Lib.hid (show hvRel2 n2 W (.int .i64 ((j : Int) + 1)) wr from ⟨j + 1, by simp, hjl, hBj⟩)
               clear hBj
               go_wp2_with fail
               go_roundw
               case rel => exact hfin.out
               case measure => simp [intOf]; omega
             ·have hjj : ((j : Int) < (n2 : Int)) = False := eq_false (by omega)
              have hfin := Lib.hid (show hvRel l w (.int .i64 ((k : Int) + 1)) wr from ⟨k + 1, by simp, hlt, bcall hB2H.out hBj⟩)
              clear hBj hjl hj
              go_wp2_with fail
              go_roundw
              case rel => exact hfin.out
              case measure => simp [intOf]; omega
         ·have y5 : ((12 : Int) < (n3 : Int)) = False := eq_false (by omega)
          have y7 : ((100 : Int) < (n3 : Int)) = False := eq_false (by omega)
          go_wp2_with fail
          clear p0 p1 p2 p4
          go_loopw [7] (fun i wr => hvRel2 n2 W i wr) (fun i _ => n2 - (intOf i).toNat)
          case atStart => exact ⟨0, rfl, Nat.zero_le _, .refl _ _⟩
          case round =>
           obtain ⟨j, rfl, hj, hBj⟩ := hrel
           have r3 := cell_later hBj q3
           by_cases hjl : j < n2
           ·obtain ⟨b2, o2, rfl, -, qu, hzu⟩ := (hUH.out.below hBj).str j (by have := husH.out; omega)
            generalize us[j]'(by have := husH.out; omega) = u at qu hzu
            by_cases hu : 100 < u.size
            ·have hui : ((100 : Int) < (u.size : Int)) = True := eq_true (by omega)
             have hBH := Lib.hid (bcall hB2H.out hBj)
             clear hBj
             go_wp2_with fail
             go_ret
             exact HvRet.t hBH.out
            ·have hui : ((100 : Int) < (u.size : Int)) = False := eq_false (by omega)
             have hfin := Lib.hid (show hvRel2 n2 W (.int .i64 ((j : Int) + 1)) wr from ⟨j + 1, by simp, hjl, hBj⟩)
             clear hBj
             go_wp2_with fail
             go_roundw
             case rel => exact hfin.out
             case measure => simp [intOf]; omega
           ·have hjj : ((j : Int) < (n2 : Int)) = False := eq_false (by omega)
            have hfin := Lib.hid (show hvRel l w (.int .i64 ((k : Int) + 1)) wr from ⟨k + 1, by simp, hlt, bcall hB2H.out hBj⟩)
            clear hBj hjl hj
            go_wp2_with fail
            go_roundw
            case rel => exact hfin.out
            case measure => simp [intOf]; omega
    ·have hkk : ((k : Int) < (l.length : Int)) = False := eq_false (by omega)
     have hBH := Lib.hid hB
     clear hB hlt hk
     go_wp2_with fail
     go_ret
     exact ⟨false, rfl, fun _ => hl100.out, hBH.out⟩
end Go.Proofs.YtpmnnoopoblpgaaGreat

/- Walks: the chapter's example of a library; SameTexts. -/
namespace Go.Proofs.YtpmnnoopoblpgaaGreat
open Go Go.RowKit Go.Maps

abbrev skK : Obj := .cells #[.int .i64 0, .int .i64 (-1), .int .i64 0, .int .i64 (-2), .int .i64 (-1)] 3
abbrev skC : Obj := .cells #[.int .i64 0, .int .i64 0, .int .i64 (-1), .int .i64 0, .int .i64 (-2), .int .i64 (-3), .int .i64 0, .int .i64 0, .int .i64 (-1), .int .i64 (-2), .int .i64 0, .int .i64 (-1), .int .i64 (-3)] 3
abbrev skP : Obj := .cells #[.int .i64 1, .int .i64 1, .int .i64 0, .int .i64 1, .int .i64 0, .int .i64 0, .int .i64 2, .int .i64 0, .int .i64 1, .int .i64 2, .int .i64 2, .int .i64 1] 117
abbrev skT : Obj := .cells #[.int .i64 0, .int .i64 (-1), .int .i64 (-1)] 3
abbrev skU : Obj := .cells #[.string nK, .string nS] 9
abbrev skE1 (n : Nat) : Obj := .cells #[.string nK, .string nAnn, .slice (some ⟨n, 0, none⟩) 5 5, .slice none 0 0, .slice none 0 0] 37
abbrev skE2 (n : Nat) : Obj := .cells #[.string nS, .string nAnn, .slice (some ⟨n + 1 + 1, 0, none⟩) 13 13, .slice none 0 0, .slice none 0 0] 37
abbrev skE3 (n : Nat) : Obj := .cells #[.string nI, .string nBob, .slice (some ⟨n + 1 + 1 + 1 + 1 + 1, 0, none⟩) 3 3, .slice (some ⟨n + 1 + 1 + 1 + 1 + 1 + 1, 0, none⟩) 2 2, .slice (some ⟨n + 1 + 1 + 1 + 1, 0, none⟩) 4 4] 37
abbrev skS : Obj := .cells #[.string ⟨#[67]⟩, .int .i64 2] 115
abbrev skL (n : Nat) : Obj := .cells #[.string nK, .string nAnn, .slice (some ⟨n, 0, none⟩) 5 5, .slice none 0 0, .slice none 0 0, .string nS, .string nAnn, .slice (some ⟨n + 1 + 1, 0, none⟩) 13 13, .slice none 0 0, .slice none 0 0,
 .string nI, .string nBob, .slice (some ⟨n + 1 + 1 + 1 + 1 + 1, 0, none⟩) 3 3, .slice (some ⟨n + 1 + 1 + 1 + 1 + 1 + 1, 0, none⟩) 2 2, .slice (some ⟨n + 1 + 1 + 1 + 1, 0, none⟩) 4 4] 37
abbrev skW (w : World) : World := (((((((w.alloc skK).alloc (skE1 w.heap.size)).alloc skC).alloc (skE2 w.heap.size)).alloc skP).alloc skT).alloc skU).alloc (skE3 w.heap.size)
theorem inr0 : inRange 0 := by unfold inRange; decide
theorem inr1 : inRange 1 := by unfold inRange; decide
theorem inr2 : inRange 2 := by unfold inRange; decide
structure SkAt (n : Nat) (W : World) : Prop where
 k : Ints (fun _ => True) W (some ⟨n, 0, none⟩) 5 aw4K
 c : Ints (fun _ => True) W (some ⟨n + 1 + 1, 0, none⟩) 13 aw4C
 p : Steps (fun _ => True) W (some ⟨n + 1 + 1 + 1 + 1, 0, none⟩) 4 aw4P
 t : Ints (fun _ => True) W (some ⟨n + 1 + 1 + 1 + 1 + 1, 0, none⟩) 3 skI
 u : Sl strE (fun _ => True) W (some ⟨n + 1 + 1 + 1 + 1 + 1 + 1, 0, none⟩) 2 [nK, nS]
theorem SkAt.below {n : Nat} {W W' : World} (h : SkAt n W) (hb : Below W.heap.size W W') : SkAt n W' := ⟨h.k.below hb, h.c.below hb, h.p.below hb, h.t.below hb, h.u.below hb⟩
theorem sk_at (w : World) : SkAt w.heap.size (skW w) ∧ Below w.heap.size w (skW w) ∧ (skW w).heap.size = w.heap.size + 8 := by
 have hK := (Ints.new w aw4K 3 (by decide) (by unfold inRange; decide)).any
 obtain ⟨W1, hW1⟩ : ∃ W, w.alloc skK = W := ⟨_, rfl⟩
 rw [show w.alloc (.cells (aw4K.map (Value.int .i64)).toArray 3) = w.alloc skK from rfl, hW1] at hK
 have z1 : W1.heap.size = w.heap.size + 1 := by rw [← hW1]; simp
 have b1 : Below w.heap.size w W1 := by rw [← hW1]; exact below1 _ _
 obtain ⟨W2, hW2⟩ : ∃ W, W1.alloc (skE1 w.heap.size) = W := ⟨_, rfl⟩
 have z2 : W2.heap.size = w.heap.size + 1 + 1 := by rw [← hW2]; simp [z1]
 have b2 : Below W1.heap.size W1 W2 := by rw [← hW2]; exact below1 _ _
 have hC := (Ints.new W2 aw4C 3 (by decide) (by unfold inRange; decide)).any
 obtain ⟨W3, hW3⟩ : ∃ W, W2.alloc skC = W := ⟨_, rfl⟩
 rw [show W2.alloc (.cells (aw4C.map (Value.int .i64)).toArray 3) = W2.alloc skC from rfl, hW3, z2] at hC
 have z3 : W3.heap.size = w.heap.size + 1 + 1 + 1 := by rw [← hW3]; simp [z2]
 have b3 : Below W2.heap.size W2 W3 := by rw [← hW3]; exact below1 _ _
 obtain ⟨W4, hW4⟩ : ∃ W, W3.alloc (skE2 w.heap.size) = W := ⟨_, rfl⟩
 have z4 : W4.heap.size = w.heap.size + 1 + 1 + 1 + 1 := by rw [← hW4]; simp [z3]
 have b4 : Below W3.heap.size W3 W4 := by rw [← hW4]; exact below1 _ _
 have hP := (Sl.new (E := stpE) (S := fun _ => False) W4 [[.int .i64 1, .int .i64 1, .int .i64 0], [.int .i64 1, .int .i64 0, .int .i64 0], [.int .i64 2, .int .i64 0, .int .i64 1], [.int .i64 2, .int .i64 2, .int .i64 1]] aw4P 117 rfl (by decide) (fun i h1 h2 => by
  match i, h1 with
  | 0, _ => exact ⟨[_], _, rfl, ⟨rfl, (inr1 : inRange 1)⟩, [_], [_], rfl, ⟨rfl, (inr1 : inRange 1)⟩, ⟨rfl, (inr0 : inRange 0)⟩⟩
  | 1, _ => exact ⟨[_], _, rfl, ⟨rfl, (inr1 : inRange 1)⟩, [_], [_], rfl, ⟨rfl, (inr0 : inRange 0)⟩, ⟨rfl, (inr0 : inRange 0)⟩⟩
  | 2, _ => exact ⟨[_], _, rfl, ⟨rfl, (inr2 : inRange 2)⟩, [_], [_], rfl, ⟨rfl, (inr0 : inRange 0)⟩, ⟨rfl, (inr1 : inRange 1)⟩⟩
  | 3, _ => exact ⟨[_], _, rfl, ⟨rfl, (inr2 : inRange 2)⟩, [_], [_], rfl, ⟨rfl, (inr2 : inRange 2)⟩, ⟨rfl, (inr1 : inRange 1)⟩⟩)).any
 obtain ⟨W5, hW5⟩ : ∃ W, W4.alloc skP = W := ⟨_, rfl⟩
 have hP5 : Steps (fun _ => True) W5 (some ⟨w.heap.size + 1 + 1 + 1 + 1, 0, none⟩) 4 aw4P := by rw [← z4, ← hW5]; exact hP
 have z5 : W5.heap.size = w.heap.size + 1 + 1 + 1 + 1 + 1 := by rw [← hW5]; simp [z4]
 have b5 : Below W4.heap.size W4 W5 := by rw [← hW5]; exact below1 _ _
 have hT := (Ints.new W5 skI 3 (by decide) (by unfold inRange; decide)).any
 obtain ⟨W6, hW6⟩ : ∃ W, W5.alloc skT = W := ⟨_, rfl⟩
 rw [show W5.alloc (.cells (skI.map (Value.int .i64)).toArray 3) = W5.alloc skT from rfl, hW6, z5] at hT
 have z6 : W6.heap.size = w.heap.size + 1 + 1 + 1 + 1 + 1 + 1 := by rw [← hW6]; simp [z5]
 have b6 : Below W5.heap.size W5 W6 := by rw [← hW6]; exact below1 _ _
 have hU := (Sl.new (E := strE) (S := fun _ => False) W6 [[.string nK], [.string nS]] [nK, nS] 9 rfl (by decide) (fun i h1 h2 => by
  match i, h1 with
  | 0, _ => exact ⟨rfl, (by decide : 1 ≤ big)⟩
  | 1, _ => exact ⟨rfl, (by decide : 1 ≤ big)⟩)).any
 obtain ⟨W7, hW7⟩ : ∃ W, W6.alloc skU = W := ⟨_, rfl⟩
 have hU7 : Sl strE (fun _ => True) W7 (some ⟨w.heap.size + 1 + 1 + 1 + 1 + 1 + 1, 0, none⟩) 2 [nK, nS] := by rw [← z6, ← hW7]; exact hU
 have z7 : W7.heap.size = w.heap.size + 1 + 1 + 1 + 1 + 1 + 1 + 1 := by rw [← hW7]; simp [z6]
 have b7 : Below W6.heap.size W6 W7 := by rw [← hW7]; exact below1 _ _
 obtain ⟨W8, hW8⟩ : ∃ W, W7.alloc (skE3 w.heap.size) = W := ⟨_, rfl⟩
 have z8 : W8.heap.size = w.heap.size + 1 + 1 + 1 + 1 + 1 + 1 + 1 + 1 := by rw [← hW8]; simp [z7]
 have b8 : Below W7.heap.size W7 W8 := by rw [← hW8]; exact below1 _ _
 have hWW : skW w = W8 := by unfold skW; rw [hW1, hW2, hW3, hW4, hW5, hW6, hW7, hW8]
 rw [hWW]
 refine ⟨⟨(((((((hK.below b2).below b3).below b4).below b5).below b6).below b7).below b8), ((((hC.below b4).below b5).below b6).below b7).below b8, ((hP5.below b6).below b7).below b8, (hT.below b7).below b8, hU7.below b8⟩, ?_, by omega⟩
 exact bcall (bcall (bcall (bcall (bcall (bcall (bcall b1 b2) b3) b4) b5) b6) b7) b8
theorem sk_sign (w : World) : Sign (fun _ => True) (w.alloc skS) (some ⟨w.heap.size, 0, none⟩) 1 aw4S :=
 (Sl.new (E := symE) (S := fun _ => False) w [[.string ⟨#[67]⟩, .int .i64 2]] aw4S 115 rfl (by decide) (fun i h1 h2 => by
  match i, h1 with
  | 0, _ => exact ⟨[_], [_], rfl, ⟨rfl, (by decide : 1 ≤ big)⟩, ⟨rfl, (by unfold inRange; decide : inRange 2)⟩⟩)).any
theorem sk_lib {n : Nat} {W : World} (h : SkAt n W) : LibL (fun _ => True) (W.alloc (skL n)) (some ⟨W.heap.size, 0, none⟩) 3 skiL :=
 (Sl.new (E := entE) (S := fun _ => True) W [[.string nK, .string nAnn, .slice (some ⟨n, 0, none⟩) 5 5, .slice none 0 0, .slice none 0 0], [.string nS, .string nAnn, .slice (some ⟨n + 1 + 1, 0, none⟩) 13 13, .slice none 0 0, .slice none 0 0],
  [.string nI, .string nBob, .slice (some ⟨n + 1 + 1 + 1 + 1 + 1, 0, none⟩) 3 3, .slice (some ⟨n + 1 + 1 + 1 + 1 + 1 + 1, 0, none⟩) 2 2, .slice (some ⟨n + 1 + 1 + 1 + 1, 0, none⟩) 4 4]] skiL 37 rfl (by decide) (fun i h1 h2 => by
  match i, h1 with
  | 0, _ => exact ⟨[_], _, rfl, ⟨rfl, (by decide : 1 ≤ big)⟩, [_], _, rfl, ⟨rfl, (by decide : 3 ≤ big)⟩, [_], _, rfl, ⟨_, _, rfl, h.k⟩, [_], [_], rfl, ⟨none, 0, rfl, Sl.empty⟩, ⟨none, 0, rfl, Sl.empty⟩⟩
  | 1, _ => exact ⟨[_], _, rfl, ⟨rfl, (by decide : 1 ≤ big)⟩, [_], _, rfl, ⟨rfl, (by decide : 3 ≤ big)⟩, [_], _, rfl, ⟨_, _, rfl, h.c⟩, [_], [_], rfl, ⟨none, 0, rfl, Sl.empty⟩, ⟨none, 0, rfl, Sl.empty⟩⟩
  | 2, _ => exact ⟨[_], _, rfl, ⟨rfl, (by decide : 1 ≤ big)⟩, [_], _, rfl, ⟨rfl, (by decide : 3 ≤ big)⟩, [_], _, rfl, ⟨_, _, rfl, h.t⟩, [_], [_], rfl, ⟨_, _, rfl, h.u⟩, ⟨_, _, rfl, h.p⟩⟩)).any
def SkiRet (w : World) (e : Ending) (w' : World) : Prop := ∃ sa sc la lc, e = .returned (.tuple #[.slice sa 1 sc, .slice la 3 lc]) ∧ Sign (fun _ => True) w' sa sc aw4S ∧ LibL (fun _ => True) w' la lc skiL ∧ Below w.heap.size w w'
set_option maxHeartbeats 4000000 in
theorem ski_any (w : World) : Calls Tryz.prog 64 #[] w (SkiRet w) := by
 obtain ⟨hA, hB, hz⟩ := sk_at w
 have hA1 := hA.below (below1 (skW w) skS)
 have s1 := (sk_sign (skW w)).below (below1 _ (skL w.heap.size))
 have l1 := sk_lib hA1
 have l2 := (sk_lib hA).below (below1 _ skS)
 have s2 := sk_sign ((skW w).alloc (skL w.heap.size))
 have e1 : (skW w).heap.size = w.heap.size + 1 + 1 + 1 + 1 + 1 + 1 + 1 + 1 := hz
 have e2 : ((skW w).alloc skS).heap.size = w.heap.size + 1 + 1 + 1 + 1 + 1 + 1 + 1 + 1 + 1 := by rw [World.size_alloc, e1]
 have e3 : ((skW w).alloc (skL w.heap.size)).heap.size = w.heap.size + 1 + 1 + 1 + 1 + 1 + 1 + 1 + 1 + 1 := by rw [World.size_alloc, e1]
 rw [e1] at s1 l2
 rw [e2] at l1
 rw [e3] at s2
 have hb1 := Below.drew (bcall hB (below2 (skW w) skS (skL w.heap.size)))
 have hb2 := Below.drew (bcall hB (below2 (skW w) (skL w.heap.size) skS))
 have r1 := Lib.hid (And.intro (s1.drew (Drew.mk _ 1)) (And.intro (l1.drew (Drew.mk _ 1)) hb1))
 have r2 := Lib.hid (And.intro (s2.drew (Drew.mk _ 1)) (And.intro (l2.drew (Drew.mk _ 1)) hb2))
 clear hA hB hz hA1 s1 l1 l2 s2 e1 e2 e3 hb1 hb2
 go_enter Tryz.func64, Tryz.ntmps64
 go_wp2_with fail
 go_region
 all_goals go_wp2_with fail
 all_goals go_ret2
 ·exact ⟨_, _, _, _, rfl, r1.out.1, r1.out.2.1, r1.out.2.2⟩
 ·exact ⟨_, _, _, _, rfl, r2.out.1, r2.out.2.1, r2.out.2.2⟩
end Go.Proofs.YtpmnnoopoblpgaaGreat

/- Walks: SameTexts; awake of the laws on libraries. -/
namespace Go.Proofs.YtpmnnoopoblpgaaGreat
open Go Go.RowKit Go.Maps

theorem stake_ne {l1 l2 : List ByteArray} {k : Nat} (h1 : k < l1.length) (h2 : k < l2.length) (h : l1[k] ≠ l2[k]) : l1 ≠ l2 := fun e => by subst e; exact h rfl
theorem stake_succ {l1 l2 : List ByteArray} {k : Nat} (h1 : k < l1.length) (h2 : k < l2.length) (ht : l1.take k = l2.take k) (h : l1[k] = l2[k]) : l1.take (k + 1) = l2.take (k + 1) := by
 rw [List.take_succ_eq_append_getElem h1, List.take_succ_eq_append_getElem h2, ht, h]
set_option maxHeartbeats 1000000 in
theorem SameTexts_any {S1 S2 : Nat → Prop} (a1 a2 : Option Addr) (c1 c2 : Nat) (l1 l2 : List ByteArray) (w : World) (h1 : Sl strE S1 w a1 c1 l1) (h2 : Sl strE S2 w a2 c2 l2) :
  Calls Tryz.prog 17 #[.slice a1 l1.length c1, .slice a2 l2.length c2] w fun e w' => e = .returned (.bool (decide (l1 = l2))) ∧ Drew w w' := by
 have m1 := h1.le
 have m2 := h2.le
 by_cases hl : l1.length = l2.length
 ·have hlH := Lib.hid hl
  have h1H := Lib.hid h1
  have h2H := Lib.hid h2
  clear h1 h2
  go_enter Tryz.func17, Tryz.ntmps17
  go_wp2
  clear hl
  go_loopw [5] (fun i wr => ∃ k : Nat, k ≤ l1.length ∧ i = .int .i64 k ∧ l1.take k = l2.take k ∧ Drew w wr) (fun i _ => l1.length - (intOf i).toNat)
  case atStart => exact ⟨0, by omega, rfl, rfl, .refl _⟩
  case round =>
   obtain ⟨k, hk, rfl, ht, n, rfl⟩ := hrel
   have htH := Lib.hid ht
   clear ht
   have hle := hlH.out
   by_cases hlt : k < l1.length
   ·have hlt2 : k < l2.length := by omega
    obtain ⟨b1, o1, rfl, -, q1, -⟩ := h1H.out.str k hlt
    obtain ⟨b2, o2, rfl, -, q2, -⟩ := h2H.out.str k hlt2
    clear hle
    obtain ⟨x, hx⟩ : ∃ x, l1[k] = x := ⟨_, rfl⟩
    obtain ⟨y, hy⟩ : ∃ y, l2[k] = y := ⟨_, rfl⟩
    rw [hx] at q1
    rw [hy] at q2
    by_cases hxy : x = y
    ·have hq := str_eq hxy
     have hfin := Lib.hid (stake_succ hlt hlt2 htH.out (by rw [hx, hy]; exact hxy))
     clear hx hy hxy
     go_wp2_with fail
     go_quiet (fail)
     all_goals go_wp2_with fail
     all_goals exact ⟨⟨k + 1, by omega, by go_num, hfin.out, .mk _ _⟩, by simp [intOf]; omega⟩
    ·have hq := str_neq hxy
     have hfin := Lib.hid (stake_ne hlt hlt2 (by rw [hx, hy]; exact hxy))
     clear hx hy hxy
     go_wp2_with fail
     go_quiet (fail)
     all_goals go_wp2_with fail
     all_goals go_ret
     all_goals exact ⟨ret_bool (decide_eq_false hfin.out).symm, .mk2 _ _ _⟩
   ·have hk2 : ¬ k < l2.length := by omega
    have hkl : ((k : Int) < (l1.length : Int)) = False := eq_false (by omega)
    have hfin := Lib.hid (show l1 = l2 by
     have := htH.out
     rw [List.take_of_length_le (by omega), List.take_of_length_le (by omega)] at this
     exact this)
    clear hle hlt hk
    go_wp2_with fail
    go_ret
    exact ⟨ret_bool (decide_eq_true hfin.out).symm, .mk _ _⟩
 ·clear h1 h2
  have hb := int_ne hl
  go_enter Tryz.func17, Tryz.ntmps17
  go_wp2_with fail
  go_ret
  exact ⟨ret_bool (decide_eq_false (fun e => hl (by rw [e]))).symm, .refl _⟩
theorem ski_misB (x : ByteArray) : misB skiL x = false := by
 cases h : misB skiL x with
 | false => rfl
 | true =>
  unfold misB at h
  rw [Bool.and_eq_true, List.any_eq_true] at h
  obtain ⟨⟨y, hy, hu⟩, hn⟩ := h
  have := ski_inside y hy x (memB_iff.1 hu)
  cases ha : atN skiL x <;> rw [ha] at hn this <;> simp_all
theorem ski_sound : soundE aw4S skiL true = (true, 0) := by
 have h1 : noneB (misB skiL) = true := by unfold noneB; simp only [decide_eq_true_eq]; exact ski_misB
 have h2 : noneB (faiB aw4S skiL) = true := by
  unfold noneB
  simp only [decide_eq_true_eq]
  intro x
  unfold faiB
  rw [ski_misB, Bool.false_or]
  cases h : chB skiL (fun i => !holdX aw4S skiL i) x with
  | false => rfl
  | true =>
   obtain ⟨i, hi, h1, -⟩ := chB_iff.1 h
   rw [ski_hold i hi] at h1
   cases h1
 unfold soundE
 rw [ski_ok, h1, h2]
 rfl
theorem NamesRet.is {f : ByteArray → Bool} {er : Int} {w : World} {e : Ending} {w' : World} {M : List ByteArray} (h : NamesRet f er w e w') (hM : AscN M) (hf : ∀ x, f x = true ↔ x ∈ M) :
  ∃ a c, e = .returned (.tuple #[.slice a M.length c, .int .i64 er]) ∧ Sl strE (fun b => w.heap.size ≤ b) w' a c M ∧ Below w.heap.size w w' := by
 obtain ⟨v, L, rfl, h1, h2, h3, h4⟩ := h
 have e : L = M := h2.uniq hM (fun x => (h3 x).trans (hf x))
 subst e
 obtain ⟨a, c, rfl, hs⟩ := OwnS.strs h1
 exact ⟨a, c, rfl, hs, h4⟩
set_option maxRecDepth 100000 in
set_option maxHeartbeats 4000000 in
theorem awake6_any (w : World) : Calls Tryz.prog 11 #[] w fun e w' => e = .returned (.bool true) ∧ Below w.heap.size w w' := by
 have v0 := Lib.hid (ski_any w)
 go_enter Tryz.func11, Tryz.ntmps11
 go_wp2_with fail
 refine v0.out.mono ?_
 rintro e w1 ⟨sa, sc, la, lc, rfl, hS, hL, hb1⟩
 have v1 := Sound_any (b := true) sa la sc lc aw4S skiL w1 hS hL (by decide) (fun B W xb _ hD => circNil_no hD (fun x _ => ski_loop x))
 rw [ski_sound] at v1
 have v1H := Lib.hid v1
 have hSH := Lib.hid hS
 have hLH := Lib.hid hL
 have hb1H := Lib.hid hb1
 clear v1 hS hL hb1
 go_wp2_with fail
 refine v1H.out.mono ?_
 rintro e w2 ⟨rfl, hb2⟩
 have v2 := Leans_any sa la sc lc aw4S skiL nI (by decide) w2 (hSH.out.below hb2) (hLH.out.below hb2) (by decide)
 have hbb := bcall hb1H.out hb2
 have e2 : leansE aw4S skiL nI = (fun x => rchB skiL (fun _ => true) nI x && (atN skiL x).isSome, 0) := by
  have : atN skiL nI = some 2 := by decide
  unfold leansE; rw [ski_ok, this]; rfl
 rw [e2] at v2
 have v2H := Lib.hid v2
 have hb2H := Lib.hid hb2
 have hbH := Lib.hid hbb
 clear v2 hb2 hbb e2
 go_wp2_with fail
 refine v2H.out.mono ?_
 rintro e w3 h3
 obtain ⟨a3, c3, rfl, hI3, hb3⟩ := h3.is ski_asc ski_leans
 have hb23 := bcall hb2H.out hb3
 have hbb := bcall hbH.out hb3
 have hT := Ints.new w3 skI 3 (by decide) (by unfold inRange; decide)
 have hb4 := below1 w3 skT
 have hT4 : Ints (fun b => b = w3.heap.size) (w3.alloc skT) (some ⟨w3.heap.size, 0, none⟩) 3 skI := hT
 have v3 := Breaks_any sa la (some ⟨w3.heap.size, 0, none⟩) sc lc 3 aw4S skiL nK skI (by decide) (w3.alloc skT) ((hSH.out.below hb23).below hb4) ((hLH.out.below hb23).below hb4) hT4 (by decide)
 have e3 : breaksE aw4S skiL nK skI = (chB skiL (fun k => holdX aw4S skiL k && !holdX aw4S skiL2 k), 0) := by
  have h1 : atN skiL nK = some 0 := by decide
  have h2 : isCanonT aw4S skI = true := by decide +kernel
  have h4 : setSays skiL 0 skI = skiL2 := rfl
  unfold breaksE
  rw [ski_ok, h2, h1]
  show (chB skiL (fun k => holdX aw4S skiL k && !holdX aw4S (setSays skiL 0 skI) k), (0 : Int)) = _
  rw [h4]
 rw [e3] at v3
 have v3H := Lib.hid v3
 have hI3H := Lib.hid (hI3.below hb4)
 have hbH3 := Lib.hid (bcall hbb hb4)
 clear h3 hb3 hI3 hb23 hbb hT hb4 hT4 v3 e3
 go_wp2_with fail
 refine v3H.out.mono ?_
 rintro e w5 h5
 obtain ⟨a5, c5, rfl, hI5, hb5⟩ := h5.is (List.pairwise_singleton _ _) ski_breaks
 have hI3' := hI3H.out.below hb5
 have hbb := bcall hbH3.out hb5
 have hu1 := (Sl.new (E := strE) (S := fun _ => False) w5 [[.string nK], [.string nS]] [nK, nS] 9 rfl (by decide) (fun i h1 h2 => by
  match i, h1 with
  | 0, _ => exact ⟨rfl, (by decide : 1 ≤ big)⟩
  | 1, _ => exact ⟨rfl, (by decide : 1 ≤ big)⟩))
 have hb6 := below1 w5 skU
 have hu1' : Sl strE (fun b => False ∨ b = w5.heap.size) (w5.alloc skU) (some ⟨w5.heap.size, 0, none⟩) 2 [nK, nS] := hu1
 have v5 := SameTexts_any a3 (some ⟨w5.heap.size, 0, none⟩) c3 2 [nK, nS] [nK, nS] (w5.alloc skU) (hI3'.below hb6) hu1'
 have v5H := Lib.hid v5
 have hI5H := Lib.hid (hI5.below hb6)
 have hbH6 := Lib.hid (bcall hbb hb6)
 clear h5 hb5 hI5 hI3' hbb hu1 hu1' hb6 v5
 go_wp2_with fail
 refine v5H.out.mono ?_
 rintro e w7 ⟨rfl, hd7⟩
 have hI7 := hI5H.out.below (hd7.below _)
 have hbb := bcall hbH6.out (hd7.below _)
 have hu2 := (Sl.new (E := strE) (S := fun _ => False) w7 [[.string nI]] [nI] 9 rfl (by decide) (fun i h1 h2 => by
  match i, h1 with
  | 0, _ => exact ⟨rfl, (by decide : 1 ≤ big)⟩))
 have hb8 := below1 w7 (.cells #[.string nI] 9)
 have hu2' : Sl strE (fun b => False ∨ b = w7.heap.size) (w7.alloc (.cells #[.string nI] 9)) (some ⟨w7.heap.size, 0, none⟩) 1 [nI] := hu2
 have v7 := SameTexts_any a5 (some ⟨w7.heap.size, 0, none⟩) c5 1 [nI] [nI] (w7.alloc (.cells #[.string nI] 9)) (hI7.below hb8) hu2'
 have v7H := Lib.hid v7
 have hbH8 := Lib.hid (bcall hbb hb8)
 clear hd7 hI7 hbb hu2 hu2' hb8 v7
 go_wp2_with fail
 refine v7H.out.mono ?_
 rintro e w9 ⟨rfl, hd9⟩
 have hfin := Lib.hid (bcall hbH8.out (hd9.below _))
 clear hd9
 go_wp2_with fail
 go_ret
 exact ⟨rfl, hfin.out⟩
end Go.Proofs.YtpmnnoopoblpgaaGreat

/- Walks: slices.Min of names. -/
namespace Go.Proofs.YtpmnnoopoblpgaaGreat
open Go Go.RowKit Go.Maps

theorem minO_succ {L : List ByteArray} {k : Nat} (h0 : 0 < k) (hk : k < L.length) : Lib.minOfS (L.take (k + 1)) = Lib.minS (Lib.minOfS (L.take k)) L[k] := by
 unfold Lib.minOfS
 rw [Lib.headD_takeS _ _ (Nat.succ_pos k), Lib.headD_takeS _ _ h0, List.take_succ_eq_append_getElem hk, List.foldl_append]
 rfl
set_option maxHeartbeats 1000000 in
theorem minS_any {S : Nat → Prop} (a : Option Addr) (c : Nat) (l : List ByteArray) (w : World) (h : Sl strE S w a c l) (hne : 0 < l.length) :
  Calls Tryz.prog 116 #[.slice a l.length c] w fun e w' => e = .returned (.string (Lib.minOfS l)) ∧ w = w' := by
 have m := h.le
 have hH := Lib.hid h
 obtain ⟨b, o, rfl, -, q0, -⟩ := h.str 0 hne
 have q0' : w.cell? ⟨b, o, none⟩ = some (.string l[0]) := q0
 have hne1 : ((l.length : Int) < 1) = False := eq_false (by omega)
 have h0 : Lib.minOfS (l.take 1) = l[0] := by
  cases l with
  | nil => simp at hne
  | cons x r => simp [Lib.minOfS, Lib.minS]
 have h0H := Lib.hid h0
 have hlz : (0 : Int) < (l.length : Int) := by omega
 clear h h0 q0
 go_enter Tryz.func116, Tryz.ntmps116
 go_wp2_with fail
 go_loopw [4, 3] (fun i v wr => ∃ k : Nat, i = .int .i64 k ∧ 0 < k ∧ k ≤ l.length ∧ v = .string (Lib.minOfS (l.take k)) ∧ w = wr) (fun i _ _ => l.length - (intOf i).toNat)
 case atStart => exact ⟨1, rfl, by omega, hne, by rw [h0H.out], rfl⟩
 case round =>
  obtain ⟨k, rfl, hk0, hk, rfl, rfl⟩ := hrel
  by_cases hlt : k < l.length
  ·obtain ⟨b2, o2, e2, -, q, -⟩ := hH.out.str k hlt
   injection e2 with e2
   injection e2 with e2 e3
   subst e2 e3
   have hs := minO_succ hk0 hlt
   have hkk : (k : Int) < (l.length : Int) := by omega
   obtain ⟨y, hy⟩ : ∃ y, l[k] = y := ⟨_, rfl⟩
   obtain ⟨x, hx⟩ : ∃ x, Lib.minOfS (l.take k) = x := ⟨_, rfl⟩
   rw [hy] at q
   rw [hy, hx] at hs
   have hmn := fun W ts t => Lib.run_min_strs (P := Tryz.prog) W ts t x y
   have hsH := Lib.hid hs
   clear hs hy
   rw [hx]
   clear hx
   go_wp2_with fail
   go_roundw
   case rel => exact ⟨k + 1, by simp, by omega, hlt, by rw [hsH.out], trivial⟩
   case measure => simp [intOf]; omega
  ·have hkk : ((k : Int) < (l.length : Int)) = False := eq_false (by omega)
   have ht : l.take k = l := List.take_of_length_le (by omega)
   rw [ht]
   clear hlt ht
   go_wp2_with fail
   go_ret
   first | exact ⟨rfl, rfl⟩ | exact ⟨rfl, trivial⟩
end Go.Proofs.YtpmnnoopoblpgaaGreat

/- Walks: deps.IsCircle. -/
namespace Go.Proofs.YtpmnnoopoblpgaaGreat
open Go Go.RowKit Go.Maps

def nxB (l : List Ent) (L : List ByteArray) (i : Nat) : Bool := memB (usesN l (L.getD i ByteArray.empty)) (L.getD ((i + 1) % L.length) ByteArray.empty)
def isCirB (s : Sg) (l : List Ent) (L : List ByteArray) : Bool := okLib s l && (decide (L.length ≠ 0) && (decide L.Nodup && (decide (Lib.minOfS L = L.headD ByteArray.empty) && (List.range L.length).all (nxB l L))))
theorem all_range {p : Nat → Bool} {n : Nat} (h : ∀ j, j < n → p j = true) : (List.range n).all p = true := by
 rw [List.all_eq_true]; exact fun x hx => h x (List.mem_range.1 hx)
theorem all_range_no {p : Nat → Bool} {n k : Nat} (hk : k < n) (h : p k = false) : (List.range n).all p = false := by
 rw [List.all_eq_false]; exact ⟨k, List.mem_range.2 hk, by rw [h]; simp⟩
def icRel (l : List Ent) (L : List ByteArray) (w2 : World) (i : Value) (wr : World) : Prop := ∃ k : Nat, i = .int .i64 k ∧ k ≤ L.length ∧ (∀ j, j < k → nxB l L j = true) ∧ Below w2.heap.size w2 wr
set_option maxRecDepth 100000 in
set_option maxHeartbeats 8000000 in
theorem IsCircle_any {S1 S2 S3 : Nat → Prop} (sa la na : Option Addr) (sc lc nc : Nat) (s : Sg) (l : List Ent) (L : List ByteArray) (w : World) (h1 : Sign S1 w sa sc s) (h2 : LibL S2 w la lc l) (h3 : Sl strE S3 w na nc L) (hl : l.length ≤ 1000) (hL : L.length ≤ 1000) :
  Calls Tryz.prog 56 #[.slice sa s.length sc, .slice la l.length lc, .slice na L.length nc] w fun e w' => e = .returned (.bool (isCirB s l L)) ∧ Below w.heap.size w w' := by
 have v := open_any sa la sc lc s l w h1 h2 hl
 have m := h2.le
 have m1 := h1.le
 have m3 := h3.le
 have h3H := Lib.hid h3
 obtain ⟨r, hr⟩ : ∃ r, isCirB s l L = r := ⟨_, rfl⟩
 rw [hr]
 have vH := Lib.hid v
 have hrH := Lib.hid hr
 clear v h1 h2 h3 hr
 go_enter Tryz.func56, Tryz.ntmps56
 go_wp2_with fail
 refine vH.out.mono ?_
 rintro e w1 ⟨hb, h⟩
 have hbH := Lib.hid hb
 have hbd : Below w1.heap.size w1 w1.drew := Below.drew (.refl _ _)
 have hbdH := Lib.hid (bcall hb hbd)
 rcases h with ⟨hok, rfl⟩ | ⟨hok, xb, hxb, rfl, hD⟩
 ·have hf := Lib.hid (show r = false by rw [← hrH.out]; unfold isCirB; rw [hok]; rfl)
  clear hb hok vH hbd
  go_wp2_with fail
  refine wp_region_held_drew (S := fun w' => True) (by kernel_rfl) trivial (fun hS => ?_)
  refine rtk 0 17 (v := ?_) hS ?_ ?_; rotate_left; · (intro w9 hS9; go_simp; try (with_reducible rfl))
  refine rtk 1 18 (v := ?_) hS ?_ ?_; rotate_left; · (intro w9 hS9; go_simp; try (with_reducible rfl))
  refine rtk 2 19 (v := ?_) hS ?_ ?_; rotate_left; · (intro w9 hS9; go_simp; try (with_reducible rfl))
  refine rsk 3 20 hS ?_
  refine rsk 4 21 hS ?_
  refine rsk 5 22 hS ?_
  refine rtk 6 23 (v := ?_) hS ?_ ?_; rotate_left; · (intro w9 hS9; go_simp; try (with_reducible rfl))
  refine rtk 7 24 (v := ?_) hS ?_ ?_; rotate_left; · (intro w9 hS9; go_simp; try (with_reducible rfl))
  refine rsk 8 25 hS ?_
  refine rsk 9 26 hS ?_
  refine rsk 10 27 hS ?_
  refine rtk 11 28 (v := ?_) hS ?_ ?_; rotate_left; · (intro w9 hS9; go_simp; try (with_reducible rfl))
  refine rtk 12 29 (v := ?_) hS ?_ ?_; rotate_left; · (intro w9 hS9; go_simp; try (with_reducible rfl))
  refine rsk 13 30 hS ?_
  refine rsk 14 31 hS ?_
  refine rsk 15 32 hS ?_
  refine rsk 16 33 hS ?_
  refine rsk 17 34 hS ?_
  refine rsk 18 35 hS ?_
  refine rtk 19 36 (v := ?_) hS ?_ ?_; rotate_left; · (intro w9 hS9; go_simp; try (with_reducible rfl))
  refine wpAnyH_done (by kernel_rfl) ?_ _
  clear hS
  go_wp2_with fail
  go_ret
  exact ⟨ret_bool hf.out.symm, hbdH.out⟩
 ·by_cases hz : L.length = 0
  ·have hf := Lib.hid (show r = false by rw [← hrH.out]; unfold isCirB; rw [hok, hz]; rfl)
   have hzz : ((L.length : Int) == 0) = true := by rw [hz]; rfl
   clear hb hok vH hbd hxb hD hz
   go_wp2_with fail
   refine wp_region_held_drew (S := fun w' => True) (by kernel_rfl) trivial (fun hS => ?_)
   refine rtk 0 17 (v := ?_) hS ?_ ?_; rotate_left; · (intro w9 hS9; go_simp; try (with_reducible rfl))
   refine rtk 1 18 (v := ?_) hS ?_ ?_; rotate_left; · (intro w9 hS9; go_simp; try (with_reducible rfl))
   refine rtk 2 19 (v := ?_) hS ?_ ?_; rotate_left; · (intro w9 hS9; go_simp; try (with_reducible rfl))
   refine rtk 3 20 (v := ?_) hS ?_ ?_; rotate_left; · (intro w9 hS9; go_simp; try (with_reducible rfl))
   refine rtk 4 21 (v := ?_) hS ?_ ?_; rotate_left; · (intro w9 hS9; go_simp; try (with_reducible rfl))
   refine rtk 5 22 (v := ?_) hS ?_ ?_; rotate_left; · (intro w9 hS9; go_simp; try (with_reducible rfl))
   refine rtk 6 23 (v := ?_) hS ?_ ?_; rotate_left; · (intro w9 hS9; go_simp; try (with_reducible rfl))
   refine rtk 7 24 (v := ?_) hS ?_ ?_; rotate_left; · (intro w9 hS9; go_simp; try (with_reducible rfl))
   refine rsk 8 25 hS ?_
   refine rsk 9 26 hS ?_
   refine rsk 10 27 hS ?_
   refine rtk 11 28 (v := ?_) hS ?_ ?_; rotate_left; · (intro w9 hS9; go_simp; try (with_reducible rfl))
   refine rtk 12 29 (v := ?_) hS ?_ ?_; rotate_left; · (intro w9 hS9; go_simp; try (with_reducible rfl))
   refine rsk 13 30 hS ?_
   refine rsk 14 31 hS ?_
   refine rsk 15 32 hS ?_
   refine rsk 16 33 hS ?_
   refine rsk 17 34 hS ?_
   refine rsk 18 35 hS ?_
   refine rtk 19 36 (v := ?_) hS ?_ ?_; rotate_left; · (intro w9 hS9; go_simp; try (with_reducible rfl))
   refine wpAnyH_done (by kernel_rfl) ?_ _
   clear hS
   go_wp2_with fail
   go_ret
   exact ⟨ret_bool hf.out.symm, hbdH.out⟩
  have hzz : ((L.length : Int) == 0) = false := by rw [beq_eq_false_iff_ne]; omega
  have hzd : decide (L.length ≠ 0) = true := decide_eq_true hz
  have vd := different_any na nc L w1.drew ((h3H.out.below hb).below hbd) (by omega)
  by_cases hnd : L.Nodup
  ·rw [decide_eq_true hnd] at vd
   have vm := fun W (hw : Below w1.heap.size w1 W) => minS_any na nc L W ((h3H.out.below hb).below hw) (by omega)
   have hr1 : r = (decide (Lib.minOfS L = L.headD ByteArray.empty) && (List.range L.length).all (nxB l L)) := by rw [← hrH.out]; unfold isCirB; rw [hok, hzd, decide_eq_true hnd]; rfl
   obtain ⟨bn, on, rfl, -, q00, -⟩ := (h3H.out.below hb).str 0 (by omega)
   have q0 : w1.cell? ⟨bn, on, none⟩ = some (.string (L[0]'(by omega))) := q00
   clear q00
   have hh : L.headD ByteArray.empty = L[0]'(by omega) := by
    cases L with
    | nil => simp at hz
    | cons x t => rfl
   rw [hh] at hr1
   have hlz : (0 : Int) < (L.length : Int) := by omega
   have hlz2 : 0 < L.length := by omega
   obtain ⟨x0, hx0⟩ : ∃ x0, L[0]'(by omega) = x0 := ⟨_, rfl⟩
   obtain ⟨mn, hmn⟩ : ∃ mn, Lib.minOfS L = mn := ⟨_, rfl⟩
   rw [hx0] at q0 hr1
   simp only [hmn] at vm
   rw [hmn] at hr1
   have vdH := Lib.hid vd
   have vmH := Lib.hid vm
   by_cases hm : mn = x0
   ·have hq := str_eq hm
    have hr2 := Lib.hid (show r = (List.range L.length).all (nxB l L) by rw [hr1, decide_eq_true hm]; rfl)
    have hDH := Lib.hid hD
    have hokH := Lib.hid hok
    clear vd vm hr1 hh hx0 hmn hm hb hok hxb hD hz hzd hnd vH
    go_wp2_with fail
    refine wp_region_held_drew (S := fun w' => w'.cell? ⟨bn, on, none⟩ = some (.string x0)) (by kernel_rfl) (cell_later hbd q0) (fun hS => ?_)
    refine rtk 0 17 (v := ?_) hS ?_ ?_; rotate_left; · (intro w9 hS9; have z0 := hS9; go_simp; try (with_reducible rfl))
    refine rtk 1 18 (v := ?_) hS ?_ ?_; rotate_left; · (intro w9 hS9; have z0 := hS9; go_simp; try (with_reducible rfl))
    refine rtk 2 19 (v := ?_) hS ?_ ?_; rotate_left; · (intro w9 hS9; have z0 := hS9; go_simp; try (with_reducible rfl))
    refine rtk 3 20 (v := ?_) hS ?_ ?_; rotate_left; · (intro w9 hS9; have z0 := hS9; go_simp; try (with_reducible rfl))
    refine rtk 4 21 (v := ?_) hS ?_ ?_; rotate_left; · (intro w9 hS9; have z0 := hS9; go_simp; try (with_reducible rfl))
    refine rtk 5 22 (v := ?_) hS ?_ ?_; rotate_left; · (intro w9 hS9; have z0 := hS9; go_simp; try (with_reducible rfl))
    refine rtk 6 23 (v := ?_) hS ?_ ?_; rotate_left; · (intro w9 hS9; have z0 := hS9; go_simp; try (with_reducible rfl))
    refine rtk 7 24 (v := ?_) hS ?_ ?_; rotate_left; · (intro w9 hS9; have z0 := hS9; go_simp; try (with_reducible rfl))
    refine rtk 8 25 (v := ?_) hS ?_ ?_; rotate_left; · (intro w9 hS9; have z0 := hS9; go_simp; try (with_reducible rfl))
    refine region_call 9 rfl (by kernel_rfl) (fun K hK => ?_)
    go_simp
    (with_reducible refine vdH.out.mono ?_)
    rintro e w6 ⟨rfl, hb6⟩
    go_simp
    refine hK.out _ _ (cell_later hb6 hS) ?_
    clear hK hS K
    intro hS
    try simp only [Act.put, List.setIfInBounds_toArray, List.set_cons_zero, List.set_cons_succ]
    refine rtk 10 27 (v := ?_) hS ?_ ?_; rotate_left; · (intro w9 hS9; have z0 := hS9; go_simp; try (with_reducible rfl))
    refine rtk 11 28 (v := ?_) hS ?_ ?_; rotate_left; · (intro w9 hS9; have z0 := hS9; go_simp; try (with_reducible rfl))
    refine rtk 12 29 (v := ?_) hS ?_ ?_; rotate_left; · (intro w9 hS9; have z0 := hS9; go_simp; try (with_reducible rfl))
    refine rtk 13 30 (v := ?_) hS ?_ ?_; rotate_left; · (intro w9 hS9; have z0 := hS9; go_simp; try (with_reducible rfl))
    refine rtk 15 32 (v := ?_) hS ?_ ?_; rotate_left; · (intro w9 hS9; have z0 := hS9; go_simp; try (with_reducible rfl))
    refine rtk 16 33 (v := ?_) hS ?_ ?_; rotate_left; · (intro w9 hS9; have z0 := hS9; go_simp; try (with_reducible rfl))
    refine rtk 17 34 (v := ?_) hS ?_ ?_; rotate_left; · (intro w9 hS9; have z0 := hS9; go_simp; try (with_reducible rfl))
    have vm6 := Lib.hid (vmH.out w6 (bcall hbd hb6))
    have hb6H := Lib.hid (bcall hbd hb6)
    clear hb6
    refine region_call 14 rfl (by kernel_rfl) (fun K hK => ?_)
    go_simp
    (with_reducible refine vm6.out.mono ?_)
    rintro e w7 ⟨rfl, rfl⟩
    go_simp
    refine hK.out _ _ hS ?_
    clear hK hS K
    intro hS
    try simp only [Act.put, List.setIfInBounds_toArray, List.set_cons_zero, List.set_cons_succ]
    refine rtk 18 35 (v := ?_) hS ?_ ?_; rotate_left; · (intro w9 hS9; have z0 := hS9; go_simp; try (with_reducible rfl))
    refine rtk 19 36 (v := ?_) hS ?_ ?_; rotate_left; · (intro w9 hS9; have z0 := hS9; go_simp; try (with_reducible rfl))
    refine wpAnyH_done (by kernel_rfl) ?_ _
    clear hS
    clear vdH vmH vm6 q0
    go_wp2_with fail
    go_loopw [39] (fun i wr => icRel l L w1 i wr) (fun i _ => L.length - (intOf i).toNat)
    case atStart => exact ⟨0, rfl, Nat.zero_le _, fun j hj => by omega, hb6H.out⟩
    case round =>
     obtain ⟨k, rfl, hk, hno, hB⟩ := hrel
     by_cases hlt : k < L.length
     ·have hk2 : (k + 1) % L.length < L.length := Nat.mod_lt _ (by omega)
      obtain ⟨k2, hk2e⟩ : ∃ k2, (k + 1) % L.length = k2 := ⟨_, rfl⟩
      rw [hk2e] at hk2
      obtain ⟨b1, o1, e1, -, q1, z1⟩ := (h3H.out.below (bcall hbH.out hB)).str k hlt
      injection e1 with e1
      injection e1 with e1 e2
      subst e1 e2
      obtain ⟨b1, o1, e1, -, q2, z2⟩ := (h3H.out.below (bcall hbH.out hB)).str k2 hk2
      injection e1 with e1
      injection e1 with e1 e2
      subst e1 e2
      have hkk : (k : Int) < (L.length : Int) := by omega
      have hkk2 : (k2 : Int) < (L.length : Int) := by omega
      have htm : ((k : Int) + 1).tmod (L.length : Int) = (k2 : Int) := by
       rw [← hk2e]; exact (Int.ofNat_tmod (k + 1) L.length).symm
      have hnn : ¬ L = [] := fun e => by rw [e] at hlt; simp at hlt
      have hwr : IntKind.i64.wrap ((k : Int) + 1) = (k : Int) + 1 := IntWalk.i64_in _ (by omega)
      have hbd : Below wr.heap.size wr wr.drew := Below.drew (.refl _ _)
      have hnx : nxB l L k = memB (usesN l L[k]) L[k2] := by
       unfold nxB
       rw [hk2e, List.getD_eq_getElem?_getD, List.getD_eq_getElem?_getD, List.getElem?_eq_getElem hlt, List.getElem?_eq_getElem hk2]; rfl
      have hDw := hDH.out.call hB
      obtain ⟨aU, cU, hU, vu⟩ := uses_any (hDw.mono hDw.1 (Nat.le_refl _)) L[k] z1
      have vu1 := vu wr.drew hbd
      have mU := hU.le
      have vc := contS_any aU cU (usesN l L[k]) L[k2] wr.drew (hU.below hbd)
      rw [← hnx] at vc
      obtain ⟨y, hy⟩ : ∃ y, L[k] = y := ⟨_, rfl⟩
      obtain ⟨z, hzz2⟩ : ∃ z, L[k2] = z := ⟨_, rfl⟩
      rw [hy] at q1 vu1 vc mU
      rw [hzz2] at q2 vc
      have vuH := Lib.hid vu1
      have vcH := Lib.hid vc
      have hBH := Lib.hid hB
      cases hb9 : nxB l L k with
      | true =>
       rw [hb9] at vcH
       have hn2 : ∀ j, j < k + 1 → nxB l L j = true := fun j hj => by
        by_cases e : j = k
        ·rw [e]; exact hb9
        ·exact hno j (by omega)
       have hfin := Lib.hid (show icRel l L w1 (.int .i64 ((k : Int) + 1)) wr.drew from ⟨k + 1, by simp, hlt, hn2, bcall hB hbd⟩)
       clear vu vu1 vc hU hDw hnx hB hno hn2 hb9 hy hzz2 hk2e z1 z2
       go_wp2_with fail
       refine wp_region_held_drew (S := fun w' => w'.cell? ⟨bn, on + k, none⟩ = some (.string y) ∧ w'.cell? ⟨bn, on + k2, none⟩ = some (.string z)) (by kernel_rfl) ⟨cell_later hbd q1, cell_later hbd q2⟩ (fun hS => ?_)
       refine rtk 0 44 (v := ?_) hS ?_ ?_; rotate_left; · (intro w9 hS9; obtain ⟨z0, z1⟩ := hS9; go_simp; try (with_reducible rfl))
       refine rtk 1 45 (v := ?_) hS ?_ ?_; rotate_left; · (intro w9 hS9; obtain ⟨z0, z1⟩ := hS9; go_simp; try (with_reducible rfl))
       refine rtk 3 47 (v := ?_) hS ?_ ?_; rotate_left; · (intro w9 hS9; obtain ⟨z0, z1⟩ := hS9; go_simp; try (with_reducible rfl))
       refine rtk 4 48 (v := ?_) hS ?_ ?_; rotate_left; · (intro w9 hS9; obtain ⟨z0, z1⟩ := hS9; go_simp; try (with_reducible rfl))
       refine rtk 5 49 (v := ?_) hS ?_ ?_; rotate_left; · (intro w9 hS9; obtain ⟨z0, z1⟩ := hS9; go_simp; try (with_reducible rfl))
       refine rtk 6 50 (v := ?_) hS ?_ ?_; rotate_left; · (intro w9 hS9; obtain ⟨z0, z1⟩ := hS9; go_simp; try (with_reducible rfl))
       refine rtk 7 51 (v := ?_) hS ?_ ?_; rotate_left; · (intro w9 hS9; obtain ⟨z0, z1⟩ := hS9; go_simp; try (with_reducible rfl))
       refine rtk 8 52 (v := ?_) hS ?_ ?_; rotate_left; · (intro w9 hS9; obtain ⟨z0, z1⟩ := hS9; go_simp; try (with_reducible rfl))
       refine rtk 9 53 (v := ?_) hS ?_ ?_; rotate_left; · (intro w9 hS9; obtain ⟨z0, z1⟩ := hS9; go_simp; try (with_reducible rfl))
       refine rtk 10 54 (v := ?_) hS ?_ ?_; rotate_left; · (intro w9 hS9; obtain ⟨z0, z1⟩ := hS9; go_simp; try (with_reducible rfl))
       refine region_call 2 rfl (by kernel_rfl) (fun K hK => ?_)
       go_simp
       (with_reducible refine vuH.out.mono ?_)
       rintro e w6 ⟨rfl, rfl⟩
       go_simp
       refine hK.out _ _ hS ?_
       clear hK hS K
       intro hS
       try simp only [Act.put, List.setIfInBounds_toArray, List.set_cons_zero, List.set_cons_succ]
       refine region_call 11 rfl (by kernel_rfl) (fun K hK => ?_)
       go_simp
       (with_reducible refine vcH.out.mono ?_)
       rintro e w6 ⟨rfl, rfl⟩
       go_simp
       refine hK.out _ _ hS ?_
       clear hK hS K
       intro hS
       try simp only [Act.put, List.setIfInBounds_toArray, List.set_cons_zero, List.set_cons_succ]
       refine rtk 12 56 (v := ?_) hS ?_ ?_; rotate_left; · (intro w9 hS9; obtain ⟨z0, z1⟩ := hS9; go_simp; try (with_reducible rfl))
       refine wpAnyH_done (by kernel_rfl) ?_ _
       clear hS
       go_wp2_with fail
       go_roundw
       case rel => exact hfin.out
       case measure => simp [intOf]; omega
      | false =>
       rw [hb9] at vcH
       have hf := Lib.hid (show r = false by rw [hr2.out]; exact all_range_no hlt hb9)
       have hfin := Lib.hid (bcall hbH.out (bcall hB hbd))
       clear vu vu1 vc hU hDw hnx hB hno hb9 hy hzz2 hk2e z1 z2
       go_wp2_with fail
       refine wp_region_held_drew (S := fun w' => w'.cell? ⟨bn, on + k, none⟩ = some (.string y) ∧ w'.cell? ⟨bn, on + k2, none⟩ = some (.string z)) (by kernel_rfl) ⟨cell_later hbd q1, cell_later hbd q2⟩ (fun hS => ?_)
       refine rtk 0 44 (v := ?_) hS ?_ ?_; rotate_left; · (intro w9 hS9; obtain ⟨z0, z1⟩ := hS9; go_simp; try (with_reducible rfl))
       refine rtk 1 45 (v := ?_) hS ?_ ?_; rotate_left; · (intro w9 hS9; obtain ⟨z0, z1⟩ := hS9; go_simp; try (with_reducible rfl))
       refine rtk 3 47 (v := ?_) hS ?_ ?_; rotate_left; · (intro w9 hS9; obtain ⟨z0, z1⟩ := hS9; go_simp; try (with_reducible rfl))
       refine rtk 4 48 (v := ?_) hS ?_ ?_; rotate_left; · (intro w9 hS9; obtain ⟨z0, z1⟩ := hS9; go_simp; try (with_reducible rfl))
       refine rtk 5 49 (v := ?_) hS ?_ ?_; rotate_left; · (intro w9 hS9; obtain ⟨z0, z1⟩ := hS9; go_simp; try (with_reducible rfl))
       refine rtk 6 50 (v := ?_) hS ?_ ?_; rotate_left; · (intro w9 hS9; obtain ⟨z0, z1⟩ := hS9; go_simp; try (with_reducible rfl))
       refine rtk 7 51 (v := ?_) hS ?_ ?_; rotate_left; · (intro w9 hS9; obtain ⟨z0, z1⟩ := hS9; go_simp; try (with_reducible rfl))
       refine rtk 8 52 (v := ?_) hS ?_ ?_; rotate_left; · (intro w9 hS9; obtain ⟨z0, z1⟩ := hS9; go_simp; try (with_reducible rfl))
       refine rtk 9 53 (v := ?_) hS ?_ ?_; rotate_left; · (intro w9 hS9; obtain ⟨z0, z1⟩ := hS9; go_simp; try (with_reducible rfl))
       refine rtk 10 54 (v := ?_) hS ?_ ?_; rotate_left; · (intro w9 hS9; obtain ⟨z0, z1⟩ := hS9; go_simp; try (with_reducible rfl))
       refine region_call 2 rfl (by kernel_rfl) (fun K hK => ?_)
       go_simp
       (with_reducible refine vuH.out.mono ?_)
       rintro e w6 ⟨rfl, rfl⟩
       go_simp
       refine hK.out _ _ hS ?_
       clear hK hS K
       intro hS
       try simp only [Act.put, List.setIfInBounds_toArray, List.set_cons_zero, List.set_cons_succ]
       refine region_call 11 rfl (by kernel_rfl) (fun K hK => ?_)
       go_simp
       (with_reducible refine vcH.out.mono ?_)
       rintro e w6 ⟨rfl, rfl⟩
       go_simp
       refine hK.out _ _ hS ?_
       clear hK hS K
       intro hS
       try simp only [Act.put, List.setIfInBounds_toArray, List.set_cons_zero, List.set_cons_succ]
       refine rtk 12 56 (v := ?_) hS ?_ ?_; rotate_left; · (intro w9 hS9; obtain ⟨z0, z1⟩ := hS9; go_simp; try (with_reducible rfl))
       refine wpAnyH_done (by kernel_rfl) ?_ _
       clear hS
       go_wp2_with fail
       go_ret
       exact ⟨ret_bool hf.out.symm, hfin.out⟩
     ·have hkk : ((k : Int) < (L.length : Int)) = False := eq_false (by omega)
      have hf := Lib.hid (show r = true by rw [hr2.out]; exact all_range (fun j hj => hno j (by omega)))
      have hfin := Lib.hid (bcall hbH.out hB)
      clear hno hB hlt
      go_wp2_with fail
      go_ret
      exact ⟨ret_bool hf.out.symm, hfin.out⟩
   ·have hq := str_neq hm
    have hf := Lib.hid (show r = false by rw [hr1, decide_eq_false hm]; rfl)
    clear vd vm hr1 hh hx0 hmn hm hb hok hxb hD hz hzd hnd vH
    go_wp2_with fail
    refine wp_region_held_drew (S := fun w' => w'.cell? ⟨bn, on, none⟩ = some (.string x0)) (by kernel_rfl) (cell_later hbd q0) (fun hS => ?_)
    refine rtk 0 17 (v := ?_) hS ?_ ?_; rotate_left; · (intro w9 hS9; have z0 := hS9; go_simp; try (with_reducible rfl))
    refine rtk 1 18 (v := ?_) hS ?_ ?_; rotate_left; · (intro w9 hS9; have z0 := hS9; go_simp; try (with_reducible rfl))
    refine rtk 2 19 (v := ?_) hS ?_ ?_; rotate_left; · (intro w9 hS9; have z0 := hS9; go_simp; try (with_reducible rfl))
    refine rtk 3 20 (v := ?_) hS ?_ ?_; rotate_left; · (intro w9 hS9; have z0 := hS9; go_simp; try (with_reducible rfl))
    refine rtk 4 21 (v := ?_) hS ?_ ?_; rotate_left; · (intro w9 hS9; have z0 := hS9; go_simp; try (with_reducible rfl))
    refine rtk 5 22 (v := ?_) hS ?_ ?_; rotate_left; · (intro w9 hS9; have z0 := hS9; go_simp; try (with_reducible rfl))
    refine rtk 6 23 (v := ?_) hS ?_ ?_; rotate_left; · (intro w9 hS9; have z0 := hS9; go_simp; try (with_reducible rfl))
    refine rtk 7 24 (v := ?_) hS ?_ ?_; rotate_left; · (intro w9 hS9; have z0 := hS9; go_simp; try (with_reducible rfl))
    refine rtk 8 25 (v := ?_) hS ?_ ?_; rotate_left; · (intro w9 hS9; have z0 := hS9; go_simp; try (with_reducible rfl))
    refine region_call 9 rfl (by kernel_rfl) (fun K hK => ?_)
    go_simp
    (with_reducible refine vdH.out.mono ?_)
    rintro e w6 ⟨rfl, hb6⟩
    go_simp
    refine hK.out _ _ (cell_later hb6 hS) ?_
    clear hK hS K
    intro hS
    try simp only [Act.put, List.setIfInBounds_toArray, List.set_cons_zero, List.set_cons_succ]
    refine rtk 10 27 (v := ?_) hS ?_ ?_; rotate_left; · (intro w9 hS9; have z0 := hS9; go_simp; try (with_reducible rfl))
    refine rtk 11 28 (v := ?_) hS ?_ ?_; rotate_left; · (intro w9 hS9; have z0 := hS9; go_simp; try (with_reducible rfl))
    refine rtk 12 29 (v := ?_) hS ?_ ?_; rotate_left; · (intro w9 hS9; have z0 := hS9; go_simp; try (with_reducible rfl))
    refine rtk 13 30 (v := ?_) hS ?_ ?_; rotate_left; · (intro w9 hS9; have z0 := hS9; go_simp; try (with_reducible rfl))
    refine rtk 15 32 (v := ?_) hS ?_ ?_; rotate_left; · (intro w9 hS9; have z0 := hS9; go_simp; try (with_reducible rfl))
    refine rtk 16 33 (v := ?_) hS ?_ ?_; rotate_left; · (intro w9 hS9; have z0 := hS9; go_simp; try (with_reducible rfl))
    refine rtk 17 34 (v := ?_) hS ?_ ?_; rotate_left; · (intro w9 hS9; have z0 := hS9; go_simp; try (with_reducible rfl))
    have vm6 := Lib.hid (vmH.out w6 (bcall hbd hb6))
    have hb6H := Lib.hid (bcall hbd hb6)
    clear hb6
    refine region_call 14 rfl (by kernel_rfl) (fun K hK => ?_)
    go_simp
    (with_reducible refine vm6.out.mono ?_)
    rintro e w7 ⟨rfl, rfl⟩
    go_simp
    refine hK.out _ _ hS ?_
    clear hK hS K
    intro hS
    try simp only [Act.put, List.setIfInBounds_toArray, List.set_cons_zero, List.set_cons_succ]
    refine rtk 18 35 (v := ?_) hS ?_ ?_; rotate_left; · (intro w9 hS9; have z0 := hS9; go_simp; try (with_reducible rfl))
    refine rtk 19 36 (v := ?_) hS ?_ ?_; rotate_left; · (intro w9 hS9; have z0 := hS9; go_simp; try (with_reducible rfl))
    refine wpAnyH_done (by kernel_rfl) ?_ _
    clear hS
    have hfin := Lib.hid (bcall hbH.out hb6H.out)
    clear vdH vmH vm6 q0
    go_wp2_with fail
    go_ret
    exact ⟨ret_bool hf.out.symm, hfin.out⟩
  ·rw [decide_eq_false hnd] at vd
   have hf := Lib.hid (show r = false by rw [← hrH.out]; unfold isCirB; rw [hok, hzd, decide_eq_false hnd]; rfl)
   have vdH := Lib.hid vd
   clear vd hb hok hxb hD hz hzd hnd vH
   go_wp2_with fail
   refine wp_region_held_drew (S := fun w' => True) (by kernel_rfl) trivial (fun hS => ?_)
   refine rtk 0 17 (v := ?_) hS ?_ ?_; rotate_left; · (intro w9 hS9; go_simp; try (with_reducible rfl))
   refine rtk 1 18 (v := ?_) hS ?_ ?_; rotate_left; · (intro w9 hS9; go_simp; try (with_reducible rfl))
   refine rtk 2 19 (v := ?_) hS ?_ ?_; rotate_left; · (intro w9 hS9; go_simp; try (with_reducible rfl))
   refine rtk 3 20 (v := ?_) hS ?_ ?_; rotate_left; · (intro w9 hS9; go_simp; try (with_reducible rfl))
   refine rtk 4 21 (v := ?_) hS ?_ ?_; rotate_left; · (intro w9 hS9; go_simp; try (with_reducible rfl))
   refine rtk 5 22 (v := ?_) hS ?_ ?_; rotate_left; · (intro w9 hS9; go_simp; try (with_reducible rfl))
   refine rtk 6 23 (v := ?_) hS ?_ ?_; rotate_left; · (intro w9 hS9; go_simp; try (with_reducible rfl))
   refine rtk 7 24 (v := ?_) hS ?_ ?_; rotate_left; · (intro w9 hS9; go_simp; try (with_reducible rfl))
   refine rtk 8 25 (v := ?_) hS ?_ ?_; rotate_left; · (intro w9 hS9; go_simp; try (with_reducible rfl))
   refine region_call 9 rfl (by kernel_rfl) (fun K hK => ?_)
   go_simp
   (with_reducible refine vdH.out.mono ?_)
   rintro e w6 ⟨rfl, hb6⟩
   go_simp
   refine hK.out _ _ trivial ?_
   clear hK hS K
   intro hS
   try simp only [Act.put, List.setIfInBounds_toArray, List.set_cons_zero, List.set_cons_succ]
   refine rtk 10 27 (v := ?_) hS ?_ ?_; rotate_left; · (intro w9 hS9; go_simp; try (with_reducible rfl))
   refine rtk 11 28 (v := ?_) hS ?_ ?_; rotate_left; · (intro w9 hS9; go_simp; try (with_reducible rfl))
   refine rtk 12 29 (v := ?_) hS ?_ ?_; rotate_left; · (intro w9 hS9; go_simp; try (with_reducible rfl))
   refine rsk 13 30 hS ?_
   refine rsk 14 31 hS ?_
   refine rsk 15 32 hS ?_
   refine rsk 16 33 hS ?_
   refine rsk 17 34 hS ?_
   refine rsk 18 35 hS ?_
   refine rtk 19 36 (v := ?_) hS ?_ ?_; rotate_left; · (intro w9 hS9; go_simp; try (with_reducible rfl))
   refine wpAnyH_done (by kernel_rfl) ?_ _
   clear hS
   have hfin := Lib.hid (bcall hbdH.out hb6)
   clear hb6
   go_wp2_with fail
   go_ret
   exact ⟨ret_bool hf.out.symm, hfin.out⟩
end Go.Proofs.YtpmnnoopoblpgaaGreat

/- Walks: IsCircle of the reference. -/
namespace Go.Proofs.YtpmnnoopoblpgaaGreat
open Go Go.RowKit Go.Maps

def cB (l : List Ent) (L : List ByteArray) (i : Nat) : Bool := (atN l (L.getD i ByteArray.empty)).isSome && (!memB (L.take i) (L.getD i ByteArray.empty) && (!ltB (L.getD i ByteArray.empty) (L.headD ByteArray.empty) && nxB l L i))
theorem getDL {L : List ByteArray} {i : Nat} (h : i < L.length) : L.getD i ByteArray.empty = L[i] := by rw [List.getD_eq_getElem?_getD, List.getElem?_eq_getElem h]; rfl
theorem cir_eq {s : Sg} {l : List Ent} {L : List ByteArray} : isCirB s l L = (okLib s l && (decide (L.length ≠ 0) && (List.range L.length).all (cB l L))) := by
 unfold isCirB
 congr 1
 by_cases h0 : L.length = 0
 ·rw [h0]; rfl
 congr 1
 rw [Bool.eq_iff_iff]
 simp only [Bool.and_eq_true, decide_eq_true_eq, List.all_eq_true, List.mem_range]
 rw [nodup_takeC, min_head (by omega)]
 have hin : ∀ i, nxB l L i = true → (atN l (L.getD i ByteArray.empty)).isSome = true := fun i h => by
  unfold nxB usesN at h
  cases hat : atN l (L.getD i ByteArray.empty) with
  | none => rw [hat] at h; cases h
  | some k => rfl
 constructor
 ·rintro ⟨h1, h2, h3⟩ i hi
  unfold cB
  rw [hin i (h3 i hi), h3 i hi, getDL hi, h1 i hi, h2 i hi]; rfl
 ·intro h
  have h' : ∀ i, i < L.length → (memB (L.take i) (L.getD i ByteArray.empty) = false ∧ ltB (L.getD i ByteArray.empty) (L.headD ByteArray.empty) = false) ∧ nxB l L i = true := fun i hi => by
   have := h i hi
   unfold cB at this
   simp only [Bool.and_eq_true, Bool.not_eq_true'] at this
   exact ⟨⟨this.2.1, this.2.2.1⟩, this.2.2.2⟩
  exact ⟨fun i hi => by rw [← getDL hi]; exact (h' i hi).1.1, fun i hi => by rw [← getDL hi]; exact (h' i hi).1.2, fun i hi => (h' i hi).2⟩
def ricRel (l : List Ent) (L : List ByteArray) (w : World) (i : Value) (wr : World) : Prop := ∃ k : Nat, i = .int .i64 k ∧ k ≤ L.length ∧ (∀ j, j < k → cB l L j = true) ∧ Below w.heap.size w wr
set_option maxRecDepth 100000 in
set_option maxHeartbeats 8000000 in
theorem rIsCircle_any {S1 S2 S3 : Nat → Prop} (sa la na : Option Addr) (sc lc nc : Nat) (s : Sg) (l : List Ent) (L : List ByteArray) (w : World) (h1 : Sign S1 w sa sc s) (h2 : LibL S2 w la lc l) (h3 : Sl strE S3 w na nc L) (hL : L.length ≤ 1000) :
  Calls Tryz.prog 57 #[.slice sa s.length sc, .slice la l.length lc, .slice na L.length nc] w fun e w' => e = .returned (.bool (isCirB s l L)) ∧ Below w.heap.size w w' := by
 have v := rVld_any sa la sc lc s l w h1 h2
 have m := h2.le
 have m1 := h1.le
 have m3 := h3.le
 have h2H := Lib.hid h2
 have h3H := Lib.hid h3
 obtain ⟨r, hr⟩ : ∃ r, isCirB s l L = r := ⟨_, rfl⟩
 rw [hr]
 rw [cir_eq] at hr
 have vH := Lib.hid v
 have hrH := Lib.hid hr
 clear v h1 h2 h3 hr
 cases hok : okLib s l with
 | false =>
  rw [hok] at vH
  have hf := Lib.hid (show r = false by rw [← hrH.out, hok]; rfl)
  clear hok
  go_enter Tryz.func57, Tryz.ntmps57
  go_wp2_with fail
  refine vH.out.mono ?_
  rintro e w1 ⟨rfl, hb⟩
  have hbH := Lib.hid hb
  clear hb
  go_wp2_with fail
  go_ret
  exact ⟨ret_bool hf.out.symm, hbH.out⟩
 | true =>
  rw [hok] at vH
  by_cases hz : L.length = 0
  ·have hf := Lib.hid (show r = false by rw [← hrH.out, hok, hz]; rfl)
   have hzz : ((L.length : Int) == 0) = true := by rw [hz]; rfl
   clear hok hz
   go_enter Tryz.func57, Tryz.ntmps57
   go_wp2_with fail
   refine vH.out.mono ?_
   rintro e w1 ⟨rfl, hb⟩
   have hbH := Lib.hid hb
   clear hb
   go_wp2_with fail
   go_ret
   exact ⟨ret_bool hf.out.symm, hbH.out⟩
  have hzz : ((L.length : Int) == 0) = false := by rw [beq_eq_false_iff_ne]; omega
  have hr2 := Lib.hid (show r = (List.range L.length).all (cB l L) by rw [← hrH.out, hok, decide_eq_true hz]; rfl)
  have hokH := Lib.hid hok
  clear hok
  go_enter Tryz.func57, Tryz.ntmps57
  go_wp2_with fail
  refine vH.out.mono ?_
  rintro e w1 ⟨rfl, hb⟩
  have hbH := Lib.hid hb
  clear hb
  go_wp2_with fail
  go_loopw [7] (fun i wr => ricRel l L w i wr) (fun i _ => L.length - (intOf i).toNat)
  case atStart => exact ⟨0, rfl, Nat.zero_le _, fun j hj => by omega, hbH.out⟩
  case round =>
   obtain ⟨i, rfl, hi, hno, hB⟩ := hrel
   by_cases hlt : i < L.length
   ·have hk2 : (i + 1) % L.length < L.length := Nat.mod_lt _ (by omega)
    obtain ⟨k2, hk2e⟩ : ∃ k2, (i + 1) % L.length = k2 := ⟨_, rfl⟩
    rw [hk2e] at hk2
    obtain ⟨bn, on, rfl, -, q1, z1⟩ := (h3H.out.below hB).str i hlt
    obtain ⟨b1, o1, e1, -, q2, z2⟩ := (h3H.out.below hB).str k2 hk2
    injection e1 with e1
    injection e1 with e1 e2
    subst e1 e2
    obtain ⟨b1, o1, e1, -, q00, -⟩ := (h3H.out.below hB).str 0 (by omega)
    injection e1 with e1
    injection e1 with e1 e2
    subst e1 e2
    have q0 : wr.cell? ⟨bn, on, none⟩ = some (.string (L[0]'(by omega))) := q00
    clear q00
    have hcap := h3H.out.cap
    have hii : (i : Int) < (L.length : Int) := by omega
    have hlz2 : 0 < L.length := by omega
    have htm : ((i : Int) + 1).tmod (L.length : Int) = (k2 : Int) := by
     rw [← hk2e]; exact (Int.ofNat_tmod (i + 1) L.length).symm
    have hnn : ¬ L = [] := fun e => by rw [e] at hlt; simp at hlt
    have hwr : IntKind.i64.wrap ((i : Int) + 1) = (i : Int) + 1 := IntWalk.i64_in _ (by omega)
    have hbd : Below wr.heap.size wr wr.drew := Below.drew (.refl _ _)
    have hj4 : (i : Int) ≤ (nc : Int) := by omega
    have hj6 : 0 ≤ (i : Int) := by omega
    have hlc0 : ¬ nc = 0 := by omega
    have hlc1 : ¬ 0 = nc := by omega
    have vi := rIndex_any la lc l L[i] wr (h2H.out.below hB)
    have hcB : cB l L i = ((atN l L[i]).isSome && (!memB (L.take i) L[i] && (!ltB L[i] (L[0]'(by omega)) && memB (usesN l L[i]) L[k2]))) := by
     have hh : L.headD ByteArray.empty = L[0]'(by omega) := by
      cases L with
      | nil => simp at hlt
      | cons x t => rfl
     unfold cB nxB
     rw [getDL hlt, hk2e, getDL hk2, hh]
    have vp := rHas_any (some ⟨bn, on, none⟩) nc (L.take i) L[i] wr.drew (((h3H.out.below hB).below hbd).pre i)
    have hlen : (L.take i).length = i := by rw [List.length_take]; omega
    rw [hlen] at vp
    obtain ⟨y, hy⟩ : ∃ y, L[i] = y := ⟨_, rfl⟩
    obtain ⟨z, hzz2⟩ : ∃ z, L[k2] = z := ⟨_, rfl⟩
    obtain ⟨x0, hx0⟩ : ∃ x0, L[0]'(by omega) = x0 := ⟨_, rfl⟩
    rw [hy] at q1 vi vp hcB
    rw [hzz2] at q2 hcB
    rw [hx0] at q0 hcB
    have hBH := Lib.hid hB
    cases hat : atN l y with
    | none =>
     rw [ixN_none' hat] at vi
     have viH := Lib.hid vi
     have hc0 : cB l L i = false := by rw [hcB, hat]; rfl
     clear vi vp hcB hy hzz2 hx0 hat hno hB hlen hk2e z1 z2
     go_wp2_with fail
     refine viH.out.mono ?_
     rintro e w2 ⟨rfl, rfl⟩
     have hf := Lib.hid (show r = false by rw [hr2.out]; exact all_range_no hlt (hc0))
     have hfin := Lib.hid (bcall hBH.out hbd)
     go_wp2_with fail
     refine wp_region_held_drew (S := fun w' => w'.cell? ⟨bn, on + i, none⟩ = some (.string y) ∧ w'.cell? ⟨bn, on, none⟩ = some (.string x0) ∧ w'.cell? ⟨bn, on + k2, none⟩ = some (.string z)) (by kernel_rfl) ⟨cell_later hbd q1, cell_later hbd q0, cell_later hbd q2⟩ (fun hS => ?_)
     refine rtk 0 30 (v := ?_) hS ?_ ?_; rotate_left; · (intro w9 hS9; obtain ⟨z0, z1, z2⟩ := hS9; go_simp; try (with_reducible rfl))
     refine rtk 1 31 (v := ?_) hS ?_ ?_; rotate_left; · (intro w9 hS9; obtain ⟨z0, z1, z2⟩ := hS9; go_simp; try (with_reducible rfl))
     refine rtk 2 32 (v := ?_) hS ?_ ?_; rotate_left; · (intro w9 hS9; obtain ⟨z0, z1, z2⟩ := hS9; go_simp; try (with_reducible rfl))
     refine rsk 3 33 hS ?_
     refine rsk 4 34 hS ?_
     refine rsk 5 35 hS ?_
     refine rsk 6 36 hS ?_
     refine rsk 7 37 hS ?_
     refine rsk 8 38 hS ?_
     refine rsk 9 39 hS ?_
     refine rsk 10 40 hS ?_
     refine rtk 11 41 (v := ?_) hS ?_ ?_; rotate_left; · (intro w9 hS9; obtain ⟨z0, z1, z2⟩ := hS9; go_simp; try (with_reducible rfl))
     refine rtk 12 42 (v := ?_) hS ?_ ?_; rotate_left; · (intro w9 hS9; obtain ⟨z0, z1, z2⟩ := hS9; go_simp; try (with_reducible rfl))
     refine rsk 13 43 hS ?_
     refine rsk 14 44 hS ?_
     refine rsk 15 45 hS ?_
     refine rsk 16 46 hS ?_
     refine rsk 17 47 hS ?_
     refine rsk 18 48 hS ?_
     refine rsk 19 49 hS ?_
     refine rsk 20 50 hS ?_
     refine rtk 21 51 (v := ?_) hS ?_ ?_; rotate_left; · (intro w9 hS9; obtain ⟨z0, z1, z2⟩ := hS9; go_simp; try (with_reducible rfl))
     refine rtk 22 52 (v := ?_) hS ?_ ?_; rotate_left; · (intro w9 hS9; obtain ⟨z0, z1, z2⟩ := hS9; go_simp; try (with_reducible rfl))
     refine rsk 23 53 hS ?_
     refine rsk 24 54 hS ?_
     refine rsk 25 55 hS ?_
     refine rsk 26 56 hS ?_
     refine rsk 27 57 hS ?_
     refine rsk 28 58 hS ?_
     refine rsk 29 59 hS ?_
     refine rsk 30 60 hS ?_
     refine rsk 31 61 hS ?_
     refine rsk 32 62 hS ?_
     refine rsk 33 63 hS ?_
     refine rsk 34 64 hS ?_
     refine rsk 35 65 hS ?_
     refine rsk 36 66 hS ?_
     refine rsk 37 67 hS ?_
     refine rtk 38 68 (v := ?_) hS ?_ ?_; rotate_left; · (intro w9 hS9; obtain ⟨z0, z1, z2⟩ := hS9; go_simp; try (with_reducible rfl))
     refine wpAnyH_done (by kernel_rfl) ?_ _
     clear hS
     go_wp2_with fail
     go_ret
     exact ⟨ret_bool hf.out.symm, hfin.out⟩
    | some j =>
     rw [ixN_some' hat] at vi
     obtain ⟨hj, hnj⟩ := nmI_of hat
     obtain ⟨b, off, rfl, -⟩ := h2H.out.dat (fun e => by rw [e] at hj; simp at hj)
     have hjj : (j : Int) < (l.length : Int) := by omega
     have hj0 : ((j : Int) < 0) = False := eq_false (by omega)
     obtain ⟨aU, cU, pu, hU⟩ := (h2H.out.below hB).usc hj
     have hus : usesN l y = usI l j := by rw [← hnj]; exact usesN_nmI (okLib_parts hokH.out).2.2.2 hj
     have vc := rHas_any aU cU (usI l j) z wr.drew (hU.below hbd)
     have mU := hU.le
     rw [hat, hus] at hcB
     obtain ⟨nU, hnU⟩ : ∃ nU, (usI l j).length = nU := ⟨_, rfl⟩
     rw [hnU] at pu vc mU
     obtain ⟨mp, hmp⟩ : ∃ mp, memB (L.take i) y = mp := ⟨_, rfl⟩
     obtain ⟨mc, hmc⟩ : ∃ mc, memB (usI l j) z = mc := ⟨_, rfl⟩
     obtain ⟨lt, hl0⟩ : ∃ lt, Op.bytesLess y.toList x0.toList = lt := ⟨_, rfl⟩
     have hl1 : ltB y x0 = lt := by rw [← bytesLess_ltB]; exact hl0
     rw [hmp] at vp hcB
     rw [hmc] at vc hcB
     rw [hl1] at hcB
     have viH := Lib.hid vi
     have vpH := Lib.hid vp
     have vcH := Lib.hid vc
     have hcBH := Lib.hid hcB
     have hnoH := Lib.hid hno
     clear vi vp vc hcB hy hzz2 hx0 hat hno hB hlen hk2e z1 z2 hmp hmc hl1 hU hus hnU hnj
     go_wp2_with fail
     refine viH.out.mono ?_
     rintro e w2 ⟨rfl, rfl⟩
     cases mp with
     | true =>
      have hf := Lib.hid (show r = false by rw [hr2.out]; exact all_range_no hlt (by rw [hcBH.out]; rfl))
      have hfin := Lib.hid (bcall hBH.out hbd)
      go_wp2_with fail
      refine wp_region_held_drew (S := fun w' => w'.cell? ⟨bn, on + i, none⟩ = some (.string y) ∧ w'.cell? ⟨bn, on, none⟩ = some (.string x0) ∧ w'.cell? ⟨bn, on + k2, none⟩ = some (.string z) ∧ w'.cell? ⟨b, off + j * 5 + 3, none⟩ = some (.slice aU nU cU)) (by kernel_rfl) ⟨cell_later hbd q1, cell_later hbd q0, cell_later hbd q2, cell_later hbd pu⟩ (fun hS => ?_)
      refine rtk 0 30 (v := ?_) hS ?_ ?_; rotate_left; · (intro w9 hS9; obtain ⟨z0, z1, z2, z3⟩ := hS9; go_simp; try (with_reducible rfl))
      refine rtk 1 31 (v := ?_) hS ?_ ?_; rotate_left; · (intro w9 hS9; obtain ⟨z0, z1, z2, z3⟩ := hS9; go_simp; try (with_reducible rfl))
      refine rtk 2 32 (v := ?_) hS ?_ ?_; rotate_left; · (intro w9 hS9; obtain ⟨z0, z1, z2, z3⟩ := hS9; go_simp; try (with_reducible rfl))
      refine rtk 3 33 (v := ?_) hS ?_ ?_; rotate_left; · (intro w9 hS9; obtain ⟨z0, z1, z2, z3⟩ := hS9; go_simp; try (with_reducible rfl))
      refine rtk 4 34 (v := ?_) hS ?_ ?_; rotate_left; · (intro w9 hS9; obtain ⟨z0, z1, z2, z3⟩ := hS9; go_simp; try (with_reducible rfl))
      refine rtk 5 35 (v := ?_) hS ?_ ?_; rotate_left; · (intro w9 hS9; obtain ⟨z0, z1, z2, z3⟩ := hS9; go_simp; try (with_reducible rfl))
      refine rtk 6 36 (v := ?_) hS ?_ ?_; rotate_left; · (intro w9 hS9; obtain ⟨z0, z1, z2, z3⟩ := hS9; go_simp; try (with_reducible rfl))
      refine rtk 7 37 (v := ?_) hS ?_ ?_; rotate_left; · (intro w9 hS9; obtain ⟨z0, z1, z2, z3⟩ := hS9; go_simp; try (with_reducible rfl))
      refine rtk 8 38 (v := ?_) hS ?_ ?_; rotate_left; · (intro w9 hS9; obtain ⟨z0, z1, z2, z3⟩ := hS9; go_simp; try (with_reducible rfl))
      refine rtk 9 39 (v := ?_) hS ?_ ?_; rotate_left; · (intro w9 hS9; obtain ⟨z0, z1, z2, z3⟩ := hS9; go_simp; try (with_reducible rfl))
      refine region_call 10 rfl (by kernel_rfl) (fun K hK => ?_)
      go_simp
      (with_reducible refine vpH.out.mono ?_)
      rintro e w6 ⟨rfl, rfl⟩
      go_simp
      refine hK.out _ _ hS ?_
      clear hK hS K
      intro hS
      try simp only [Act.put, List.setIfInBounds_toArray, List.set_cons_zero, List.set_cons_succ]
      refine rtk 11 41 (v := ?_) hS ?_ ?_; rotate_left; · (intro w9 hS9; obtain ⟨z0, z1, z2, z3⟩ := hS9; go_simp; try (with_reducible rfl))
      refine rtk 12 42 (v := ?_) hS ?_ ?_; rotate_left; · (intro w9 hS9; obtain ⟨z0, z1, z2, z3⟩ := hS9; go_simp; try (with_reducible rfl))
      refine rsk 13 43 hS ?_
      refine rsk 14 44 hS ?_
      refine rsk 15 45 hS ?_
      refine rsk 16 46 hS ?_
      refine rsk 17 47 hS ?_
      refine rsk 18 48 hS ?_
      refine rsk 19 49 hS ?_
      refine rsk 20 50 hS ?_
      refine rtk 21 51 (v := ?_) hS ?_ ?_; rotate_left; · (intro w9 hS9; obtain ⟨z0, z1, z2, z3⟩ := hS9; go_simp; try (with_reducible rfl))
      refine rtk 22 52 (v := ?_) hS ?_ ?_; rotate_left; · (intro w9 hS9; obtain ⟨z0, z1, z2, z3⟩ := hS9; go_simp; try (with_reducible rfl))
      refine rsk 23 53 hS ?_
      refine rsk 24 54 hS ?_
      refine rsk 25 55 hS ?_
      refine rsk 26 56 hS ?_
      refine rsk 27 57 hS ?_
      refine rsk 28 58 hS ?_
      refine rsk 29 59 hS ?_
      refine rsk 30 60 hS ?_
      refine rsk 31 61 hS ?_
      refine rsk 32 62 hS ?_
      refine rsk 33 63 hS ?_
      refine rsk 34 64 hS ?_
      refine rsk 35 65 hS ?_
      refine rsk 36 66 hS ?_
      refine rsk 37 67 hS ?_
      refine rtk 38 68 (v := ?_) hS ?_ ?_; rotate_left; · (intro w9 hS9; obtain ⟨z0, z1, z2, z3⟩ := hS9; go_simp; try (with_reducible rfl))
      refine wpAnyH_done (by kernel_rfl) ?_ _
      clear hS
      go_wp2_with fail
      go_ret
      exact ⟨ret_bool hf.out.symm, hfin.out⟩
     | false =>
      cases lt with
      | true =>
       have hf := Lib.hid (show r = false by rw [hr2.out]; exact all_range_no hlt (by rw [hcBH.out]; rfl))
       have hfin := Lib.hid (bcall hBH.out hbd)
       go_wp2_with fail
       refine wp_region_held_drew (S := fun w' => w'.cell? ⟨bn, on + i, none⟩ = some (.string y) ∧ w'.cell? ⟨bn, on, none⟩ = some (.string x0) ∧ w'.cell? ⟨bn, on + k2, none⟩ = some (.string z) ∧ w'.cell? ⟨b, off + j * 5 + 3, none⟩ = some (.slice aU nU cU)) (by kernel_rfl) ⟨cell_later hbd q1, cell_later hbd q0, cell_later hbd q2, cell_later hbd pu⟩ (fun hS => ?_)
       refine rtk 0 30 (v := ?_) hS ?_ ?_; rotate_left; · (intro w9 hS9; obtain ⟨z0, z1, z2, z3⟩ := hS9; go_simp; try (with_reducible rfl))
       refine rtk 1 31 (v := ?_) hS ?_ ?_; rotate_left; · (intro w9 hS9; obtain ⟨z0, z1, z2, z3⟩ := hS9; go_simp; try (with_reducible rfl))
       refine rtk 2 32 (v := ?_) hS ?_ ?_; rotate_left; · (intro w9 hS9; obtain ⟨z0, z1, z2, z3⟩ := hS9; go_simp; try (with_reducible rfl))
       refine rtk 3 33 (v := ?_) hS ?_ ?_; rotate_left; · (intro w9 hS9; obtain ⟨z0, z1, z2, z3⟩ := hS9; go_simp; try (with_reducible rfl))
       refine rtk 4 34 (v := ?_) hS ?_ ?_; rotate_left; · (intro w9 hS9; obtain ⟨z0, z1, z2, z3⟩ := hS9; go_simp; try (with_reducible rfl))
       refine rtk 5 35 (v := ?_) hS ?_ ?_; rotate_left; · (intro w9 hS9; obtain ⟨z0, z1, z2, z3⟩ := hS9; go_simp; try (with_reducible rfl))
       refine rtk 6 36 (v := ?_) hS ?_ ?_; rotate_left; · (intro w9 hS9; obtain ⟨z0, z1, z2, z3⟩ := hS9; go_simp; try (with_reducible rfl))
       refine rtk 7 37 (v := ?_) hS ?_ ?_; rotate_left; · (intro w9 hS9; obtain ⟨z0, z1, z2, z3⟩ := hS9; go_simp; try (with_reducible rfl))
       refine rtk 8 38 (v := ?_) hS ?_ ?_; rotate_left; · (intro w9 hS9; obtain ⟨z0, z1, z2, z3⟩ := hS9; go_simp; try (with_reducible rfl))
       refine rtk 9 39 (v := ?_) hS ?_ ?_; rotate_left; · (intro w9 hS9; obtain ⟨z0, z1, z2, z3⟩ := hS9; go_simp; try (with_reducible rfl))
       refine region_call 10 rfl (by kernel_rfl) (fun K hK => ?_)
       go_simp
       (with_reducible refine vpH.out.mono ?_)
       rintro e w6 ⟨rfl, rfl⟩
       go_simp
       refine hK.out _ _ hS ?_
       clear hK hS K
       intro hS
       try simp only [Act.put, List.setIfInBounds_toArray, List.set_cons_zero, List.set_cons_succ]
       refine rtk 11 41 (v := ?_) hS ?_ ?_; rotate_left; · (intro w9 hS9; obtain ⟨z0, z1, z2, z3⟩ := hS9; go_simp; try (with_reducible rfl))
       refine rtk 12 42 (v := ?_) hS ?_ ?_; rotate_left; · (intro w9 hS9; obtain ⟨z0, z1, z2, z3⟩ := hS9; go_simp; try (with_reducible rfl))
       refine rtk 13 43 (v := ?_) hS ?_ ?_; rotate_left; · (intro w9 hS9; obtain ⟨z0, z1, z2, z3⟩ := hS9; go_simp; try (with_reducible rfl))
       refine rtk 14 44 (v := ?_) hS ?_ ?_; rotate_left; · (intro w9 hS9; obtain ⟨z0, z1, z2, z3⟩ := hS9; go_simp; try (with_reducible rfl))
       refine rtk 15 45 (v := ?_) hS ?_ ?_; rotate_left; · (intro w9 hS9; obtain ⟨z0, z1, z2, z3⟩ := hS9; go_simp; try (with_reducible rfl))
       refine rtk 16 46 (v := ?_) hS ?_ ?_; rotate_left; · (intro w9 hS9; obtain ⟨z0, z1, z2, z3⟩ := hS9; go_simp; try (with_reducible rfl))
       refine rtk 17 47 (v := ?_) hS ?_ ?_; rotate_left; · (intro w9 hS9; obtain ⟨z0, z1, z2, z3⟩ := hS9; go_simp; try (with_reducible rfl))
       refine rtk 18 48 (v := ?_) hS ?_ ?_; rotate_left; · (intro w9 hS9; obtain ⟨z0, z1, z2, z3⟩ := hS9; go_simp; try (with_reducible rfl))
       refine rtk 19 49 (v := ?_) hS ?_ ?_; rotate_left; · (intro w9 hS9; obtain ⟨z0, z1, z2, z3⟩ := hS9; go_simp; try (with_reducible rfl))
       refine rtk 20 50 (v := ?_) hS ?_ ?_; rotate_left; · (intro w9 hS9; obtain ⟨z0, z1, z2, z3⟩ := hS9; go_simp; try (with_reducible rfl))
       refine rtk 21 51 (v := ?_) hS ?_ ?_; rotate_left; · (intro w9 hS9; obtain ⟨z0, z1, z2, z3⟩ := hS9; go_simp; try (with_reducible rfl))
       refine rtk 22 52 (v := ?_) hS ?_ ?_; rotate_left; · (intro w9 hS9; obtain ⟨z0, z1, z2, z3⟩ := hS9; go_simp; try (with_reducible rfl))
       refine rsk 23 53 hS ?_
       refine rsk 24 54 hS ?_
       refine rsk 25 55 hS ?_
       refine rsk 26 56 hS ?_
       refine rsk 27 57 hS ?_
       refine rsk 28 58 hS ?_
       refine rsk 29 59 hS ?_
       refine rsk 30 60 hS ?_
       refine rsk 31 61 hS ?_
       refine rsk 32 62 hS ?_
       refine rsk 33 63 hS ?_
       refine rsk 34 64 hS ?_
       refine rsk 35 65 hS ?_
       refine rsk 36 66 hS ?_
       refine rsk 37 67 hS ?_
       refine rtk 38 68 (v := ?_) hS ?_ ?_; rotate_left; · (intro w9 hS9; obtain ⟨z0, z1, z2, z3⟩ := hS9; go_simp; try (with_reducible rfl))
       refine wpAnyH_done (by kernel_rfl) ?_ _
       clear hS
       go_wp2_with fail
       go_ret
       exact ⟨ret_bool hf.out.symm, hfin.out⟩
      | false =>
       cases mc with
       | false =>
        have hf := Lib.hid (show r = false by rw [hr2.out]; exact all_range_no hlt (by rw [hcBH.out]; rfl))
        have hfin := Lib.hid (bcall hBH.out hbd)
        go_wp2_with fail
        refine wp_region_held_drew (S := fun w' => w'.cell? ⟨bn, on + i, none⟩ = some (.string y) ∧ w'.cell? ⟨bn, on, none⟩ = some (.string x0) ∧ w'.cell? ⟨bn, on + k2, none⟩ = some (.string z) ∧ w'.cell? ⟨b, off + j * 5 + 3, none⟩ = some (.slice aU nU cU)) (by kernel_rfl) ⟨cell_later hbd q1, cell_later hbd q0, cell_later hbd q2, cell_later hbd pu⟩ (fun hS => ?_)
        refine rtk 0 30 (v := ?_) hS ?_ ?_; rotate_left; · (intro w9 hS9; obtain ⟨z0, z1, z2, z3⟩ := hS9; go_simp; try (with_reducible rfl))
        refine rtk 1 31 (v := ?_) hS ?_ ?_; rotate_left; · (intro w9 hS9; obtain ⟨z0, z1, z2, z3⟩ := hS9; go_simp; try (with_reducible rfl))
        refine rtk 2 32 (v := ?_) hS ?_ ?_; rotate_left; · (intro w9 hS9; obtain ⟨z0, z1, z2, z3⟩ := hS9; go_simp; try (with_reducible rfl))
        refine rtk 3 33 (v := ?_) hS ?_ ?_; rotate_left; · (intro w9 hS9; obtain ⟨z0, z1, z2, z3⟩ := hS9; go_simp; try (with_reducible rfl))
        refine rtk 4 34 (v := ?_) hS ?_ ?_; rotate_left; · (intro w9 hS9; obtain ⟨z0, z1, z2, z3⟩ := hS9; go_simp; try (with_reducible rfl))
        refine rtk 5 35 (v := ?_) hS ?_ ?_; rotate_left; · (intro w9 hS9; obtain ⟨z0, z1, z2, z3⟩ := hS9; go_simp; try (with_reducible rfl))
        refine rtk 6 36 (v := ?_) hS ?_ ?_; rotate_left; · (intro w9 hS9; obtain ⟨z0, z1, z2, z3⟩ := hS9; go_simp; try (with_reducible rfl))
        refine rtk 7 37 (v := ?_) hS ?_ ?_; rotate_left; · (intro w9 hS9; obtain ⟨z0, z1, z2, z3⟩ := hS9; go_simp; try (with_reducible rfl))
        refine rtk 8 38 (v := ?_) hS ?_ ?_; rotate_left; · (intro w9 hS9; obtain ⟨z0, z1, z2, z3⟩ := hS9; go_simp; try (with_reducible rfl))
        refine rtk 9 39 (v := ?_) hS ?_ ?_; rotate_left; · (intro w9 hS9; obtain ⟨z0, z1, z2, z3⟩ := hS9; go_simp; try (with_reducible rfl))
        refine region_call 10 rfl (by kernel_rfl) (fun K hK => ?_)
        go_simp
        (with_reducible refine vpH.out.mono ?_)
        rintro e w6 ⟨rfl, rfl⟩
        go_simp
        refine hK.out _ _ hS ?_
        clear hK hS K
        intro hS
        try simp only [Act.put, List.setIfInBounds_toArray, List.set_cons_zero, List.set_cons_succ]
        refine rtk 11 41 (v := ?_) hS ?_ ?_; rotate_left; · (intro w9 hS9; obtain ⟨z0, z1, z2, z3⟩ := hS9; go_simp; try (with_reducible rfl))
        refine rtk 12 42 (v := ?_) hS ?_ ?_; rotate_left; · (intro w9 hS9; obtain ⟨z0, z1, z2, z3⟩ := hS9; go_simp; try (with_reducible rfl))
        refine rtk 13 43 (v := ?_) hS ?_ ?_; rotate_left; · (intro w9 hS9; obtain ⟨z0, z1, z2, z3⟩ := hS9; go_simp; try (with_reducible rfl))
        refine rtk 14 44 (v := ?_) hS ?_ ?_; rotate_left; · (intro w9 hS9; obtain ⟨z0, z1, z2, z3⟩ := hS9; go_simp; try (with_reducible rfl))
        refine rtk 15 45 (v := ?_) hS ?_ ?_; rotate_left; · (intro w9 hS9; obtain ⟨z0, z1, z2, z3⟩ := hS9; go_simp; try (with_reducible rfl))
        refine rtk 16 46 (v := ?_) hS ?_ ?_; rotate_left; · (intro w9 hS9; obtain ⟨z0, z1, z2, z3⟩ := hS9; go_simp; try (with_reducible rfl))
        refine rtk 17 47 (v := ?_) hS ?_ ?_; rotate_left; · (intro w9 hS9; obtain ⟨z0, z1, z2, z3⟩ := hS9; go_simp; try (with_reducible rfl))
        refine rtk 18 48 (v := ?_) hS ?_ ?_; rotate_left; · (intro w9 hS9; obtain ⟨z0, z1, z2, z3⟩ := hS9; go_simp; try (with_reducible rfl))
        refine rtk 19 49 (v := ?_) hS ?_ ?_; rotate_left; · (intro w9 hS9; obtain ⟨z0, z1, z2, z3⟩ := hS9; go_simp; try (with_reducible rfl))
        refine rtk 20 50 (v := ?_) hS ?_ ?_; rotate_left; · (intro w9 hS9; obtain ⟨z0, z1, z2, z3⟩ := hS9; go_simp; try (with_reducible rfl))
        refine rtk 21 51 (v := ?_) hS ?_ ?_; rotate_left; · (intro w9 hS9; obtain ⟨z0, z1, z2, z3⟩ := hS9; go_simp; try (with_reducible rfl))
        refine rtk 22 52 (v := ?_) hS ?_ ?_; rotate_left; · (intro w9 hS9; obtain ⟨z0, z1, z2, z3⟩ := hS9; go_simp; try (with_reducible rfl))
        refine rtk 23 53 (v := ?_) hS ?_ ?_; rotate_left; · (intro w9 hS9; obtain ⟨z0, z1, z2, z3⟩ := hS9; go_simp; try (with_reducible rfl))
        refine rtk 24 54 (v := ?_) hS ?_ ?_; rotate_left; · (intro w9 hS9; obtain ⟨z0, z1, z2, z3⟩ := hS9; go_simp; try (with_reducible rfl))
        refine rtk 25 55 (v := ?_) hS ?_ ?_; rotate_left; · (intro w9 hS9; obtain ⟨z0, z1, z2, z3⟩ := hS9; go_simp; try (with_reducible rfl))
        refine rtk 26 56 (v := ?_) hS ?_ ?_; rotate_left; · (intro w9 hS9; obtain ⟨z0, z1, z2, z3⟩ := hS9; go_simp; try (with_reducible rfl))
        refine rtk 27 57 (v := ?_) hS ?_ ?_; rotate_left; · (intro w9 hS9; obtain ⟨z0, z1, z2, z3⟩ := hS9; go_simp; try (with_reducible rfl))
        refine rtk 28 58 (v := ?_) hS ?_ ?_; rotate_left; · (intro w9 hS9; obtain ⟨z0, z1, z2, z3⟩ := hS9; go_simp; try (with_reducible rfl))
        refine rtk 29 59 (v := ?_) hS ?_ ?_; rotate_left; · (intro w9 hS9; obtain ⟨z0, z1, z2, z3⟩ := hS9; go_simp; try (with_reducible rfl))
        refine rtk 30 60 (v := ?_) hS ?_ ?_; rotate_left; · (intro w9 hS9; obtain ⟨z0, z1, z2, z3⟩ := hS9; go_simp; try (with_reducible rfl))
        refine rtk 31 61 (v := ?_) hS ?_ ?_; rotate_left; · (intro w9 hS9; obtain ⟨z0, z1, z2, z3⟩ := hS9; go_simp; try (with_reducible rfl))
        refine rtk 32 62 (v := ?_) hS ?_ ?_; rotate_left; · (intro w9 hS9; obtain ⟨z0, z1, z2, z3⟩ := hS9; go_simp; try (with_reducible rfl))
        refine rtk 33 63 (v := ?_) hS ?_ ?_; rotate_left; · (intro w9 hS9; obtain ⟨z0, z1, z2, z3⟩ := hS9; go_simp; try (with_reducible rfl))
        refine rtk 34 64 (v := ?_) hS ?_ ?_; rotate_left; · (intro w9 hS9; obtain ⟨z0, z1, z2, z3⟩ := hS9; go_simp; try (with_reducible rfl))
        refine rtk 35 65 (v := ?_) hS ?_ ?_; rotate_left; · (intro w9 hS9; obtain ⟨z0, z1, z2, z3⟩ := hS9; go_simp; try (with_reducible rfl))
        refine region_call 36 rfl (by kernel_rfl) (fun K hK => ?_)
        go_simp
        (with_reducible refine vcH.out.mono ?_)
        rintro e w6 ⟨rfl, rfl⟩
        go_simp
        refine hK.out _ _ hS ?_
        clear hK hS K
        intro hS
        try simp only [Act.put, List.setIfInBounds_toArray, List.set_cons_zero, List.set_cons_succ]
        refine rtk 37 67 (v := ?_) hS ?_ ?_; rotate_left; · (intro w9 hS9; obtain ⟨z0, z1, z2, z3⟩ := hS9; go_simp; try (with_reducible rfl))
        refine rtk 38 68 (v := ?_) hS ?_ ?_; rotate_left; · (intro w9 hS9; obtain ⟨z0, z1, z2, z3⟩ := hS9; go_simp; try (with_reducible rfl))
        refine wpAnyH_done (by kernel_rfl) ?_ _
        clear hS
        go_wp2_with fail
        go_ret
        exact ⟨ret_bool hf.out.symm, hfin.out⟩
       | true =>
        have hn2 : ∀ j, j < i + 1 → cB l L j = true := fun j hj => by
         by_cases e : j = i
         ·rw [e, hcBH.out]; rfl
         ·exact hnoH.out j (by omega)
        have hfin := Lib.hid (show ricRel l L w (.int .i64 ((i : Int) + 1)) wr.drew from ⟨i + 1, by simp, hlt, hn2, bcall hBH.out hbd⟩)
        clear hn2
        go_wp2_with fail
        refine wp_region_held_drew (S := fun w' => w'.cell? ⟨bn, on + i, none⟩ = some (.string y) ∧ w'.cell? ⟨bn, on, none⟩ = some (.string x0) ∧ w'.cell? ⟨bn, on + k2, none⟩ = some (.string z) ∧ w'.cell? ⟨b, off + j * 5 + 3, none⟩ = some (.slice aU nU cU)) (by kernel_rfl) ⟨cell_later hbd q1, cell_later hbd q0, cell_later hbd q2, cell_later hbd pu⟩ (fun hS => ?_)
        refine rtk 0 30 (v := ?_) hS ?_ ?_; rotate_left; · (intro w9 hS9; obtain ⟨z0, z1, z2, z3⟩ := hS9; go_simp; try (with_reducible rfl))
        refine rtk 1 31 (v := ?_) hS ?_ ?_; rotate_left; · (intro w9 hS9; obtain ⟨z0, z1, z2, z3⟩ := hS9; go_simp; try (with_reducible rfl))
        refine rtk 2 32 (v := ?_) hS ?_ ?_; rotate_left; · (intro w9 hS9; obtain ⟨z0, z1, z2, z3⟩ := hS9; go_simp; try (with_reducible rfl))
        refine rtk 3 33 (v := ?_) hS ?_ ?_; rotate_left; · (intro w9 hS9; obtain ⟨z0, z1, z2, z3⟩ := hS9; go_simp; try (with_reducible rfl))
        refine rtk 4 34 (v := ?_) hS ?_ ?_; rotate_left; · (intro w9 hS9; obtain ⟨z0, z1, z2, z3⟩ := hS9; go_simp; try (with_reducible rfl))
        refine rtk 5 35 (v := ?_) hS ?_ ?_; rotate_left; · (intro w9 hS9; obtain ⟨z0, z1, z2, z3⟩ := hS9; go_simp; try (with_reducible rfl))
        refine rtk 6 36 (v := ?_) hS ?_ ?_; rotate_left; · (intro w9 hS9; obtain ⟨z0, z1, z2, z3⟩ := hS9; go_simp; try (with_reducible rfl))
        refine rtk 7 37 (v := ?_) hS ?_ ?_; rotate_left; · (intro w9 hS9; obtain ⟨z0, z1, z2, z3⟩ := hS9; go_simp; try (with_reducible rfl))
        refine rtk 8 38 (v := ?_) hS ?_ ?_; rotate_left; · (intro w9 hS9; obtain ⟨z0, z1, z2, z3⟩ := hS9; go_simp; try (with_reducible rfl))
        refine rtk 9 39 (v := ?_) hS ?_ ?_; rotate_left; · (intro w9 hS9; obtain ⟨z0, z1, z2, z3⟩ := hS9; go_simp; try (with_reducible rfl))
        refine region_call 10 rfl (by kernel_rfl) (fun K hK => ?_)
        go_simp
        (with_reducible refine vpH.out.mono ?_)
        rintro e w6 ⟨rfl, rfl⟩
        go_simp
        refine hK.out _ _ hS ?_
        clear hK hS K
        intro hS
        try simp only [Act.put, List.setIfInBounds_toArray, List.set_cons_zero, List.set_cons_succ]
        refine rtk 11 41 (v := ?_) hS ?_ ?_; rotate_left; · (intro w9 hS9; obtain ⟨z0, z1, z2, z3⟩ := hS9; go_simp; try (with_reducible rfl))
        refine rtk 12 42 (v := ?_) hS ?_ ?_; rotate_left; · (intro w9 hS9; obtain ⟨z0, z1, z2, z3⟩ := hS9; go_simp; try (with_reducible rfl))
        refine rtk 13 43 (v := ?_) hS ?_ ?_; rotate_left; · (intro w9 hS9; obtain ⟨z0, z1, z2, z3⟩ := hS9; go_simp; try (with_reducible rfl))
        refine rtk 14 44 (v := ?_) hS ?_ ?_; rotate_left; · (intro w9 hS9; obtain ⟨z0, z1, z2, z3⟩ := hS9; go_simp; try (with_reducible rfl))
        refine rtk 15 45 (v := ?_) hS ?_ ?_; rotate_left; · (intro w9 hS9; obtain ⟨z0, z1, z2, z3⟩ := hS9; go_simp; try (with_reducible rfl))
        refine rtk 16 46 (v := ?_) hS ?_ ?_; rotate_left; · (intro w9 hS9; obtain ⟨z0, z1, z2, z3⟩ := hS9; go_simp; try (with_reducible rfl))
        refine rtk 17 47 (v := ?_) hS ?_ ?_; rotate_left; · (intro w9 hS9; obtain ⟨z0, z1, z2, z3⟩ := hS9; go_simp; try (with_reducible rfl))
        refine rtk 18 48 (v := ?_) hS ?_ ?_; rotate_left; · (intro w9 hS9; obtain ⟨z0, z1, z2, z3⟩ := hS9; go_simp; try (with_reducible rfl))
        refine rtk 19 49 (v := ?_) hS ?_ ?_; rotate_left; · (intro w9 hS9; obtain ⟨z0, z1, z2, z3⟩ := hS9; go_simp; try (with_reducible rfl))
        refine rtk 20 50 (v := ?_) hS ?_ ?_; rotate_left; · (intro w9 hS9; obtain ⟨z0, z1, z2, z3⟩ := hS9; go_simp; try (with_reducible rfl))
        refine rtk 21 51 (v := ?_) hS ?_ ?_; rotate_left; · (intro w9 hS9; obtain ⟨z0, z1, z2, z3⟩ := hS9; go_simp; try (with_reducible rfl))
        refine rtk 22 52 (v := ?_) hS ?_ ?_; rotate_left; · (intro w9 hS9; obtain ⟨z0, z1, z2, z3⟩ := hS9; go_simp; try (with_reducible rfl))
        refine rtk 23 53 (v := ?_) hS ?_ ?_; rotate_left; · (intro w9 hS9; obtain ⟨z0, z1, z2, z3⟩ := hS9; go_simp; try (with_reducible rfl))
        refine rtk 24 54 (v := ?_) hS ?_ ?_; rotate_left; · (intro w9 hS9; obtain ⟨z0, z1, z2, z3⟩ := hS9; go_simp; try (with_reducible rfl))
        refine rtk 25 55 (v := ?_) hS ?_ ?_; rotate_left; · (intro w9 hS9; obtain ⟨z0, z1, z2, z3⟩ := hS9; go_simp; try (with_reducible rfl))
        refine rtk 26 56 (v := ?_) hS ?_ ?_; rotate_left; · (intro w9 hS9; obtain ⟨z0, z1, z2, z3⟩ := hS9; go_simp; try (with_reducible rfl))
        refine rtk 27 57 (v := ?_) hS ?_ ?_; rotate_left; · (intro w9 hS9; obtain ⟨z0, z1, z2, z3⟩ := hS9; go_simp; try (with_reducible rfl))
        refine rtk 28 58 (v := ?_) hS ?_ ?_; rotate_left; · (intro w9 hS9; obtain ⟨z0, z1, z2, z3⟩ := hS9; go_simp; try (with_reducible rfl))
        refine rtk 29 59 (v := ?_) hS ?_ ?_; rotate_left; · (intro w9 hS9; obtain ⟨z0, z1, z2, z3⟩ := hS9; go_simp; try (with_reducible rfl))
        refine rtk 30 60 (v := ?_) hS ?_ ?_; rotate_left; · (intro w9 hS9; obtain ⟨z0, z1, z2, z3⟩ := hS9; go_simp; try (with_reducible rfl))
        refine rtk 31 61 (v := ?_) hS ?_ ?_; rotate_left; · (intro w9 hS9; obtain ⟨z0, z1, z2, z3⟩ := hS9; go_simp; try (with_reducible rfl))
        refine rtk 32 62 (v := ?_) hS ?_ ?_; rotate_left; · (intro w9 hS9; obtain ⟨z0, z1, z2, z3⟩ := hS9; go_simp; try (with_reducible rfl))
        refine rtk 33 63 (v := ?_) hS ?_ ?_; rotate_left; · (intro w9 hS9; obtain ⟨z0, z1, z2, z3⟩ := hS9; go_simp; try (with_reducible rfl))
        refine rtk 34 64 (v := ?_) hS ?_ ?_; rotate_left; · (intro w9 hS9; obtain ⟨z0, z1, z2, z3⟩ := hS9; go_simp; try (with_reducible rfl))
        refine rtk 35 65 (v := ?_) hS ?_ ?_; rotate_left; · (intro w9 hS9; obtain ⟨z0, z1, z2, z3⟩ := hS9; go_simp; try (with_reducible rfl))
        refine region_call 36 rfl (by kernel_rfl) (fun K hK => ?_)
        go_simp
        (with_reducible refine vcH.out.mono ?_)
        rintro e w6 ⟨rfl, rfl⟩
        go_simp
        refine hK.out _ _ hS ?_
        clear hK hS K
        intro hS
        try simp only [Act.put, List.setIfInBounds_toArray, List.set_cons_zero, List.set_cons_succ]
        refine rtk 37 67 (v := ?_) hS ?_ ?_; rotate_left; · (intro w9 hS9; obtain ⟨z0, z1, z2, z3⟩ := hS9; go_simp; try (with_reducible rfl))
        refine rtk 38 68 (v := ?_) hS ?_ ?_; rotate_left; · (intro w9 hS9; obtain ⟨z0, z1, z2, z3⟩ := hS9; go_simp; try (with_reducible rfl))
        refine wpAnyH_done (by kernel_rfl) ?_ _
        clear hS
        go_wp2_with fail
        go_roundw
        case rel => exact hfin.out
        case measure => simp [intOf]; omega
   ·have hii : ((i : Int) < (L.length : Int)) = False := eq_false (by omega)
    have hf := Lib.hid (show r = true by rw [hr2.out]; exact all_range (fun j hj => hno j (by omega)))
    have hfin := Lib.hid hB
    clear hno hB hlt
    go_wp2_with fail
    go_ret
    exact ⟨ret_bool hf.out.symm, hfin.out⟩
end Go.Proofs.YtpmnnoopoblpgaaGreat

/- The least circle is a circle. -/
namespace Go.Proofs.YtpmnnoopoblpgaaGreat

structure CirP (l : List Ent) (first : ByteArray) (out : List ByteArray) (now : ByteArray) : Prop where
 h0 : 0 < out.length
 hd : out.getD 0 ByteArray.empty = first
 ls : out.getD (out.length - 1) ByteArray.empty = now
 nd : out.Nodup
 ge : ∀ y ∈ out, ltB y first = false
 nx : ∀ i, i + 1 < out.length → out.getD (i + 1) ByteArray.empty ∈ usesN l (out.getD i ByteArray.empty)
theorem ltB_irr (x : ByteArray) : ltB x x = false := by
 cases e : ltB x x with
 | false => rfl
 | true => exact (ltN_irr _ (ltB_iff.1 e)).elim
theorem CirP.start (l : List Ent) (first : ByteArray) : CirP l first [first] first :=
 ⟨by simp, rfl, rfl, by simp, fun y hy => by rw [List.mem_singleton.1 hy]; exact ltB_irr _, fun i h => by simp at h⟩
theorem getD_snoc_lt {L : List ByteArray} {x : ByteArray} {i : Nat} (h : i < L.length) : (L ++ [x]).getD i ByteArray.empty = L.getD i ByteArray.empty := by
 rw [List.getD_eq_getElem?_getD, List.getD_eq_getElem?_getD, List.getElem?_append_left h]
theorem getD_snoc_eq {L : List ByteArray} {x : ByteArray} : (L ++ [x]).getD L.length ByteArray.empty = x := by
 rw [List.getD_eq_getElem?_getD, List.getElem?_append_right (Nat.le_refl _)]; simp
theorem CirP.step {l : List Ent} {first now nx : ByteArray} {out : List ByteArray} (h : CirP l first out now) (hu : nx ∈ usesN l now) (hc : candB l first out nx = true) : CirP l first (out ++ [nx]) nx := by
 have h0 := h.h0
 unfold candB at hc
 rw [Bool.and_eq_true, Bool.and_eq_true, Bool.not_eq_true', decide_eq_false_iff_not] at hc
 obtain ⟨hne, hf, -⟩ := hc
 unfold freeB at hf
 rw [Bool.or_eq_true, decide_eq_true_eq, Bool.and_eq_true, Bool.not_eq_true'] at hf
 rcases hf with e | ⟨hlt, hno⟩
 ·exact (hne e).elim
 have hni : nx ∉ out := fun e => by rw [memB_iff.2 e] at hno; cases hno
 refine ⟨by simp, by rw [getD_snoc_lt h0]; exact h.hd, by simp, ?_, fun y hy => ?_, fun i hi => ?_⟩
 ·rw [List.nodup_append]
  exact ⟨h.nd, by simp, fun a ha b hb e => hni (by rw [List.mem_singleton] at hb; rw [← hb, ← e]; exact ha)⟩
 ·rcases List.mem_append.1 hy with e | e
  ·exact h.ge y e
  ·rw [List.mem_singleton.1 e]
   cases eb : ltB nx first with
   | false => rfl
   | true => exact (ltN_irr _ (ltN_tr _ _ _ (ltB_iff.1 hlt) (ltB_iff.1 eb))).elim
 ·rw [List.length_append, List.length_singleton] at hi
  by_cases e : i + 1 < out.length
  ·rw [getD_snoc_lt e, getD_snoc_lt (by omega)]
   exact h.nx i e
  ·have e2 : i + 1 = out.length := by omega
   rw [e2, getD_snoc_eq, getD_snoc_lt (by omega)]
   have e3 : i = out.length - 1 := by omega
   rw [e3, h.ls]; exact hu
theorem CircS.cir {l : List Ent} {first now : ByteArray} {out C : List ByteArray} (h : CircS l first out now C) (hP : CirP l first out now) : ∃ last, CirP l first C last ∧ first ∈ usesN l last := by
 induction h with
 | stop h1 => exact ⟨_, hP, h1⟩
 | step _ h2 h3 _ _ ih => exact ih (hP.step h2 h3)
theorem circ_isCir {s : Sg} {l : List Ent} (hok : okLib s l = true) {C : List ByteArray} (h : CircR l (some C)) : isCirB s l C = true ∧ C.length ≤ l.length := by
 obtain ⟨first, -, -, -, hS⟩ := h
 obtain ⟨last, hP, hl⟩ := hS.cir (.start l first)
 have h0 := hP.h0
 have hall : (List.range C.length).all (nxB l C) = true := by
  rw [List.all_eq_true]
  intro i hi
  rw [List.mem_range] at hi
  unfold nxB
  rw [memB_iff]
  by_cases e : i + 1 < C.length
  ·rw [Nat.mod_eq_of_lt e]; exact hP.nx i e
  ·have e2 : i + 1 = C.length := by omega
   rw [e2, Nat.mod_self, hP.hd, show i = C.length - 1 by omega, hP.ls]; exact hl
 refine ⟨?_, ?_⟩
 ·unfold isCirB
  rw [hok, decide_eq_true (by omega : C.length ≠ 0), decide_eq_true hP.nd, hall]
  have hm : Lib.minOfS C = C.headD ByteArray.empty := (min_head h0).2 fun i hi => by
   have : C.headD ByteArray.empty = first := by rw [← hP.hd]; cases C <;> rfl
   rw [this]
   exact hP.ge _ (List.getElem_mem hi)
  rw [decide_eq_true hm]; rfl
 ·have : ∀ y ∈ C, y ∈ l.map eNm := fun y hy => by
   obtain ⟨i, hi, rfl⟩ := List.getElem_of_mem hy
   have hn : C.getD i ByteArray.empty = C[i] := by rw [List.getD_eq_getElem?_getD, List.getElem?_eq_getElem hi]; rfl
   rw [← hn]
   by_cases e : i + 1 < C.length
   ·exact inL_of_uses (hP.nx i e)
   ·rw [show i = C.length - 1 by omega, hP.ls]; exact inL_of_uses hl
  have := nodupLe hP.nd this
  rwa [List.length_map] at this
end Go.Proofs.YtpmnnoopoblpgaaGreat

/- The law DepsCircles, walked. -/
namespace Go.Proofs.YtpmnnoopoblpgaaGreat
open Go Go.RowKit Go.Maps

set_option maxHeartbeats 400000 in
theorem SameIntsD_any {S1 S2 : Nat → Prop} (a1 a2 : Option Addr) (c1 c2 : Nat) (l1 l2 : List Int) (w : World) (h1 : Ints S1 w a1 c1 l1) (h2 : Ints S2 w a2 c2 l2) :
  Calls Tryz.prog 53 #[.slice a1 l1.length c1, .slice a2 l2.length c2] w fun e w' => e = .returned (.bool (decide (l1 = l2))) ∧ Drew w w' := by
 have m1 := h1.le
 have m2 := h2.le
 by_cases hl : l1.length = l2.length
 ·have hlH := Lib.hid hl
  go_enter Tryz.func53, Tryz.ntmps53
  go_wp2
  clear hl
  go_loopw [5] (fun i wr => ∃ k : Nat, k ≤ l1.length ∧ i = .int .i64 k ∧ l1.take k = l2.take k ∧ Drew w wr) (fun i _ => l1.length - (intOf i).toNat)
  case atStart => exact ⟨0, by omega, rfl, rfl, .refl _⟩
  case round =>
   obtain ⟨k, hk, rfl, ht, n, rfl⟩ := hrel
   have htH := Lib.hid ht
   clear ht
   have hle := hlH.out
   by_cases hlt : k < l1.length
   ·have hlt2 : k < l2.length := by omega
    obtain ⟨b1, o1, rfl, -, q1, -⟩ := h1.int k hlt
    obtain ⟨b2, o2, rfl, -, q2, -⟩ := h2.int k hlt2
    clear h1 h2 hle
    go_wp2
    go_quiet (fail)
    all_goals go_wp2
    ·go_ret
     exact ⟨ret_bool (decide_eq_false (take_ne hlt hlt2 (by assumption))).symm, .mk2 _ _ _⟩
    ·exact ⟨⟨k + 1, by omega, by go_num, take_succ_eq hlt hlt2 htH.out (by assumption), .mk _ _⟩, by simp [intOf]; omega⟩
   ·clear hle
    have hk2 : ¬ k < l2.length := by have := hlH.out; omega
    go_wp2
    go_ret
    exact ⟨ret_bool (decide_eq_true (take_all_eq hlH.out hk2 htH.out)).symm, .mk _ _⟩
 ·go_enter Tryz.func53, Tryz.ntmps53
  have hb := int_ne hl
  go_wp2
  go_ret
  exact ⟨ret_bool (decide_eq_false (fun e => hl (by rw [e]))).symm, .refl _⟩
theorem CircE.det {s : Sg} {l : List Ent} {C C' : List ByteArray} {er er' : Int} (h : CircE s l C er) (k : CircE s l C' er') : C = C' ∧ er = er' := by
 rcases h with ⟨h1, rfl, rfl⟩ | ⟨h1, h⟩
 ·rcases k with ⟨k1, rfl, rfl⟩ | ⟨k1, -⟩
  ·exact ⟨rfl, rfl⟩
  ·rw [h1] at k1; cases k1
 ·rcases k with ⟨k1, -⟩ | ⟨k1, k⟩
  ·rw [h1] at k1; cases k1
  ·rcases h with ⟨h2, rfl, rfl⟩ | ⟨h2, rfl⟩ <;> rcases k with ⟨k2, rfl, rfl⟩ | ⟨k2, rfl⟩
   ·exact ⟨rfl, rfl⟩
   ·have := h2.det k2; cases this
   ·have := h2.det k2; cases this
   ·have := h2.det k2; injection this with this; exact ⟨this, rfl⟩
theorem circles_end {s : Sg} {l : List Ent} {C : List ByteArray} {er ew eo mk : Int} {wh : Bool} {oT : List Nat} {mf : ByteArray → Bool} (hC : CircE s l C er) (hW : wholeE s l = (wh, ew)) (hO : orderE s l = (oT, eo)) (hM : missE s l = (mf, mk)) :
  (mk = 1) ∨ (mk = 0 ∧ ¬ ∀ x, mf x = false) ∨ (mk = 0 ∧ (∀ x, mf x = false) ∧ ((er = 8 ∧ eo = 0 ∧ wh = true) ∨ (er = 0 ∧ eo = 12 ∧ wh = false ∧ isCirB s l C = true ∧ C.length ≤ 60))) := by
 rcases hC with ⟨h1, -, -⟩ | ⟨h1, hC⟩
 ·unfold missE at hM; rw [h1] at hM; injection hM with _ h; exact .inl h.symm
 ·refine .inr ?_
  unfold missE at hM
  rw [if_pos h1] at hM
  injection hM with m1 m2
  subst m1 m2
  by_cases hn : ∀ x, misB l x = false
  ·refine .inr ⟨rfl, hn, ?_⟩
   have hnb : noneB (misB l) = true := by unfold noneB; simp only [decide_eq_true_eq]; exact hn
   unfold wholeE at hW
   rw [if_pos h1, hnb, Bool.true_and] at hW
   injection hW with w1 _
   rcases hC with ⟨h2, rfl, rfl⟩ | ⟨h2, rfl⟩
   ·rw [ordly_ok h1 hnb h2] at hO
    injection hO with _ o2
    exact .inl ⟨rfl, o2.symm, by rw [← w1]; exact noCirc_none h2⟩
   ·have h3 := ordly_circ h1 hnb h2
    unfold ordlyE at h3
    rw [hO] at h3
    have h4 := circ_isCir h1 h2
    exact .inr ⟨rfl, h3, by rw [← w1]; exact noCirc_some h2, h4.1, Nat.le_trans h4.2 (okLib_parts h1).2.1⟩
  ·exact .inl ⟨rfl, hn⟩
set_option maxRecDepth 100000 in
set_option maxHeartbeats 8000000 in
theorem DepsCircles_walk {S1 S2 S3 : Nat → Prop} (sa : Option Addr) (sc : Nat) (s : Sg) (la : Option Addr) (lc : Nat) (l : List Ent) (na : Option Addr) (nc : Nat) (names : List ByteArray) (w : World) (h1 : Sign S1 w sa sc s) (h2 : LibL S2 w la lc l) (h3 : Sl strE S3 w na nc names) :
  Calls Tryz.prog 9 #[.slice sa s.length sc, .slice la l.length lc, .slice na names.length nc] w fun e w' => e = .returned (.bool true) ∧ Below w.heap.size w w' := by
 have m1 := h1.le
 have m2 := h2.le
 have m3 := h3.le
 have va := Lib.hid (awake6_any w)
 have vh := Lib.hid (fun W (hb : Below w.heap.size w W) => heavy_any sa la sc lc s l W (h1.below hb) (h2.below hb))
 have h1H := Lib.hid h1
 have h2H := Lib.hid h2
 have h3H := Lib.hid h3
 clear h1 h2 h3
 go_enter Tryz.func9, Tryz.ntmps9
 go_wp2_with fail
 refine va.out.mono ?_
 rintro e w1 ⟨rfl, hb1⟩
 have vh1 := Lib.hid (vh.out w1 hb1)
 have hb1H := Lib.hid hb1
 clear hb1
 go_wp2_with fail
 refine vh1.out.mono ?_
 rintro e w2 ⟨r, rfl, hlen, hb2⟩
 have hb2H := Lib.hid (bcall hb1H.out hb2)
 clear hb2
 cases r with
 | true =>
  clear hlen
  go_wp2_with fail
  go_ret
  exact ⟨rfl, hb2H.out⟩
 | false =>
 have hl100 := Lib.hid (hlen rfl)
 clear hlen
 by_cases x1 : 30 < names.length
 ·have y1 : ((30 : Int) < (names.length : Int)) = True := eq_true (by omega)
  go_wp2_with fail
  go_ret
  exact ⟨rfl, hb2H.out⟩
 have y1 : ((30 : Int) < (names.length : Int)) = False := eq_false (by omega)
 have hl1000 : l.length ≤ 1000 := by have := hl100.out; omega
 have hn1000 : names.length ≤ 1000 := by omega
 have h1w := h1H.out.below hb2H.out
 have h2w := h2H.out.below hb2H.out
 have h3w := h3H.out.below hb2H.out
 obtain ⟨⟨wh, ew⟩, hWh⟩ : ∃ r, wholeE s l = r := ⟨_, rfl⟩
 obtain ⟨⟨oT, eo⟩, hOr⟩ : ∃ r, orderE s l = r := ⟨_, rfl⟩
 obtain ⟨⟨mf, mk⟩, hMi⟩ : ∃ r, missE s l = r := ⟨_, rfl⟩
 obtain ⟨ci, hci⟩ : ∃ ci, isCirB s l names = ci := ⟨_, rfl⟩
 have vCirA := fun W (hb : Below w2.heap.size w2 W) => Circle_any sa la sc lc s l W (h1w.below hb) (h2w.below hb) hl1000
 have vCirAH := Lib.hid vCirA
 clear vCirA
 have vCirB := fun W (hb : Below w2.heap.size w2 W) => rCircleN_any sa la sc lc s l W (h1w.below hb) (h2w.below hb)
 have vCirBH := Lib.hid vCirB
 clear vCirB
 have vIsA := fun W (hb : Below w2.heap.size w2 W) => IsCircle_any sa la na sc lc nc s l names W (h1w.below hb) (h2w.below hb) (h3w.below hb) hl1000 hn1000
 simp only [hci] at vIsA
 have vIsAH := Lib.hid vIsA
 clear vIsA
 have vIsB := fun W (hb : Below w2.heap.size w2 W) => rIsCircle_any sa la na sc lc nc s l names W (h1w.below hb) (h2w.below hb) (h3w.below hb) hn1000
 simp only [hci] at vIsB
 have vIsBH := Lib.hid vIsB
 clear vIsB
 have vWhA := fun W (hb : Below w2.heap.size w2 W) => Whole_any sa la sc lc s l W (h1w.below hb) (h2w.below hb) hl1000
 simp only [hWh] at vWhA
 have vWhAH := Lib.hid vWhA
 clear vWhA
 have vWhB := fun W (hb : Below w2.heap.size w2 W) => rWholeN_any sa la sc lc s l W (h1w.below hb) (h2w.below hb)
 simp only [hWh] at vWhB
 have vWhBH := Lib.hid vWhB
 clear vWhB
 have vOrA := fun W (hb : Below w2.heap.size w2 W) => DepsOrder_any sa la sc lc s l W (h1w.below hb) (h2w.below hb) hl1000
 simp only [hOr] at vOrA
 have vOrAH := Lib.hid vOrA
 clear vOrA
 have vOrB := fun W (hb : Below w2.heap.size w2 W) => rDepsOrder_any sa la sc lc s l W (h1w.below hb) (h2w.below hb)
 simp only [hOr] at vOrB
 have vOrBH := Lib.hid vOrB
 clear vOrB
 have vMis := fun W (hb : Below w2.heap.size w2 W) => Missing_any sa la sc lc s l W (h1w.below hb) (h2w.below hb) hl1000
 simp only [hMi] at vMis
 have vMisH := Lib.hid vMis
 clear vMis
 have vIsCH := Lib.hid (fun (C : List ByteArray) (hC : C.length ≤ 60) (ca : Option Addr) (cc : Nat) (S : Nat → Prop) W (hb : Below w2.heap.size w2 W) (hS : Sl strE S W ca cc C) => IsCircle_any sa la ca sc lc cc s l C W (h1w.below hb) (h2w.below hb) hS hl1000 (by omega))
 have hWhH := Lib.hid hWh
 have hOrH := Lib.hid hOr
 have hMiH := Lib.hid hMi
 clear hWh hOr hMi hci h1w h2w h3w x1 hl1000 hn1000
 have c1 := Lib.hid (vCirAH.out w2 (.refl _ _))
 go_wp2_with fail
 refine c1.out.mono ?_
 rintro e x1 ⟨v, C, er, hC, rfl, hO, hb⟩
 obtain ⟨ac, cc, rfl, hS⟩ := OwnS.strs hO
 have mmC := hS.le
 have hB1 := Lib.hid hb
 have hCH := Lib.hid hC
 have hSH := Lib.hid hS
 clear hC hO hS hb c1
 have c2 := Lib.hid (vCirBH.out x1 hB1.out)
 go_wp2_with fail
 refine c2.out.mono ?_
 rintro e x2 ⟨v, C2, er2, hC, rfl, hO, hb⟩
 obtain ⟨rfl, rfl⟩ := CircE.det hCH.out hC
 obtain ⟨ac2, cc2, rfl, hS⟩ := OwnS.strs hO
 have hB2 := Lib.hid (bcall hB1.out hb)
 have hS1 := Lib.hid (hSH.out.below hb)
 have t1 := Lib.hid (SameTexts_any ac ac2 cc cc2 C C x2 hS1.out hS)
 have hCC : decide (C = C) = true := by simp
 clear hC hO hS hb c2 hSH
 go_wp2_with fail
 refine t1.out.mono ?_
 rintro e x3 ⟨rfl, hd⟩
 have hB3 := Lib.hid (bcall hB2.out (hd.below _))
 have hS3 := Lib.hid (hS1.out.below (hd.below _))
 clear hd t1 hS1
 have c3 := Lib.hid (vIsAH.out x3 hB3.out)
 go_wp2_with fail
 refine c3.out.mono ?_
 rintro e x4 ⟨rfl, hb⟩
 have hB4 := Lib.hid (bcall hB3.out hb)
 have hS4 := Lib.hid (hS3.out.below hb)
 clear hb c3 hS3
 have c4 := Lib.hid (vIsBH.out x4 hB4.out)
 go_wp2_with fail
 refine c4.out.mono ?_
 rintro e x5 ⟨rfl, hb⟩
 have hB5 := Lib.hid (bcall hB4.out hb)
 have hS5 := Lib.hid (hS4.out.below hb)
 clear hb c4 hS4
 have c5 := Lib.hid (vWhAH.out x5 hB5.out)
 go_wp2_with fail
 refine c5.out.mono ?_
 rintro e x6 ⟨rfl, hb⟩
 have hB6 := Lib.hid (bcall hB5.out hb)
 have hS6 := Lib.hid (hS5.out.below hb)
 clear hb c5 hS5
 have c6 := Lib.hid (vWhBH.out x6 hB6.out)
 go_wp2_with fail
 refine c6.out.mono ?_
 rintro e x7 ⟨rfl, hb⟩
 have hB7 := Lib.hid (bcall hB6.out hb)
 have hS7 := Lib.hid (hS6.out.below hb)
 clear hb c6 hS6
 have c7 := Lib.hid (vOrAH.out x7 hB7.out)
 go_wp2_with fail
 refine c7.out.mono ?_
 rintro e x8 ⟨v, rfl, hO, hb⟩
 obtain ⟨ao, co, rfl, hI⟩ := OwnI.ints hO
 have mmO := hI.le
 have hB8 := Lib.hid (bcall hB7.out hb)
 have hS8 := Lib.hid (hS7.out.below hb)
 have hIH := Lib.hid hI
 clear hI hO hb c7 hS7
 have c8 := Lib.hid (vOrBH.out x8 hB8.out)
 try simp only at mmO
 go_wp2_with fail
 refine c8.out.mono ?_
 rintro e x9 ⟨v, rfl, hO, hb⟩
 obtain ⟨ao2, co2, rfl, hI⟩ := OwnI.ints hO
 have hB9 := Lib.hid (bcall hB8.out hb)
 have hS9 := Lib.hid (hS8.out.below hb)
 have t2 := Lib.hid (SameIntsD_any ao ao2 co co2 (natI oT) (natI oT) x9 (hIH.out.below hb) hI)
 have hOO : decide (natI oT = natI oT) = true := by simp
 clear hI hO hb c8 hS8 hIH
 go_wp2_with fail
 refine t2.out.mono ?_
 rintro e x10 ⟨rfl, hd⟩
 have hB10 := Lib.hid (bcall hB9.out (hd.below _))
 have hS10 := Lib.hid (hS9.out.below (hd.below _))
 clear hd t2 hS9
 have c9 := Lib.hid (vMisH.out x10 hB10.out)
 go_wp2_with fail
 refine c9.out.mono ?_
 rintro e x11 ⟨v, Lm, rfl, hO, -, hm, hb⟩
 obtain ⟨am, cm, rfl, hSm⟩ := OwnS.strs hO
 have mmM := hSm.le
 have hB11 := Lib.hid (bcall hB10.out hb)
 have hS11 := Lib.hid (hS10.out.below hb)
 have hfin0 := Lib.hid (bcall hb2H.out hB11.out)
 have hend := circles_end hCH.out hWhH.out hOrH.out hMiH.out
 try simp only at hm
 clear hO hb c9 hS10 hSm
 obtain ⟨nm, hnm⟩ : ∃ nm, Lm.length = nm := ⟨_, rfl⟩
 rw [hnm] at mmM
 rw [hnm]
 rcases hend with rfl | ⟨rfl, hn⟩ | ⟨rfl, hn, hend⟩
 ·clear hm hnm
  go_wp2_with fail
  go_ret
  exact ⟨rfl, hfin0.out⟩
 ·have hn1 : 0 < nm := by
   rcases Nat.eq_zero_or_pos nm with e | e
   ·exfalso
    refine hn fun x => ?_
    have hL : Lm = [] := List.length_eq_zero_iff.1 (hnm.trans e)
    cases hx : mf x with
    | false => rfl
    | true => have := (hm x).2 hx; rw [hL] at this; cases this
   ·exact e
  have hn0 : ((0 : Int) < (nm : Int)) = True := eq_true (by omega)
  clear hm hnm hn
  go_wp2_with fail
  go_ret
  exact ⟨rfl, hfin0.out⟩
 ·have hn1 : ¬ 0 < nm := by
   intro h
   cases Lm with
   | nil => rw [← hnm] at h; simp at h
   | cons y r => have := (hm y).1 (by simp); rw [hn y] at this; cases this
  have hn0 : ((0 : Int) < (nm : Int)) = False := eq_false (by omega)
  clear hm hnm hn
  rcases hend with ⟨rfl, rfl, rfl⟩ | ⟨rfl, rfl, rfl, hcir, hC60⟩
  ·go_wp2_with fail
   go_ret
   exact ⟨rfl, hfin0.out⟩
  ·have ce := vIsCH.out C hC60 ac cc _ x11 hB11.out hS11.out
   rw [hcir] at ce
   have ceH := Lib.hid ce
   clear ce hcir hC60
   go_wp2_with fail
   refine ceH.out.mono ?_
   rintro e x12 ⟨rfl, hb⟩
   have hfin := Lib.hid (bcall hfin0.out hb)
   clear hb
   go_wp2_with fail
   go_ret
   exact ⟨rfl, hfin.out⟩
end Go.Proofs.YtpmnnoopoblpgaaGreat

/- The statement DepsCirclesSaid: for every input DepsCircles returns true and leaves its arguments as they were. No condition. -/
namespace Go.Proofs.YtpmnnoopoblpgaaGreat
open Go Go.RowKit Go.ChangeShapes Go.WideShapes Go.ChangeAt

set_option maxRecDepth 100000 in
theorem depsCircles_lifted (os : Os) (started : os.Started) (H : Type) (enc : TypeId × Value → H) :
  ReturnsInHanded {} Tryz.checked os 9 .any (Rows.depsCirclesSpec.pre6 enc Tryz.prog Tryz.f9 Rows.depsCirclesRow.domain false) (Rows.depsCirclesSpec.post enc Tryz.prog Tryz.f9 false true false false) := by
 refine returnsInHanded_of_change (C := Tryz.checked) Tryz.own started (by kernel_rfl) Tryz.func9
  (ChangeSpec.witness6 (enc := enc) (C := Tryz.checked) false ⟨#[], #[.slice none 0 0, .slice none 0 0, .slice none 0 0], []⟩ 8 (by kernel_rfl) (by kernel_rfl) (by kernel_rfl) (by kernel_rfl)) ?_
 intro W base args ds gs before hval0 hW hcnd _
 have hval : ∀ (j : Nat) t v, Tryz.f9.params[j]? = some t → args[j]? = some v → Value.okWide Tryz.prog W .any base t v := hval0
 have hW' := hW
 obtain ⟨p, q, hA0, hV, rfl, hfz, hnd⟩ := hW
 have hA : DataW.TrodAll enc Tryz.prog W 0 (fun _ => true) true Tryz.f9.params.toList args.toList ds p := hA0
 rw [Tryz.params9] at hA hval
 obtain ⟨v0, v1, v2, d0, d1, d2, p0, p1, p2, rfl, rfl, rfl, h0, h1, h2⟩ := trodAll_three hA
 obtain ⟨rfl, rfl⟩ := trodVars_none hV
 clear hA0 hval0
 simp only [List.append_nil] at hW'
 have hlt : ∀ x ∈ p0 ++ (p1 ++ p2), x.block < W.heap.size := fun x hx => hW'.lt x (by simpa using hx)
 have keep0 := fun (W' : World) (hn : Below W.heap.size W W') => Below.trod Tryz.laidOut (by kernel_rfl) (of_decide_eq_true (by kernel_rfl)) h0 hn (fun x hx => hlt x (by simp [hx]))
 have keep1 := fun (W' : World) (hn : Below W.heap.size W W') => Below.trod Tryz.laidOut (by kernel_rfl) (of_decide_eq_true (by kernel_rfl)) h1 hn (fun x hx => hlt x (by simp [hx]))
 have keep2 := fun (W' : World) (hn : Below W.heap.size W W') => Below.trod Tryz.laidOut (by kernel_rfl) (of_decide_eq_true (by kernel_rfl)) h2 hn (fun x hx => hlt x (by simp [hx]))
 obtain ⟨l0, a0, c0, rfl, r0⟩ := gSign.arg h0 (okWide_slice Tryz.underlying23 (hval 0 23 v0 rfl rfl))
 obtain ⟨l1, a1, c1, rfl, r1⟩ := gLib.arg h1 (okWide_slice Tryz.underlying24 (hval 1 24 v1 rfl rfl))
 obtain ⟨l2, a2, c2, rfl, r2⟩ := gStrs.arg h2 (okWide_slice Tryz.underlying29 (hval 2 29 v2 rfl rfl))
 refine (DepsCircles_walk _ _ _ _ _ _ _ _ _ W r0 r1 r2).mono fun e W' ⟨he, hB⟩ => ?_
 subst he
 exact ⟨_, rfl, _, _, _, [], p0 ++ (p1 ++ p2), [], hW', trodAll_mk1 (shut_bool Tryz.underlying4 true), trodAll_mk3 (keep0 _ hB) (keep1 _ hB) (keep2 _ hB), rfl, hB.frame _, fun h => by cases h⟩

theorem depsCircles_holds : Rows.DepsCirclesSaid :=
 OpenClaim.holds_of_wide 9 Tryz.f9 rfl rfl rfl rfl rfl rfl rfl ⟨rfl, rfl, rfl, rfl, rfl⟩ rfl rfl rfl rfl rfl (by kernel_rfl) Tryz.func9 (by kernel_rfl)
  (of_decide_eq_true (by kernel_rfl)) (by unfold Func.isWrapper; rw [if_neg (of_decide_eq_false (by kernel_rfl))]; exact ⟨rfl, rfl⟩)
  (fun os started H enc _ => depsCircles_lifted os started H enc)
end Go.Proofs.YtpmnnoopoblpgaaGreat
