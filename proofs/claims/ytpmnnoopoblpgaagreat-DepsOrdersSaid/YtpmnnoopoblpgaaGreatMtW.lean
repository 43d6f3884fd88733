/- The proof of a statement, some of its texts joined in build order: part W. -/
import Derived.Test.YtpmnnoopoblpgaaGreatMtA
import Derived.Test.YtpmnnoopoblpgaaGreatMtE
import Derived.Test.YtpmnnoopoblpgaaGreatLit
import Derived.Deep.RegionHeld3
import Derived.Lib.SliceRun
/- Each thing follows from itself: what the proof of the laws on kernel says, in plain words. No program is named. -/
namespace Go.Proofs.YtpmnnoopoblpgaaGreat

/-- a unifier through which all others go gives what the most general one gives -/
theorem uniE_by {s : Sg} (hok : okSign s = true) {a b : List Int} (ha : W1 s a) (hb : W1 s b) (ra : Rg a) (rb : Rg b) {ξ : Int → List Int} (hξ : Wsub s ξ) (he : ap ξ a = ap ξ b)
    (hm : ∀ η, Wsub s η → ap η a = ap η b → ∀ n, n < 0 → ap η (ξ n) = η n) (t : List Int) : uniE s a b t = madeE ξ t := by
  obtain ⟨θ, hθ⟩ := mgu_ex hok ha hb ra rb hξ he
  have e2 : ap θ (ap ξ t) = ap θ t := by rw [ap_ap]; exact ap_congr (fun n _ hn => hm θ hθ.th hθ.eq n hn)
  obtain ⟨c1, c2, c3⟩ := canon_two hθ.th hξ (u1 := ap θ t) (u2 := ap ξ t) (hθ.most hξ he t) e2
  rw [uniE_some hθ]
  unfold madeE
  rw [c1, c2, c3]
def aw4S : Sg := [(⟨#[67]⟩, 2)]
def aw4K : List Int := [0, -1, 0, -2, -1]
def aw4C : List Int := [0, 0, -1, 0, -2, -3, 0, 0, -1, -2, 0, -1, -3]
def aw4G : List (List Int) := [aw4K, aw4C]
def aw4P : List Stp := [(1, 1, 0), (1, 0, 0), (2, 0, 1), (2, 2, 1)]
def aw4D : List Int := [0, 0, -1, -2, 0, -1, -1]
theorem aw4_one : detE aw4S aw4C aw4K = (aw4D, 0) := by
  have hC : okT aw4S aw4C = true := by decide +kernel
  have hK : okT aw4S aw4K = true := by decide +kernel
  have hA : W1 aw4S [0, -1, 0, -2, -3] := by unfold W1; decide +kernel
  have hA' : okT aw4S [0, -1, 0, -2, -3] = true := by decide +kernel
  rw [detE_at hC hK (A := [0, -1, 0, -2, -3]) (B := [0, 0, -1, -2, 0, -1, -3]) rfl hA]
  have hξ : Wsub aw4S (fun n => if n = -13 then [-1] else if n = -14 then [-2] else if n = -3 then [-1] else [n]) := fun n hn => by
    show W1 aw4S (if n = -13 then [-1] else if n = -14 then [-2] else if n = -3 then [-1] else [n])
    split
    · exact W1.var (by decide)
    · split
      · exact W1.var (by decide)
      · split
        · exact W1.var (by decide)
        · exact W1.var hn
  rw [uniE_by (okT_parts hC).1 hA (apartT_w (okT_w1 hK)) (okT_Rg hA') (apartT_rg hK) hξ (by decide +kernel) (fun η hw he n hn => ?_)]
  · decide +kernel
  · have e1 : ap η [0, -1, 0, -2, -3] = 0 :: (η (-1) ++ (0 :: (η (-2) ++ η (-3)))) := by
      rw [ap_pos (by decide), ap_neg (by decide), ap_pos (by decide), ap_neg (by decide), ap_one (by decide)]
    have e2 : ap η (apartT aw4K) = 0 :: (η (-13) ++ (0 :: (η (-14) ++ η (-13)))) := by
      show ap η [0, -13, 0, -14, -13] = _
      rw [ap_pos (by decide), ap_neg (by decide), ap_pos (by decide), ap_neg (by decide), ap_one (by decide)]
    rw [e1, e2] at he
    obtain ⟨q1, q2⟩ := W1.uniq (hw _ (by decide)) (hw _ (by decide)) (List.cons.inj he).2
    obtain ⟨q3, q4⟩ := W1.uniq (hw _ (by decide)) (hw _ (by decide)) (List.cons.inj q2).2
    show ap η (if n = -13 then [-1] else if n = -14 then [-2] else if n = -3 then [-1] else [n]) = η n
    split
    · rename_i h; subst h; rw [ap_one (by decide), q1]
    · split
      · rename_i h; subst h; rw [ap_one (by decide), q3]
      · split
        · rename_i h; subst h; rw [ap_one (by decide), q4, q1]
        · rw [ap_one hn]
theorem aw4_last : detE aw4S aw4D aw4K = ([0, -1, -1], 0) := by
  have hC : okT aw4S aw4D = true := by decide +kernel
  have hK : okT aw4S aw4K = true := by decide +kernel
  have hA : W1 aw4S [0, -1, -2] := by unfold W1; decide +kernel
  have hA' : okT aw4S [0, -1, -2] = true := by decide +kernel
  rw [detE_at hC hK (A := [0, -1, -2]) (B := [0, -1, -1]) rfl hA]
  have hξ : Wsub aw4S (fun n => if n = -13 then [-1] else if n = -2 then [0, -14, -1] else [n]) := fun n hn => by
    show W1 aw4S (if n = -13 then [-1] else if n = -2 then [0, -14, -1] else [n])
    split
    · exact W1.var (by decide)
    · split
      · unfold W1; decide +kernel
      · exact W1.var hn
  rw [uniE_by (okT_parts hC).1 hA (apartT_w (okT_w1 hK)) (okT_Rg hA') (apartT_rg hK) hξ (by decide +kernel) (fun η hw he n hn => ?_)]
  · decide +kernel
  · have e1 : ap η [0, -1, -2] = 0 :: (η (-1) ++ η (-2)) := by
      rw [ap_pos (by decide), ap_neg (by decide), ap_one (by decide)]
    have e2 : ap η (apartT aw4K) = 0 :: (η (-13) ++ (0 :: (η (-14) ++ η (-13)))) := by
      show ap η [0, -13, 0, -14, -13] = _
      rw [ap_pos (by decide), ap_neg (by decide), ap_pos (by decide), ap_neg (by decide), ap_one (by decide)]
    rw [e1, e2] at he
    obtain ⟨q1, q2⟩ := W1.uniq (hw _ (by decide)) (hw _ (by decide)) (List.cons.inj he).2
    show ap η (if n = -13 then [-1] else if n = -2 then [0, -14, -1] else [n]) = η n
    split
    · rename_i h; subst h; rw [ap_one (by decide), q1]
    · split
      · rename_i h; subst h
        rw [ap_pos (by decide), ap_neg (by decide), ap_one (by decide), q2, q1]
      · rw [ap_one hn]
theorem aw4_says : saysE aw4S aw4G aw4P = ([0, -1, -1], 0) := by
  have h1 : stepE aw4S aw4G [] (1, 1, 0) = (aw4C, 0) := by unfold stepE; rw [if_pos rfl]; decide +kernel
  have h2 : stepE aw4S aw4G [aw4C] (1, 0, 0) = (aw4K, 0) := by unfold stepE; rw [if_pos rfl]; decide +kernel
  have h3 : stepE aw4S aw4G [aw4C, aw4K] (2, 0, 1) = (aw4D, 0) := by unfold stepE; rw [if_neg (by decide)]; exact aw4_one
  have h4 : stepE aw4S aw4G [aw4C, aw4K, aw4D] (2, 2, 1) = ([0, -1, -1], 0) := by unfold stepE; rw [if_neg (by decide)]; exact aw4_last
  have hr : runL aw4S aw4G aw4P [] = ([aw4C, aw4K, aw4D, [0, -1, -1]], 0) := by
    unfold aw4P
    rw [runL, h1, if_pos rfl, List.nil_append, runL, h2, if_pos rfl, List.cons_append, List.nil_append, runL, h3, if_pos rfl, List.cons_append, List.cons_append, List.nil_append, runL, h4, if_pos rfl, runL]
    rfl
  unfold saysE
  rw [if_pos (by decide +kernel), hr]
  rfl
end Go.Proofs.YtpmnnoopoblpgaaGreat

/- The chapter's example of a library, in plain words: it is sound, i leans on k and s, and it breaks if k says that each thing follows from itself. No program is named. -/
namespace Go.Proofs.YtpmnnoopoblpgaaGreat

def nK : ByteArray := ⟨#[107]⟩
def nS : ByteArray := ⟨#[115]⟩
def nI : ByteArray := ⟨#[105]⟩
def nAnn : ByteArray := ⟨#[97, 110, 110]⟩
def nBob : ByteArray := ⟨#[98, 111, 98]⟩
def skI : List Int := [0, -1, -1]
def skiL : List Ent := [(nK, nAnn, aw4K, [], []), (nS, nAnn, aw4C, [], []), (nI, nBob, skI, [nK, nS], aw4P)]
theorem ski_ok : okLib aw4S skiL = true := by decide +kernel
theorem ins_self {s : Sg} {a : List Int} : instB s a a = true := instB_iff.2 ⟨fun n => [n], fun _ hn => W1.var hn, ap_id (fun _ _ _ => rfl)⟩
theorem ski_at {x : ByteArray} : (atN skiL x).isSome = true ↔ x = nK ∨ x = nS ∨ x = nI := by
  unfold atN skiL
  rw [List.findIdx?_isSome]
  simp only [List.any_cons, List.any_nil, Bool.or_false, Bool.or_eq_true, eNm]
  constructor
  · rintro (h | h | h)
    · exact .inl (of_decide_eq_true h).symm
    · exact .inr (.inl (of_decide_eq_true h).symm)
    · exact .inr (.inr (of_decide_eq_true h).symm)
  · rintro (h | h | h)
    · exact .inl (decide_eq_true h.symm)
    · exact .inr (.inl (decide_eq_true h.symm))
    · exact .inr (.inr (decide_eq_true h.symm))
theorem ski_uses (n : ByteArray) : usesN skiL n = if n = nI then [nK, nS] else [] := by
  cases h : atN skiL n with
  | none =>
    unfold usesN
    rw [h]
    by_cases e : n = nI
    · have : (atN skiL n).isSome = true := ski_at.2 (.inr (.inr e))
      rw [h] at this; cases this
    · rw [if_neg e]
  | some i =>
    obtain ⟨hi, e⟩ := atN_some h
    unfold usesN
    rw [h]
    match i, hi, e with
    | 0, _, e => subst e; rfl
    | 1, _, e => subst e; rfl
    | 2, _, e => subst e; rfl
theorem ski_rch {may : ByteArray → Prop} {n u : ByteArray} (h : Rch (usesN skiL) may n u) : n = nI ∧ (u = nK ∨ u = nS) := by
  induction h with
  | one h1 h2 =>
    rw [ski_uses] at h1
    by_cases e : n = nI
    · rw [if_pos e] at h1; exact ⟨e, by simpa using h1⟩
    · rw [if_neg e] at h1; cases h1
  | more h0 h1 h2 ih =>
    rw [ski_uses] at h1
    rcases ih.2 with rfl | rfl
    · rw [if_neg (by decide)] at h1; cases h1
    · rw [if_neg (by decide)] at h1; cases h1
theorem ski_loop (x : ByteArray) : loopB skiL x = false := by
  cases h : loopB skiL x with
  | false => rfl
  | true =>
    unfold loopB at h
    obtain ⟨h1, h2⟩ := ski_rch (rchB_iff.1 h)
    subst h1
    rcases h2 with h2 | h2 <;> exact absurd h2 (by decide)
theorem ski_leans (x : ByteArray) : (rchB skiL (fun _ => true) nI x && (atN skiL x).isSome) = true ↔ x ∈ [nK, nS] := by
  rw [Bool.and_eq_true, rchB_iff, ski_at]
  constructor
  · rintro ⟨h, -⟩
    have := (ski_rch h).2
    simpa using this
  · intro h
    have hu : x ∈ usesN skiL nI := by rw [ski_uses, if_pos rfl]; exact h
    refine ⟨.one hu rfl, ?_⟩
    simp at h
    rcases h with h | h
    · exact .inl h
    · exact .inr (.inl h)
theorem ski_asc : AscN [nK, nS] := by
  refine List.Pairwise.cons (fun y hy => ?_) (List.pairwise_singleton _ _)
  rw [List.mem_singleton] at hy
  subst hy
  show nK.data.toList < nS.data.toList
  decide
theorem strX_ax {s : Sg} {l : List Ent} {i : Nat} (h : ePf (l.getD i default) = []) : strX s l i = some (eSays (l.getD i default)) := by unfold strX; rw [if_pos h]
theorem ski_str : strX aw4S skiL 2 = some skI := by
  have e1 : ePf (skiL.getD 2 default) = aw4P := rfl
  have e2 : eUses (skiL.getD 2 default) = [nK, nS] := rfl
  have e3 : givF skiL [nK, nS] = aw4G := rfl
  have e4 : inAll skiL [nK, nS] = true := rfl
  unfold strX
  rw [e1, e2, if_neg (by decide), if_pos e4, e3, aw4_says]
  rfl
theorem ski_hold : ∀ i, i < 3 → holdX aw4S skiL i = true := by
  intro i hi
  have h0 : ∀ t, strX aw4S skiL i = some t → t = eSays (skiL.getD i default) → okT aw4S t = true → holdX aw4S skiL i = true := fun t h1 h2 h3 => by
    unfold holdX
    rw [h1]
    simp only
    rw [← h2, h3, ins_self]
    rfl
  match i, hi with
  | 0, _ => exact h0 _ (strX_ax rfl) rfl (by decide +kernel)
  | 1, _ => exact h0 _ (strX_ax rfl) rfl (by decide +kernel)
  | 2, _ => exact h0 _ ski_str rfl (by decide +kernel)
theorem ski_inside : ∀ x ∈ skiL, ∀ u ∈ eUses x, (atN skiL u).isSome = true := by
  intro x hx u hu
  have : skiL.all (fun x => (eUses x).all (fun u => (atN skiL u).isSome)) = true := by decide
  rw [List.all_eq_true] at this
  have := this x hx
  rw [List.all_eq_true] at this
  exact this u hu
/-! if k says that each thing follows from itself -/
def aw6G : List (List Int) := [skI, aw4C]
def aw6D : List Int := [0, 0, 0, -1, -2, -1, 0, 0, -1, -2, -2]
theorem aw6_one : detE aw4S aw4C skI = (aw6D, 0) := by
  have hC : okT aw4S aw4C = true := by decide +kernel
  have hK : okT aw4S skI = true := by decide +kernel
  have hA : W1 aw4S [0, -1, 0, -2, -3] := by unfold W1; decide +kernel
  have hA' : okT aw4S [0, -1, 0, -2, -3] = true := by decide +kernel
  rw [detE_at hC hK (A := [0, -1, 0, -2, -3]) (B := [0, 0, -1, -2, 0, -1, -3]) rfl hA]
  have hξ : Wsub aw4S (fun n => if n = -13 then [0, -2, -3] else if n = -1 then [0, -2, -3] else [n]) := fun n hn => by
    show W1 aw4S (if n = -13 then [0, -2, -3] else if n = -1 then [0, -2, -3] else [n])
    split
    · unfold W1; decide +kernel
    · split
      · unfold W1; decide +kernel
      · exact W1.var hn
  rw [uniE_by (okT_parts hC).1 hA (apartT_w (okT_w1 hK)) (okT_Rg hA') (apartT_rg hK) hξ (by decide +kernel) (fun η hw he n hn => ?_)]
  · decide +kernel
  · have e1 : ap η [0, -1, 0, -2, -3] = 0 :: (η (-1) ++ (0 :: (η (-2) ++ η (-3)))) := by
      rw [ap_pos (by decide), ap_neg (by decide), ap_pos (by decide), ap_neg (by decide), ap_one (by decide)]
    have e2 : ap η (apartT skI) = 0 :: (η (-13) ++ η (-13)) := by
      show ap η [0, -13, -13] = _
      rw [ap_pos (by decide), ap_neg (by decide), ap_one (by decide)]
    have e3 : ap η [0, -2, -3] = 0 :: (η (-2) ++ η (-3)) := by
      rw [ap_pos (by decide), ap_neg (by decide), ap_one (by decide)]
    rw [e1, e2] at he
    obtain ⟨q1, q2⟩ := W1.uniq (hw _ (by decide)) (hw _ (by decide)) (List.cons.inj he).2
    show ap η (if n = -13 then [0, -2, -3] else if n = -1 then [0, -2, -3] else [n]) = η n
    split
    · rename_i h; subst h; rw [e3, ← q2]
    · split
      · rename_i h; subst h; rw [e3, q1, ← q2]
      · rw [ap_one hn]
theorem aw6_last : (detE aw4S aw6D skI).2 = 8 := by
  have hC : okT aw4S aw6D = true := by decide +kernel
  have hK : okT aw4S skI = true := by decide +kernel
  have hA : W1 aw4S [0, 0, -1, -2, -1] := by unfold W1; decide +kernel
  rw [detE_at hC hK (A := [0, 0, -1, -2, -1]) (B := [0, 0, -1, -2, -2]) rfl hA]
  rw [uniE_none (fun η hw he => ?_)]
  have e1 : ap η [0, 0, -1, -2, -1] = 0 :: ((0 :: (η (-1) ++ η (-2))) ++ η (-1)) := by
    rw [ap_pos (by decide), ap_pos (by decide), ap_neg (by decide), ap_neg (by decide), ap_one (by decide)]
    simp
  have e2 : ap η (apartT skI) = 0 :: (η (-13) ++ η (-13)) := by
    show ap η [0, -13, -13] = _
    rw [ap_pos (by decide), ap_neg (by decide), ap_one (by decide)]
  rw [e1, e2] at he
  have h1 : W1 aw4S (0 :: (η (-1) ++ η (-2))) := by
    have := (show W1 aw4S [0, -1, -2] by unfold W1; decide +kernel).ap hw
    rw [ap_pos (by decide), ap_neg (by decide), ap_one (by decide)] at this
    exact this
  obtain ⟨q1, q2⟩ := W1.uniq h1 (hw _ (by decide)) (List.cons.inj he).2
  have := congrArg List.length (q1.trans q2.symm)
  simp at this
  omega
theorem aw6_says : (saysE aw4S aw6G aw4P).2 = 8 := by
  have h1 : stepE aw4S aw6G [] (1, 1, 0) = (aw4C, 0) := by unfold stepE; rw [if_pos rfl]; decide +kernel
  have h2 : stepE aw4S aw6G [aw4C] (1, 0, 0) = (skI, 0) := by unfold stepE; rw [if_pos rfl]; decide +kernel
  have h3 : stepE aw4S aw6G [aw4C, skI] (2, 0, 1) = (aw6D, 0) := by unfold stepE; rw [if_neg (by decide)]; exact aw6_one
  have h4 : (stepE aw4S aw6G [aw4C, skI, aw6D] (2, 2, 1)).2 = 8 := by unfold stepE; rw [if_neg (by decide)]; exact aw6_last
  have hr : (runL aw4S aw6G aw4P []).2 = 8 := by
    unfold aw4P
    rw [runL, h1, if_pos rfl, List.nil_append, runL, h2, if_pos rfl, List.cons_append, List.nil_append, runL, h3, if_pos rfl, List.cons_append, List.cons_append, List.nil_append, runL, if_neg (by rw [h4]; decide)]
    exact h4
  unfold saysE
  rw [if_pos (by decide +kernel), if_neg (by rw [hr]; decide)]
  exact hr
def skiL2 : List Ent := [(nK, nAnn, skI, [], []), (nS, nAnn, aw4C, [], []), (nI, nBob, skI, [nK, nS], aw4P)]
theorem ski2_hold : holdX aw4S skiL2 2 = false := by
  have e1 : ePf (skiL2.getD 2 default) = aw4P := rfl
  have e2 : eUses (skiL2.getD 2 default) = [nK, nS] := rfl
  have e3 : givF skiL2 [nK, nS] = aw6G := rfl
  have e4 : inAll skiL2 [nK, nS] = true := rfl
  have : strX aw4S skiL2 2 = none := by
    unfold strX
    rw [e1, e2, if_neg (by decide), if_pos e4, e3, if_neg (by rw [aw6_says]; decide)]
  unfold holdX
  rw [this]
theorem ski2_ax : ∀ i, i < 2 → holdX aw4S skiL2 i = true := by
  intro i hi
  have h0 : ∀ t, strX aw4S skiL2 i = some t → t = eSays (skiL2.getD i default) → okT aw4S t = true → holdX aw4S skiL2 i = true := fun t h1 h2 h3 => by
    unfold holdX
    rw [h1]
    simp only
    rw [← h2, h3, ins_self]
    rfl
  match i, hi with
  | 0, _ => exact h0 _ (strX_ax rfl) rfl (by decide +kernel)
  | 1, _ => exact h0 _ (strX_ax rfl) rfl (by decide +kernel)
theorem ski_breaks (x : ByteArray) : chB skiL (fun k => holdX aw4S skiL k && !holdX aw4S skiL2 k) x = true ↔ x ∈ [nI] := by
  rw [chB_iff]
  constructor
  · rintro ⟨i, hi, h1, h2⟩
    match i, hi, h1, h2 with
    | 0, _, h1, _ => rw [ski2_ax 0 (by decide)] at h1; simp at h1
    | 1, _, h1, _ => rw [ski2_ax 1 (by decide)] at h1; simp at h1
    | 2, _, _, h2 => rw [← h2]; exact List.mem_singleton.2 rfl
  · intro h
    rw [List.mem_singleton] at h
    subst h
    exact ⟨2, by decide, by rw [ski_hold 2 (by decide), ski2_hold]; rfl, rfl⟩
end Go.Proofs.YtpmnnoopoblpgaaGreat

/- Walks: the chapter's example of a library; SameTexts. -/
namespace Go.Proofs.YtpmnnoopoblpgaaGreat
open Go Go.RowKit Go.Maps

abbrev skK : Obj := .cells #[.int .i64 0, .int .i64 (-1), .int .i64 0, .int .i64 (-2), .int .i64 (-1)] 3
abbrev skC : Obj := .cells #[.int .i64 0, .int .i64 0, .int .i64 (-1), .int .i64 0, .int .i64 (-2), .int .i64 (-3), .int .i64 0, .int .i64 0, .int .i64 (-1), .int .i64 (-2), .int .i64 0, .int .i64 (-1), .int .i64 (-3)] 3
abbrev skP : Obj := .cells #[.int .i64 1, .int .i64 1, .int .i64 0, .int .i64 1, .int .i64 0, .int .i64 0, .int .i64 2, .int .i64 0, .int .i64 1, .int .i64 2, .int .i64 2, .int .i64 1] 117
abbrev skT : Obj := .cells #[.int .i64 0, .int .i64 (-1), .int .i64 (-1)] 3
abbrev skU : Obj := .cells #[.string nK, .string nS] 9
abbrev skE1 (n : Nat) : Obj := .cells #[.string nK, .string nAnn, .slice (some ⟨n, 0, none⟩) 5 5, .slice none 0 0, .slice none 0 0] 37
abbrev skE2 (n : Nat) : Obj := .cells #[.string nS, .string nAnn, .slice (some ⟨n + 1 + 1, 0, none⟩) 13 13, .slice none 0 0, .slice none 0 0] 37
abbrev skE3 (n : Nat) : Obj := .cells #[.string nI, .string nBob, .slice (some ⟨n + 1 + 1 + 1 + 1 + 1, 0, none⟩) 3 3, .slice (some ⟨n + 1 + 1 + 1 + 1 + 1 + 1, 0, none⟩) 2 2, .slice (some ⟨n + 1 + 1 + 1 + 1, 0, none⟩) 4 4] 37
abbrev skS : Obj := .cells #[.string ⟨#[67]⟩, .int .i64 2] 115
abbrev skL (n : Nat) : Obj := .cells #[.string nK, .string nAnn, .slice (some ⟨n, 0, none⟩) 5 5, .slice none 0 0, .slice none 0 0, .string nS, .string nAnn, .slice (some ⟨n + 1 + 1, 0, none⟩) 13 13, .slice none 0 0, .slice none 0 0,
  .string nI, .string nBob, .slice (some ⟨n + 1 + 1 + 1 + 1 + 1, 0, none⟩) 3 3, .slice (some ⟨n + 1 + 1 + 1 + 1 + 1 + 1, 0, none⟩) 2 2, .slice (some ⟨n + 1 + 1 + 1 + 1, 0, none⟩) 4 4] 37
abbrev skW (w : World) : World := (((((((w.alloc skK).alloc (skE1 w.heap.size)).alloc skC).alloc (skE2 w.heap.size)).alloc skP).alloc skT).alloc skU).alloc (skE3 w.heap.size)
theorem inr0 : inRange 0 := by unfold inRange; decide
theorem inr1 : inRange 1 := by unfold inRange; decide
theorem inr2 : inRange 2 := by unfold inRange; decide
structure SkAt (n : Nat) (W : World) : Prop where
  k : Ints (fun _ => True) W (some ⟨n, 0, none⟩) 5 aw4K
  c : Ints (fun _ => True) W (some ⟨n + 1 + 1, 0, none⟩) 13 aw4C
  p : Steps (fun _ => True) W (some ⟨n + 1 + 1 + 1 + 1, 0, none⟩) 4 aw4P
  t : Ints (fun _ => True) W (some ⟨n + 1 + 1 + 1 + 1 + 1, 0, none⟩) 3 skI
  u : Sl strE (fun _ => True) W (some ⟨n + 1 + 1 + 1 + 1 + 1 + 1, 0, none⟩) 2 [nK, nS]
theorem SkAt.below {n : Nat} {W W' : World} (h : SkAt n W) (hb : Below W.heap.size W W') : SkAt n W' := ⟨h.k.below hb, h.c.below hb, h.p.below hb, h.t.below hb, h.u.below hb⟩
theorem sk_at (w : World) : SkAt w.heap.size (skW w) ∧ Below w.heap.size w (skW w) ∧ (skW w).heap.size = w.heap.size + 8 := by
  have hK := (Ints.new w aw4K 3 (by decide) (by unfold inRange; decide)).any
  obtain ⟨W1, hW1⟩ : ∃ W, w.alloc skK = W := ⟨_, rfl⟩
  rw [show w.alloc (.cells (aw4K.map (Value.int .i64)).toArray 3) = w.alloc skK from rfl, hW1] at hK
  have z1 : W1.heap.size = w.heap.size + 1 := by rw [← hW1]; simp
  have b1 : Below w.heap.size w W1 := by rw [← hW1]; exact below1 _ _
  obtain ⟨W2, hW2⟩ : ∃ W, W1.alloc (skE1 w.heap.size) = W := ⟨_, rfl⟩
  have z2 : W2.heap.size = w.heap.size + 1 + 1 := by rw [← hW2]; simp [z1]
  have b2 : Below W1.heap.size W1 W2 := by rw [← hW2]; exact below1 _ _
  have hC := (Ints.new W2 aw4C 3 (by decide) (by unfold inRange; decide)).any
  obtain ⟨W3, hW3⟩ : ∃ W, W2.alloc skC = W := ⟨_, rfl⟩
  rw [show W2.alloc (.cells (aw4C.map (Value.int .i64)).toArray 3) = W2.alloc skC from rfl, hW3, z2] at hC
  have z3 : W3.heap.size = w.heap.size + 1 + 1 + 1 := by rw [← hW3]; simp [z2]
  have b3 : Below W2.heap.size W2 W3 := by rw [← hW3]; exact below1 _ _
  obtain ⟨W4, hW4⟩ : ∃ W, W3.alloc (skE2 w.heap.size) = W := ⟨_, rfl⟩
  have z4 : W4.heap.size = w.heap.size + 1 + 1 + 1 + 1 := by rw [← hW4]; simp [z3]
  have b4 : Below W3.heap.size W3 W4 := by rw [← hW4]; exact below1 _ _
  have hP := (Sl.new (E := stpE) (S := fun _ => False) W4 [[.int .i64 1, .int .i64 1, .int .i64 0], [.int .i64 1, .int .i64 0, .int .i64 0], [.int .i64 2, .int .i64 0, .int .i64 1], [.int .i64 2, .int .i64 2, .int .i64 1]] aw4P 117 rfl (by decide) (fun i h1 h2 => by
    match i, h1 with
    | 0, _ => exact ⟨[_], _, rfl, ⟨rfl, (inr1 : inRange 1)⟩, [_], [_], rfl, ⟨rfl, (inr1 : inRange 1)⟩, ⟨rfl, (inr0 : inRange 0)⟩⟩
    | 1, _ => exact ⟨[_], _, rfl, ⟨rfl, (inr1 : inRange 1)⟩, [_], [_], rfl, ⟨rfl, (inr0 : inRange 0)⟩, ⟨rfl, (inr0 : inRange 0)⟩⟩
    | 2, _ => exact ⟨[_], _, rfl, ⟨rfl, (inr2 : inRange 2)⟩, [_], [_], rfl, ⟨rfl, (inr0 : inRange 0)⟩, ⟨rfl, (inr1 : inRange 1)⟩⟩
    | 3, _ => exact ⟨[_], _, rfl, ⟨rfl, (inr2 : inRange 2)⟩, [_], [_], rfl, ⟨rfl, (inr2 : inRange 2)⟩, ⟨rfl, (inr1 : inRange 1)⟩⟩)).any
  obtain ⟨W5, hW5⟩ : ∃ W, W4.alloc skP = W := ⟨_, rfl⟩
  have hP5 : Steps (fun _ => True) W5 (some ⟨w.heap.size + 1 + 1 + 1 + 1, 0, none⟩) 4 aw4P := by rw [← z4, ← hW5]; exact hP
  have z5 : W5.heap.size = w.heap.size + 1 + 1 + 1 + 1 + 1 := by rw [← hW5]; simp [z4]
  have b5 : Below W4.heap.size W4 W5 := by rw [← hW5]; exact below1 _ _
  have hT := (Ints.new W5 skI 3 (by decide) (by unfold inRange; decide)).any
  obtain ⟨W6, hW6⟩ : ∃ W, W5.alloc skT = W := ⟨_, rfl⟩
  rw [show W5.alloc (.cells (skI.map (Value.int .i64)).toArray 3) = W5.alloc skT from rfl, hW6, z5] at hT
  have z6 : W6.heap.size = w.heap.size + 1 + 1 + 1 + 1 + 1 + 1 := by rw [← hW6]; simp [z5]
  have b6 : Below W5.heap.size W5 W6 := by rw [← hW6]; exact below1 _ _
  have hU := (Sl.new (E := strE) (S := fun _ => False) W6 [[.string nK], [.string nS]] [nK, nS] 9 rfl (by decide) (fun i h1 h2 => by
    match i, h1 with
    | 0, _ => exact ⟨rfl, (by decide : 1 ≤ big)⟩
    | 1, _ => exact ⟨rfl, (by decide : 1 ≤ big)⟩)).any
  obtain ⟨W7, hW7⟩ : ∃ W, W6.alloc skU = W := ⟨_, rfl⟩
  have hU7 : Sl strE (fun _ => True) W7 (some ⟨w.heap.size + 1 + 1 + 1 + 1 + 1 + 1, 0, none⟩) 2 [nK, nS] := by rw [← z6, ← hW7]; exact hU
  have z7 : W7.heap.size = w.heap.size + 1 + 1 + 1 + 1 + 1 + 1 + 1 := by rw [← hW7]; simp [z6]
  have b7 : Below W6.heap.size W6 W7 := by rw [← hW7]; exact below1 _ _
  obtain ⟨W8, hW8⟩ : ∃ W, W7.alloc (skE3 w.heap.size) = W := ⟨_, rfl⟩
  have z8 : W8.heap.size = w.heap.size + 1 + 1 + 1 + 1 + 1 + 1 + 1 + 1 := by rw [← hW8]; simp [z7]
  have b8 : Below W7.heap.size W7 W8 := by rw [← hW8]; exact below1 _ _
  have hWW : skW w = W8 := by unfold skW; rw [hW1, hW2, hW3, hW4, hW5, hW6, hW7, hW8]
  rw [hWW]
  refine ⟨⟨(((((((hK.below b2).below b3).below b4).below b5).below b6).below b7).below b8), ((((hC.below b4).below b5).below b6).below b7).below b8, ((hP5.below b6).below b7).below b8, (hT.below b7).below b8, hU7.below b8⟩, ?_, by omega⟩
  exact bcall (bcall (bcall (bcall (bcall (bcall (bcall b1 b2) b3) b4) b5) b6) b7) b8
theorem sk_sign (w : World) : Sign (fun _ => True) (w.alloc skS) (some ⟨w.heap.size, 0, none⟩) 1 aw4S :=
  (Sl.new (E := symE) (S := fun _ => False) w [[.string ⟨#[67]⟩, .int .i64 2]] aw4S 115 rfl (by decide) (fun i h1 h2 => by
    match i, h1 with
    | 0, _ => exact ⟨[_], [_], rfl, ⟨rfl, (by decide : 1 ≤ big)⟩, ⟨rfl, (by unfold inRange; decide : inRange 2)⟩⟩)).any
theorem sk_lib {n : Nat} {W : World} (h : SkAt n W) : LibL (fun _ => True) (W.alloc (skL n)) (some ⟨W.heap.size, 0, none⟩) 3 skiL :=
  (Sl.new (E := entE) (S := fun _ => True) W [[.string nK, .string nAnn, .slice (some ⟨n, 0, none⟩) 5 5, .slice none 0 0, .slice none 0 0], [.string nS, .string nAnn, .slice (some ⟨n + 1 + 1, 0, none⟩) 13 13, .slice none 0 0, .slice none 0 0],
    [.string nI, .string nBob, .slice (some ⟨n + 1 + 1 + 1 + 1 + 1, 0, none⟩) 3 3, .slice (some ⟨n + 1 + 1 + 1 + 1 + 1 + 1, 0, none⟩) 2 2, .slice (some ⟨n + 1 + 1 + 1 + 1, 0, none⟩) 4 4]] skiL 37 rfl (by decide) (fun i h1 h2 => by
    match i, h1 with
    | 0, _ => exact ⟨[_], _, rfl, ⟨rfl, (by decide : 1 ≤ big)⟩, [_], _, rfl, ⟨rfl, (by decide : 3 ≤ big)⟩, [_], _, rfl, ⟨_, _, rfl, h.k⟩, [_], [_], rfl, ⟨none, 0, rfl, Sl.empty⟩, ⟨none, 0, rfl, Sl.empty⟩⟩
    | 1, _ => exact ⟨[_], _, rfl, ⟨rfl, (by decide : 1 ≤ big)⟩, [_], _, rfl, ⟨rfl, (by decide : 3 ≤ big)⟩, [_], _, rfl, ⟨_, _, rfl, h.c⟩, [_], [_], rfl, ⟨none, 0, rfl, Sl.empty⟩, ⟨none, 0, rfl, Sl.empty⟩⟩
    | 2, _ => exact ⟨[_], _, rfl, ⟨rfl, (by decide : 1 ≤ big)⟩, [_], _, rfl, ⟨rfl, (by decide : 3 ≤ big)⟩, [_], _, rfl, ⟨_, _, rfl, h.t⟩, [_], [_], rfl, ⟨_, _, rfl, h.u⟩, ⟨_, _, rfl, h.p⟩⟩)).any
def SkiRet (w : World) (e : Ending) (w' : World) : Prop := ∃ sa sc la lc, e = .returned (.tuple #[.slice sa 1 sc, .slice la 3 lc]) ∧ Sign (fun _ => True) w' sa sc aw4S ∧ LibL (fun _ => True) w' la lc skiL ∧ Below w.heap.size w w'
set_option maxHeartbeats 4000000 in
theorem ski_any (w : World) : Calls Tryz.prog 64 #[] w (SkiRet w) := by
  obtain ⟨hA, hB, hz⟩ := sk_at w
  have hA1 := hA.below (below1 (skW w) skS)
  have s1 := (sk_sign (skW w)).below (below1 _ (skL w.heap.size))
  have l1 := sk_lib hA1
  have l2 := (sk_lib hA).below (below1 _ skS)
  have s2 := sk_sign ((skW w).alloc (skL w.heap.size))
  have e1 : (skW w).heap.size = w.heap.size + 1 + 1 + 1 + 1 + 1 + 1 + 1 + 1 := hz
  have e2 : ((skW w).alloc skS).heap.size = w.heap.size + 1 + 1 + 1 + 1 + 1 + 1 + 1 + 1 + 1 := by rw [World.size_alloc, e1]
  have e3 : ((skW w).alloc (skL w.heap.size)).heap.size = w.heap.size + 1 + 1 + 1 + 1 + 1 + 1 + 1 + 1 + 1 := by rw [World.size_alloc, e1]
  rw [e1] at s1 l2
  rw [e2] at l1
  rw [e3] at s2
  have hb1 := Below.drew (bcall hB (below2 (skW w) skS (skL w.heap.size)))
  have hb2 := Below.drew (bcall hB (below2 (skW w) (skL w.heap.size) skS))
  have r1 := Lib.hid (And.intro (s1.drew (Drew.mk _ 1)) (And.intro (l1.drew (Drew.mk _ 1)) hb1))
  have r2 := Lib.hid (And.intro (s2.drew (Drew.mk _ 1)) (And.intro (l2.drew (Drew.mk _ 1)) hb2))
  clear hA hB hz hA1 s1 l1 l2 s2 e1 e2 e3 hb1 hb2
  go_enter Tryz.func64, Tryz.ntmps64
  go_wp2_with fail
  go_region
  all_goals go_wp2_with fail
  all_goals go_ret2
  · exact ⟨_, _, _, _, rfl, r1.out.1, r1.out.2.1, r1.out.2.2⟩
  · exact ⟨_, _, _, _, rfl, r2.out.1, r2.out.2.1, r2.out.2.2⟩
end Go.Proofs.YtpmnnoopoblpgaaGreat

/- Walks: failing. -/
namespace Go.Proofs.YtpmnnoopoblpgaaGreat
open Go Go.RowKit Go.Maps

/-- what fails among the first k, or is missing -/
noncomputable def faiTo (s : Sg) (l : List Ent) (k : Nat) (u : ByteArray) : Bool := misB l u || (List.range k).any (fun i => !holdX s l i && decide (eNm (l.getD i default) = u))
theorem faiTo_zero (s : Sg) (l : List Ent) : faiTo s l 0 = misB l := by funext u; unfold faiTo; simp
theorem faiTo_ok {s : Sg} {l : List Ent} {k : Nat} (h : holdX s l k = true) : faiTo s l (k + 1) = faiTo s l k := by
  funext u
  unfold faiTo
  rw [List.range_succ, List.any_append]
  simp [h]
theorem faiTo_bad {s : Sg} {l : List Ent} {k : Nat} (hk : k < l.length) (h : holdX s l k = false) : (fun z => if z = eNm l[k] then true else faiTo s l k z) = faiTo s l (k + 1) := by
  funext u
  unfold faiTo
  rw [List.range_succ, List.any_append]
  by_cases e : u = eNm l[k]
  · subst e; simp [h, List.getElem?_eq_getElem hk]
  · have : decide (eNm l[k] = u) = false := decide_eq_false (fun h => e h.symm)
    simp [h, e, List.getElem?_eq_getElem hk, this]
noncomputable def faiB (s : Sg) (l : List Ent) (u : ByteArray) : Bool := misB l u || chB l (fun i => !holdX s l i) u
theorem faiTo_all (s : Sg) (l : List Ent) : faiTo s l l.length = faiB s l := rfl
def faRel (s : Sg) (l : List Ent) (w : World) (ob M0 : Nat) (i : Value) (wr : World) : Prop := ∃ k M m : Nat, i = .int .i64 k ∧ k ≤ l.length ∧ M ≤ M0 + k ∧ m ≤ M ∧ SSet wr ob M m (faiTo s l k) ∧ Below w.heap.size w wr
set_option maxHeartbeats 4000000 in
theorem failing_any {B xb : Nat} {w : World} {s : Sg} {l : List Ent} (h : DLib B w xb s l) : Calls Tryz.prog 93 #[.pointer (some ⟨xb, 0, none⟩)] w fun e w' => ∃ ob M m, e = .returned (.map (some ob)) ∧ w.heap.size ≤ ob ∧ M ≤ 1000 ∧ m ≤ M ∧ SSet w' ob M m (faiB s l) ∧ Below w.heap.size w w' := by
  have vm := missing_any h
  have hl60 := (okLib_parts h.2.2.1).2.1
  have vmH := Lib.hid vm
  have hH := Lib.hid h
  clear vm h
  go_enter Tryz.func93, Tryz.ntmps93
  go_wp2_with fail
  refine vmH.out.mono ?_
  rintro e w1 ⟨ob, M0, m0, rfl, hob, hM0, hm0, hS0, hb1⟩
  obtain ⟨sa, sc, la, lc, bm, hO⟩ := (hH.out.call hb1).op
  have ml := hO.hL.le
  have q1 := hO.q1
  have hOH := Lib.hid hO
  have hst := Lib.hid (show faRel s l w ob M0 (.int .i64 0) w1 from ⟨0, M0, m0, rfl, Nat.zero_le _, by omega, hm0, by rw [faiTo_zero]; exact hS0, hb1⟩)
  have hbH := Lib.hid hb1
  clear hO hS0 hb1 hm0
  go_wp2_with fail
  go_loopw [13] (fun i wr => faRel s l w ob M0 i wr) (fun i _ => l.length - (intOf i).toNat)
  case atStart => exact hst.out
  case round =>
    obtain ⟨k, M, m, rfl, hk, hM, hm, hS, hB⟩ := hrel
    by_cases hlt : k < l.length
    · have hD := hH.out.call hB
      have hBl := hH.out.1
      obtain ⟨b, off, a1, c1, a2, c2, a3, c3, rfl, hbB, p0, p1, p2, p3, p4, z1, z2, hI, hU, hP⟩ := hOH.out.hL.ent k hlt
      have hB1r : Below w.heap.size w wr := hB
      have hbB' : b < w.heap.size := by omega
      have s0 := (hB.cell (p := ⟨b, off + k * 5, none⟩) hbB').trans ((hbH.out.cell (p := ⟨b, off + k * 5, none⟩) hbB').symm.trans p0)
      have s1 := (hB.cell (p := ⟨b, off + k * 5 + 1, none⟩) hbB').trans ((hbH.out.cell (p := ⟨b, off + k * 5 + 1, none⟩) hbB').symm.trans p1)
      have s2 := (hB.cell (p := ⟨b, off + k * 5 + 2, none⟩) hbB').trans ((hbH.out.cell (p := ⟨b, off + k * 5 + 2, none⟩) hbB').symm.trans p2)
      have s3 := (hB.cell (p := ⟨b, off + k * 5 + 3, none⟩) hbB').trans ((hbH.out.cell (p := ⟨b, off + k * 5 + 3, none⟩) hbB').symm.trans p3)
      have s4 := (hB.cell (p := ⟨b, off + k * 5 + 4, none⟩) hbB').trans ((hbH.out.cell (p := ⟨b, off + k * 5 + 4, none⟩) hbB').symm.trans p4)
      obtain ⟨W, hW⟩ : ∃ W, wr.alloc (.cells #[.string (eNm l[k]), .string (eBy l[k]), .slice a1 (eSays l[k]).length c1, .slice a2 (eUses l[k]).length c2, .slice a3 (ePf l[k]).length c3] 37) = W := ⟨_, rfl⟩
      have hBW : Below wr.heap.size wr W := by rw [← hW]; exact below1 wr _
      have q0 : W.cell? ⟨wr.heap.size, 0, none⟩ = some (.string (eNm l[k])) := by rw [← hW]; clear hW; go_simp
      have vh := holds_any (hD.call hBW) k hlt
      have hbad := faiTo_bad (s := s) hlt
      have hok := faiTo_ok (s := s) (l := l) (k := k)
      have hBn := bcall hB hBW
      have hSn := hS.below hBW hS.lt
      have vhH := Lib.hid vh
      have hbadH := Lib.hid hbad
      have hokH := Lib.hid hok
      have hBnH := Lib.hid hBn
      have hSnH := Lib.hid hSn
      have hWH := Lib.hid hW
      clear vh hbad hok hBn hSn hS hB hB1r hD hI hU hP p0 p1 p2 p3 p4 hBW hW
      generalize eNm l[k] = nm at *
      generalize eBy l[k] = bn at *
      generalize (eSays l[k]).length = n1 at *
      generalize (eUses l[k]).length = n2 at *
      generalize (ePf l[k]).length = n3 at *
      cases hx : holdX s l k with
      | true =>
        rw [hx] at vhH
        have hfin := Lib.hid (fun w2 (hb : Below W.heap.size W w2) => show faRel s l w ob M0 (.int .i64 ((k : Int) + 1)) w2 from ⟨k + 1, M, m, by simp, hlt, by omega, hm, by rw [hokH.out hx]; exact hSnH.out.below hb hSnH.out.lt, bcall hBnH.out hb⟩)
        clear hx hM hm
        go_wp2_with fail
        rw [hWH.out]
        refine vhH.out.mono ?_
        rintro e w2 ⟨rfl, hb⟩
        have hf := Lib.hid (hfin.out w2 hb)
        clear hb
        go_wp2_with fail
        go_roundw
        case rel => exact hf.out
        case measure => simp [intOf]; omega
      | false =>
        rw [hx] at vhH
        have hfin : ∀ w2, Below W.heap.size W w2 → ∃ w3, (Instr.mapUpdate 88 (.map (some ob)) (.string nm) (.bool true)).run Tryz.prog w2 = .ok () w3 ∧ faRel s l w ob M0 (.int .i64 ((k : Int) + 1)) w3 := fun w2 hb => by
          obtain ⟨w3, h1, h2, h3⟩ := (hSnH.out.below hb hSnH.out.lt).store (tm := 88) Tryz.underlying88 Tryz.underlying9 Tryz.underlying4 (by unfold maxLen; omega) nm (big_max z1)
          rw [hbadH.out hx] at h2
          refine ⟨w3, h1, k + 1, M + 1, _, by simp, hlt, by omega, ?_, h2, (bcall hBnH.out hb).grown h3 (bcall hBnH.out hb).size (fun j e => by injection e with e; omega)⟩
          split <;> omega
        have hfinH := Lib.hid hfin
        clear hx hM hm hfin
        go_wp2_with fail
        rw [hWH.out]
        refine vhH.out.mono ?_
        rintro e w2 ⟨rfl, hb⟩
        obtain ⟨w3, hup, hf⟩ := hfinH.out w2 hb
        have r0 := cell_later hb q0
        have hfH := Lib.hid hf
        clear hb hf q0
        go_wp2_with fail
        go_roundw
        case rel => exact hfH.out
        case measure => simp [intOf]; omega
    · have hkk : ((k : Int) < (l.length : Int)) = False := eq_false (by omega)
      have hkl : k = l.length := by omega
      rw [hkl, faiTo_all] at hS
      have hfin := Lib.hid (show ∃ ob' M' m', (Ending.returned (.map (some ob)) : Ending) = .returned (.map (some ob')) ∧ w.heap.size ≤ ob' ∧ M' ≤ 1000 ∧ m' ≤ M' ∧ SSet wr ob' M' m' (faiB s l) ∧ Below w.heap.size w wr from ⟨ob, M, m, rfl, hob, by omega, hm, hS, hB⟩)
      clear hS hB hlt hk hkl hM hm
      go_wp2_with fail
      go_ret
      exact hfin.out
end Go.Proofs.YtpmnnoopoblpgaaGreat

/- Walks: circle where there is none; whole, Sound there. -/
namespace Go.Proofs.YtpmnnoopoblpgaaGreat
open Go Go.RowKit Go.Maps Go.Shelf

theorem bytesLess_ltB (x y : ByteArray) : Op.bytesLess x.toList y.toList = ltB x y := by
  unfold ltB
  rw [ByteArray.toList_eq, ByteArray.toList_eq, bytesLess_eq]
theorem circ1_fn {B b : Nat} {w : World} {first : ByteArray} (hb : b < B) (hc : w.cell? ⟨b, 0, none⟩ = some (.string first)) : MayFn 158 #[.pointer (some ⟨b, 0, none⟩)] (geB first) B w := by
  refine ⟨enters_of Tryz.func158 (by kernel_rfl) rfl, fun x hx W hB => ?_⟩
  have q := (hB.cell (p := ⟨b, 0, none⟩) hb).trans hc
  have hg : geB first x = !Op.bytesLess x.toList first.toList := by rw [bytesLess_ltB]; rfl
  have hgH := Lib.hid hg
  clear hc hB hg
  go_enter Tryz.func158, Tryz.ntmps158
  go_wp2_with fail
  go_ret
  exact ⟨ret_bool hgH.out.symm, .refl _ _⟩
/-- the sorted keys of the map that tells where names stand -/
theorem keysI_sorted {B xb : Nat} {w : World} {s : Sg} {l : List Ent} {sa : Option Addr} {sc : Nat} {la : Option Addr} {lc bm : Nat} (h : DOp B w xb s l sa sc la lc bm) :
    Calls Tryz.prog 138 #[.func (.func 187) #[] #[.pointer (some ⟨w.heap.size, 0, none⟩)]] (w.alloc (.cells #[.map (some bm)] 68)) (SortedOut w (fun x => (atN l x).isSome)) := by
  obtain ⟨n, hn, D, ho, ht, hs, hf⟩ := h.hM
  have c2 := sortedOf ho (by rw [hs]; omega) (keysI_seq ho) (enters_of Tryz.func187 (by kernel_rfl) rfl)
  have e : (fun x : ByteArray => has D (.string (bs x))) = fun x => (atN l x).isSome := funext fun x => by
    have := (hf x).1
    unfold atV at this
    rw [Option.isSome_map] at this
    exact this
  rw [e] at c2
  exact c2
theorem keepS2 {K : Nat} {w w1 w2 : World} {p1 p2 : Addr} {v1 v2 : Value} (h : Below w.heap.size w w1 ∧ w1.cell? p1 = some v1 ∧ w1.cell? p2 = some v2) (hb : Below K w1 w2) (hK : K = w1.heap.size) :
    Below w.heap.size w w2 ∧ w2.cell? p1 = some v1 ∧ w2.cell? p2 = some v2 := by
  subst hK
  exact ⟨bcall h.1 hb, cell_later hb h.2.1, cell_later hb h.2.2⟩
def noLoop (l : List Ent) : Prop := ∀ x, (atN l x).isSome = true → loopB l x = false
def ciRel (w1 : World) (L : List ByteArray) (i : Value) (wr : World) : Prop := ∃ k : Nat, i = .int .i64 k ∧ k ≤ L.length ∧ Below w1.heap.size w1 wr
set_option maxHeartbeats 4000000 in
theorem circleNo_any {B xb : Nat} {w : World} {s : Sg} {l : List Ent} (h : DLib B w xb s l) (hno : noLoop l) : Calls Tryz.prog 114 #[.pointer (some ⟨xb, 0, none⟩)] w fun e w' => e = .returned (.slice none 0 0) ∧ Below w.heap.size w w' := by
  obtain ⟨W, hW⟩ : ∃ W, w.alloc (.cells #[.pointer (some ⟨xb, 0, none⟩)] 61) = W := ⟨_, rfl⟩
  have hBW : Below w.heap.size w W := by rw [← hW]; exact below1 w _
  have q0 : W.cell? ⟨w.heap.size, 0, none⟩ = some (.pointer (some ⟨xb, 0, none⟩)) := by rw [← hW]; clear hW; go_simp
  have hDW := h.call hBW
  obtain ⟨sa, sc, la, lc, bm, hO⟩ := hDW.op
  have q2 := hO.q2
  have c1 := keysI_call (some bm) W
  have c2 := keysI_sorted hO
  have c1H := Lib.hid c1
  have c2H := Lib.hid c2
  have hDH := Lib.hid hDW
  have hnoH := Lib.hid hno
  have hBWH := Lib.hid hBW
  clear c1 c2 hO hDW h hno
  go_enter Tryz.func114, Tryz.ntmps114
  go_wp2_with fail
  try rw [hW]
  refine c1H.out.mono ?_
  rintro e w1 ⟨rfl, rfl⟩
  go_wp2_with fail
  refine c2H.out.mono ?_
  rintro e w2 ⟨v, L, rfl, hL, -, hmem, hb2⟩
  obtain ⟨aL, cL, rfl, hLs⟩ := OwnS.strs hL
  have mL := hLs.le
  have hLH := Lib.hid hLs
  have hmH := Lib.hid hmem
  have hb2H := Lib.hid hb2
  have p0 := cell_later hb2 q0
  clear hL hmem hb2 hLs q0 q2 hBW
  clear hW
  go_wp2_with fail
  go_loopw [18] (fun i wr => ciRel w2 L i wr) (fun i _ => L.length - (intOf i).toNat)
  case atStart => exact ⟨0, rfl, Nat.zero_le _, .refl _ _⟩
  case round =>
    obtain ⟨k, rfl, hk, hB⟩ := hrel
    by_cases hlt : k < L.length
    · obtain ⟨bL, oL, rfl, -, qL, hz⟩ := (hLH.out.below hB).str k hlt
      have hlo := hnoH.out L[k] ((hmH.out _).1 (List.getElem_mem hlt))
      obtain ⟨first, hfst⟩ : ∃ first, L[k] = first := ⟨_, rfl⟩
      rw [hfst] at qL hz hlo
      obtain ⟨W3, hW3⟩ : ∃ W3, wr.alloc (.cells #[.string first] 9) = W3 := ⟨_, rfl⟩
      have hB3 : Below wr.heap.size wr W3 := by rw [← hW3]; exact below1 wr _
      have r4 : W3.cell? ⟨wr.heap.size, 0, none⟩ = some (.string first) := by rw [← hW3]; clear hW3; go_simp
      have r1 := cell_later hB3 (cell_later hB p0)
      have hBall := bcall hB hB3
      have hwr : wr.heap.size < W3.heap.size := by rw [← hW3]; simp
      have hDr := hDH.out.call (hb2H.out.trans (hBall.mono hb2H.out.size))
      have hbd : Below W3.heap.size W3 W3.drew := Below.drew (.refl W3.heap.size _)
      have vr : ∀ Wc, Below W3.heap.size W3 Wc → Calls Tryz.prog 152 #[.pointer (some ⟨xb, 0, none⟩), .string first, .func (.func 158) #[] #[.pointer (some ⟨wr.heap.size, 0, none⟩)]] Wc fun e w' => ∃ ob, e = .returned (.map (some ob)) ∧ (∀ W', Below w'.heap.size w' W' → (Instr.lookup 88 (.map (some ob)) (.string first) false).run Tryz.prog W' = .ok (.bool false) W') ∧ Below Wc.heap.size Wc w' := fun Wc hc => by
        refine (reached_any (hDr.call hc) (circ1_fn (by have := hc.size; omega) (cell_later hc r4)) first hz).mono ?_
        rintro e w' ⟨ob, m, rfl, h1, h2, h3, h4⟩
        refine ⟨ob, rfl, fun W' hb' => ?_, h4⟩
        have := (h3.below hb' h3.lt).look (tm := 88) Tryz.underlying88 Tryz.underlying9 Tryz.underlying4 (zBool W') first (big_max hz)
        rw [show rchB l (geB first) first first = false from hlo] at this
        exact this
      have hk0 : Below W3.heap.size W3 W3.drew ∧ W3.drew.cell? ⟨w.heap.size, 0, none⟩ = some (.pointer (some ⟨xb, 0, none⟩)) ∧ W3.drew.cell? ⟨wr.heap.size, 0, none⟩ = some (.string first) := ⟨hbd, cell_later hbd r1, cell_later hbd r4⟩
      have vrH := Lib.hid vr
      have hBaH := Lib.hid hBall
      have hWH := Lib.hid hW3
      clear vr hBall hDr hbd hB hB3 hlo hfst hwr r1 r4 hW3
      go_wp2_with fail
      rw [hWH.out]
      go_region_held3 (fun w' => Below W3.heap.size W3 w' ∧ w'.cell? ⟨w.heap.size, 0, none⟩ = some (.pointer (some ⟨xb, 0, none⟩)) ∧ w'.cell? ⟨wr.heap.size, 0, none⟩ = some (.string first))
        ((first | exact hk0 | exact keepS2 ‹_› hb4 rfl))
        ((go_at_call 152; (with_reducible refine (vrH.out _ ?_).mono ?_); exact (And.left ‹_›); rintro e w4 ⟨ob, rfl, hlkF, hb4⟩; have hlk := hlkF w4 (.refl _ _)))
      have hB4 := And.left (‹Below W3.heap.size W3 w4 ∧ _›)
      have hfin := Lib.hid (show ciRel w2 L (.int .i64 ((k : Int) + 1)) w4 from ⟨k + 1, by simp, hlt, bcall hBaH.out hB4⟩)
      clear hB4
      go_wp2_with fail
      go_roundw
      case rel => exact hfin.out
      case measure => simp [intOf]; omega
    · have hkk : ((k : Int) < (L.length : Int)) = False := eq_false (by omega)
      have hfin := Lib.hid (hBWH.out.trans (hb2H.out.trans (hB.mono hb2H.out.size) |>.mono hBWH.out.size))
      clear hB hlt hk
      go_wp2_with fail
      go_ret
      exact ⟨rfl, hfin.out⟩
end Go.Proofs.YtpmnnoopoblpgaaGreat

/- Walks: whole, Sound. -/
namespace Go.Proofs.YtpmnnoopoblpgaaGreat
open Go Go.RowKit Go.Maps Go.Shelf

open Classical in
noncomputable def noneB (f : ByteArray → Bool) : Bool := decide (∀ x, f x = false)
theorem SMap.none {w : World} {b M n : Nat} {f : ByteArray → Bool} (h : SSet w b M n f) : (((n : Nat) : Int) == 0) = noneB f := by
  obtain ⟨D, ho, ht, hs, hf⟩ := h
  obtain ⟨hnd, hmem⟩ := strKeys_set ho (string_keyed Tryz.underlying9) Tryz.underlying9
  obtain ⟨es, rfl, _⟩ := ht
  rw [Bool.eq_iff_iff, beq_iff_eq]
  unfold noneB
  simp only [decide_eq_true_eq]
  have hlen : (strKeys (.map es : DataW Unit)).length = n := by rw [← hs]; simp [strKeys, Maps.size]
  constructor
  · intro e x
    have : strKeys (.map es : DataW Unit) = [] := List.length_eq_zero_iff.1 (by omega)
    cases hx : f x with
    | false => rfl
    | true =>
      rw [← (hf x).1] at hx
      have := (hmem _).2 hx
      simp_all
  · intro hall
    cases hk : strKeys (.map es : DataW Unit) with
    | nil => rw [hk] at hlen; simp at hlen; omega
    | cons y r =>
      have h1 := (hmem y).1 (by rw [hk]; simp)
      have h2 := (hf (nmOf y)).1
      have h3 : (nmOf y).data.toList = y := bs_nmOf y
      rw [h3, hall] at h2
      rw [h1] at h2
      cases h2
/-- circle tells whether there is a circle -/
def CircNil (xb : Nat) (b : Bool) (w : World) : Prop := ∀ W, Below w.heap.size w W → Calls Tryz.prog 114 #[.pointer (some ⟨xb, 0, none⟩)] W fun e w' => ∃ a n c, e = .returned (.slice a n c) ∧ a.isNone = b ∧ Below W.heap.size W w'
theorem circNil_no {B xb : Nat} {w : World} {s : Sg} {l : List Ent} (h : DLib B w xb s l) (hno : noLoop l) : CircNil xb true w := fun _ hb =>
  (circleNo_any (h.call hb) hno).mono fun _ _ ⟨h1, h2⟩ => ⟨none, 0, 0, h1, rfl, h2⟩
set_option maxHeartbeats 1000000 in
theorem whole_any {B xb : Nat} {w : World} {s : Sg} {l : List Ent} {b : Bool} (h : DLib B w xb s l) (hc : CircNil xb b w) : Calls Tryz.prog 92 #[.pointer (some ⟨xb, 0, none⟩)] w fun e w' => e = .returned (.bool (noneB (misB l) && b)) ∧ Below w.heap.size w w' := by
  have vm := Lib.hid (missing_any h)
  have hcH := Lib.hid hc
  clear h hc
  go_enter Tryz.func92, Tryz.ntmps92
  go_wp2_with fail
  refine vm.out.mono ?_
  rintro e w1 ⟨ob, M, m, rfl, -, -, -, h4, h5⟩
  have hlen := h4.len (tm := 88) Tryz.underlying88 3
  have hn := SMap.none h4
  have vc := Lib.hid (hcH.out w1 h5)
  have hbH := Lib.hid h5
  clear h4 h5
  cases hz : noneB (misB l) with
  | false =>
    rw [hz] at hn
    have hzH := Lib.hid hz
    clear hz
    go_wp2_with fail
    go_ret
    exact ⟨ret_bool (by rw [hzH.out]; rfl), hbH.out⟩
  | true =>
    rw [hz] at hn
    have hzH := Lib.hid hz
    clear hz
    go_wp2_with fail
    refine vc.out.mono ?_
    rintro e w2 ⟨a, n, c, rfl, ha, hb⟩
    have hnl := Lib.run_eql_slice_nil (P := Tryz.prog) w2 29 9 a n c 0 0 Tryz.underlying29
    rw [ha] at hnl
    have hb2H := Lib.hid (bcall hbH.out hb)
    clear hb ha
    go_wp2_with fail
    go_ret
    exact ⟨ret_bool (by rw [hzH.out, Bool.true_and]), hb2H.out⟩
noncomputable def soundE (s : Sg) (l : List Ent) (b : Bool) : Bool × Int := if okLib s l = true then ((noneB (misB l) && b) && noneB (faiB s l), 0) else (false, 1)
set_option maxHeartbeats 1000000 in
theorem Sound_any {S1 S2 : Nat → Prop} {b : Bool} (sa la : Option Addr) (sc lc : Nat) (s : Sg) (l : List Ent) (w : World) (h1 : Sign S1 w sa sc s) (h2 : LibL S2 w la lc l) (hl : l.length ≤ 1000)
    (hc : ∀ B W xb, Below w.heap.size w W → DLib B W xb s l → CircNil xb b W) :
    Calls Tryz.prog 32 #[.slice sa s.length sc, .slice la l.length lc] w fun e w' => e = .returned (.tuple #[.bool (soundE s l b).1, .int .i64 (soundE s l b).2]) ∧ Below w.heap.size w w' := by
  have v := open_any sa la sc lc s l w h1 h2 hl
  have m := h2.le
  have m1 := h1.le
  obtain ⟨r, hr⟩ : ∃ r, soundE s l b = r := ⟨_, rfl⟩
  rw [hr]
  have vH := Lib.hid v
  have hrH := Lib.hid hr
  have hcH := Lib.hid hc
  clear v h1 h2 hr hc
  go_enter Tryz.func32, Tryz.ntmps32
  go_wp2_with fail
  refine vH.out.mono ?_
  rintro e w1 ⟨hb, h⟩
  have hbH := Lib.hid hb
  rcases h with ⟨hok, rfl⟩ | ⟨hok, xb, hxb, rfl, hD⟩
  · have hf : soundE s l b = (false, 1) := by unfold soundE; rw [hok]; rfl
    have hfH := Lib.hid (hrH.out.symm.trans hf)
    clear hb hok vH hf
    go_wp2_with fail
    go_ret2
    exact ⟨by rw [hfH.out]; rfl, hbH.out⟩
  · have hf : soundE s l b = ((noneB (misB l) && b) && noneB (faiB s l), 0) := by unfold soundE; rw [hok]; rfl
    have vw := whole_any hD (hcH.out _ w1 xb hb hD)
    have vf := fun W (hw : Below w1.heap.size w1 W) => failing_any (hD.call hw)
    have hfH := Lib.hid (hrH.out.symm.trans hf)
    have vwH := Lib.hid vw
    have vfH := Lib.hid vf
    clear hb hok vH hf hxb hD vw vf
    generalize (noneB (misB l) && b) = bw at *
    cases bw with
    | false =>
      go_wp2_with fail
      refine vwH.out.mono ?_
      rintro e w2 ⟨rfl, hb2⟩
      have hb2H := Lib.hid (bcall hbH.out hb2)
      clear hb2
      go_wp2_with fail
      go_ret2
      exact ⟨by rw [hfH.out]; rfl, hb2H.out⟩
    | true =>
      go_wp2_with fail
      refine vwH.out.mono ?_
      rintro e w2 ⟨rfl, hb2⟩
      have vf2 := Lib.hid (vfH.out w2 hb2)
      have hb2H := Lib.hid (bcall hbH.out hb2)
      clear hb2
      go_wp2_with fail
      refine vf2.out.mono ?_
      rintro e w3 ⟨ob, M, m, rfl, -, -, -, h4, h5⟩
      have hlen := h4.len (tm := 88) Tryz.underlying88 3
      have hn := SMap.none h4
      have hb3H := Lib.hid (bcall hb2H.out h5)
      clear h4 h5
      go_wp2_with fail
      go_ret2
      exact ⟨by rw [hfH.out]; rfl, hb3H.out⟩
end Go.Proofs.YtpmnnoopoblpgaaGreat

/- Walks: SameTexts; awake of the laws on libraries. -/
namespace Go.Proofs.YtpmnnoopoblpgaaGreat
open Go Go.RowKit Go.Maps

theorem stake_ne {l1 l2 : List ByteArray} {k : Nat} (h1 : k < l1.length) (h2 : k < l2.length) (h : l1[k] ≠ l2[k]) : l1 ≠ l2 := fun e => by subst e; exact h rfl
theorem stake_succ {l1 l2 : List ByteArray} {k : Nat} (h1 : k < l1.length) (h2 : k < l2.length) (ht : l1.take k = l2.take k) (h : l1[k] = l2[k]) : l1.take (k + 1) = l2.take (k + 1) := by
  rw [List.take_succ_eq_append_getElem h1, List.take_succ_eq_append_getElem h2, ht, h]
set_option maxHeartbeats 1000000 in
theorem SameTexts_any {S1 S2 : Nat → Prop} (a1 a2 : Option Addr) (c1 c2 : Nat) (l1 l2 : List ByteArray) (w : World) (h1 : Sl strE S1 w a1 c1 l1) (h2 : Sl strE S2 w a2 c2 l2) :
    Calls Tryz.prog 17 #[.slice a1 l1.length c1, .slice a2 l2.length c2] w fun e w' => e = .returned (.bool (decide (l1 = l2))) ∧ Drew w w' := by
  have m1 := h1.le
  have m2 := h2.le
  by_cases hl : l1.length = l2.length
  · have hlH := Lib.hid hl
    have h1H := Lib.hid h1
    have h2H := Lib.hid h2
    clear h1 h2
    go_enter Tryz.func17, Tryz.ntmps17
    go_wp2
    clear hl
    go_loopw [5] (fun i wr => ∃ k : Nat, k ≤ l1.length ∧ i = .int .i64 k ∧ l1.take k = l2.take k ∧ Drew w wr) (fun i _ => l1.length - (intOf i).toNat)
    case atStart => exact ⟨0, by omega, rfl, rfl, .refl _⟩
    case round =>
      obtain ⟨k, hk, rfl, ht, n, rfl⟩ := hrel
      have htH := Lib.hid ht
      clear ht
      have hle := hlH.out
      by_cases hlt : k < l1.length
      · have hlt2 : k < l2.length := by omega
        obtain ⟨b1, o1, rfl, -, q1, -⟩ := h1H.out.str k hlt
        obtain ⟨b2, o2, rfl, -, q2, -⟩ := h2H.out.str k hlt2
        clear hle
        obtain ⟨x, hx⟩ : ∃ x, l1[k] = x := ⟨_, rfl⟩
        obtain ⟨y, hy⟩ : ∃ y, l2[k] = y := ⟨_, rfl⟩
        rw [hx] at q1
        rw [hy] at q2
        by_cases hxy : x = y
        · have hq := str_eq hxy
          have hfin := Lib.hid (stake_succ hlt hlt2 htH.out (by rw [hx, hy]; exact hxy))
          clear hx hy hxy
          go_wp2_with fail
          go_quiet (fail)
          all_goals go_wp2_with fail
          all_goals exact ⟨⟨k + 1, by omega, by go_num, hfin.out, .mk _ _⟩, by simp [intOf]; omega⟩
        · have hq := str_neq hxy
          have hfin := Lib.hid (stake_ne hlt hlt2 (by rw [hx, hy]; exact hxy))
          clear hx hy hxy
          go_wp2_with fail
          go_quiet (fail)
          all_goals go_wp2_with fail
          all_goals go_ret
          all_goals exact ⟨ret_bool (decide_eq_false hfin.out).symm, .mk2 _ _ _⟩
      · have hk2 : ¬ k < l2.length := by omega
        have hkl : ((k : Int) < (l1.length : Int)) = False := eq_false (by omega)
        have hfin := Lib.hid (show l1 = l2 by
          have := htH.out
          rw [List.take_of_length_le (by omega), List.take_of_length_le (by omega)] at this
          exact this)
        clear hle hlt hk
        go_wp2_with fail
        go_ret
        exact ⟨ret_bool (decide_eq_true hfin.out).symm, .mk _ _⟩
  · clear h1 h2
    have hb := int_ne hl
    go_enter Tryz.func17, Tryz.ntmps17
    go_wp2_with fail
    go_ret
    exact ⟨ret_bool (decide_eq_false (fun e => hl (by rw [e]))).symm, .refl _⟩
theorem ski_misB (x : ByteArray) : misB skiL x = false := by
  cases h : misB skiL x with
  | false => rfl
  | true =>
    unfold misB at h
    rw [Bool.and_eq_true, List.any_eq_true] at h
    obtain ⟨⟨y, hy, hu⟩, hn⟩ := h
    have := ski_inside y hy x (memB_iff.1 hu)
    cases ha : atN skiL x <;> rw [ha] at hn this <;> simp_all
theorem ski_sound : soundE aw4S skiL true = (true, 0) := by
  have h1 : noneB (misB skiL) = true := by unfold noneB; simp only [decide_eq_true_eq]; exact ski_misB
  have h2 : noneB (faiB aw4S skiL) = true := by
    unfold noneB
    simp only [decide_eq_true_eq]
    intro x
    unfold faiB
    rw [ski_misB, Bool.false_or]
    cases h : chB skiL (fun i => !holdX aw4S skiL i) x with
    | false => rfl
    | true =>
      obtain ⟨i, hi, h1, -⟩ := chB_iff.1 h
      rw [ski_hold i hi] at h1
      cases h1
  unfold soundE
  rw [ski_ok, h1, h2]
  rfl
theorem NamesRet.is {f : ByteArray → Bool} {er : Int} {w : World} {e : Ending} {w' : World} {M : List ByteArray} (h : NamesRet f er w e w') (hM : AscN M) (hf : ∀ x, f x = true ↔ x ∈ M) :
    ∃ a c, e = .returned (.tuple #[.slice a M.length c, .int .i64 er]) ∧ Sl strE (fun b => w.heap.size ≤ b) w' a c M ∧ Below w.heap.size w w' := by
  obtain ⟨v, L, rfl, h1, h2, h3, h4⟩ := h
  have e : L = M := h2.uniq hM (fun x => (h3 x).trans (hf x))
  subst e
  obtain ⟨a, c, rfl, hs⟩ := OwnS.strs h1
  exact ⟨a, c, rfl, hs, h4⟩
set_option maxRecDepth 100000 in
set_option maxHeartbeats 4000000 in
theorem awake6_any (w : World) : Calls Tryz.prog 11 #[] w fun e w' => e = .returned (.bool true) ∧ Below w.heap.size w w' := by
  have v0 := Lib.hid (ski_any w)
  go_enter Tryz.func11, Tryz.ntmps11
  go_wp2_with fail
  refine v0.out.mono ?_
  rintro e w1 ⟨sa, sc, la, lc, rfl, hS, hL, hb1⟩
  have v1 := Sound_any (b := true) sa la sc lc aw4S skiL w1 hS hL (by decide) (fun B W xb _ hD => circNil_no hD (fun x _ => ski_loop x))
  rw [ski_sound] at v1
  have v1H := Lib.hid v1
  have hSH := Lib.hid hS
  have hLH := Lib.hid hL
  have hb1H := Lib.hid hb1
  clear v1 hS hL hb1
  go_wp2_with fail
  refine v1H.out.mono ?_
  rintro e w2 ⟨rfl, hb2⟩
  have v2 := Leans_any sa la sc lc aw4S skiL nI (by decide) w2 (hSH.out.below hb2) (hLH.out.below hb2) (by decide)
  have hbb := bcall hb1H.out hb2
  have e2 : leansE aw4S skiL nI = (fun x => rchB skiL (fun _ => true) nI x && (atN skiL x).isSome, 0) := by
    have : atN skiL nI = some 2 := by decide
    unfold leansE; rw [ski_ok, this]; rfl
  rw [e2] at v2
  have v2H := Lib.hid v2
  have hb2H := Lib.hid hb2
  have hbH := Lib.hid hbb
  clear v2 hb2 hbb e2
  go_wp2_with fail
  refine v2H.out.mono ?_
  rintro e w3 h3
  obtain ⟨a3, c3, rfl, hI3, hb3⟩ := h3.is ski_asc ski_leans
  have hb23 := bcall hb2H.out hb3
  have hbb := bcall hbH.out hb3
  have hT := Ints.new w3 skI 3 (by decide) (by unfold inRange; decide)
  have hb4 := below1 w3 skT
  have hT4 : Ints (fun b => b = w3.heap.size) (w3.alloc skT) (some ⟨w3.heap.size, 0, none⟩) 3 skI := hT
  have v3 := Breaks_any sa la (some ⟨w3.heap.size, 0, none⟩) sc lc 3 aw4S skiL nK skI (by decide) (w3.alloc skT) ((hSH.out.below hb23).below hb4) ((hLH.out.below hb23).below hb4) hT4 (by decide)
  have e3 : breaksE aw4S skiL nK skI = (chB skiL (fun k => holdX aw4S skiL k && !holdX aw4S skiL2 k), 0) := by
    have h1 : atN skiL nK = some 0 := by decide
    have h2 : isCanonT aw4S skI = true := by decide +kernel
    have h4 : setSays skiL 0 skI = skiL2 := rfl
    unfold breaksE
    rw [ski_ok, h2, h1]
    show (chB skiL (fun k => holdX aw4S skiL k && !holdX aw4S (setSays skiL 0 skI) k), (0 : Int)) = _
    rw [h4]
  rw [e3] at v3
  have v3H := Lib.hid v3
  have hI3H := Lib.hid (hI3.below hb4)
  have hbH3 := Lib.hid (bcall hbb hb4)
  clear h3 hb3 hI3 hb23 hbb hT hb4 hT4 v3 e3
  go_wp2_with fail
  refine v3H.out.mono ?_
  rintro e w5 h5
  obtain ⟨a5, c5, rfl, hI5, hb5⟩ := h5.is (List.pairwise_singleton _ _) ski_breaks
  have hI3' := hI3H.out.below hb5
  have hbb := bcall hbH3.out hb5
  have hu1 := (Sl.new (E := strE) (S := fun _ => False) w5 [[.string nK], [.string nS]] [nK, nS] 9 rfl (by decide) (fun i h1 h2 => by
    match i, h1 with
    | 0, _ => exact ⟨rfl, (by decide : 1 ≤ big)⟩
    | 1, _ => exact ⟨rfl, (by decide : 1 ≤ big)⟩))
  have hb6 := below1 w5 skU
  have hu1' : Sl strE (fun b => False ∨ b = w5.heap.size) (w5.alloc skU) (some ⟨w5.heap.size, 0, none⟩) 2 [nK, nS] := hu1
  have v5 := SameTexts_any a3 (some ⟨w5.heap.size, 0, none⟩) c3 2 [nK, nS] [nK, nS] (w5.alloc skU) (hI3'.below hb6) hu1'
  have v5H := Lib.hid v5
  have hI5H := Lib.hid (hI5.below hb6)
  have hbH6 := Lib.hid (bcall hbb hb6)
  clear h5 hb5 hI5 hI3' hbb hu1 hu1' hb6 v5
  go_wp2_with fail
  refine v5H.out.mono ?_
  rintro e w7 ⟨rfl, hd7⟩
  have hI7 := hI5H.out.below (hd7.below _)
  have hbb := bcall hbH6.out (hd7.below _)
  have hu2 := (Sl.new (E := strE) (S := fun _ => False) w7 [[.string nI]] [nI] 9 rfl (by decide) (fun i h1 h2 => by
    match i, h1 with
    | 0, _ => exact ⟨rfl, (by decide : 1 ≤ big)⟩))
  have hb8 := below1 w7 (.cells #[.string nI] 9)
  have hu2' : Sl strE (fun b => False ∨ b = w7.heap.size) (w7.alloc (.cells #[.string nI] 9)) (some ⟨w7.heap.size, 0, none⟩) 1 [nI] := hu2
  have v7 := SameTexts_any a5 (some ⟨w7.heap.size, 0, none⟩) c5 1 [nI] [nI] (w7.alloc (.cells #[.string nI] 9)) (hI7.below hb8) hu2'
  have v7H := Lib.hid v7
  have hbH8 := Lib.hid (bcall hbb hb8)
  clear hd7 hI7 hbb hu2 hu2' hb8 v7
  go_wp2_with fail
  refine v7H.out.mono ?_
  rintro e w9 ⟨rfl, hd9⟩
  have hfin := Lib.hid (bcall hbH8.out (hd9.below _))
  clear hd9
  go_wp2_with fail
  go_ret
  exact ⟨rfl, hfin.out⟩
end Go.Proofs.YtpmnnoopoblpgaaGreat
