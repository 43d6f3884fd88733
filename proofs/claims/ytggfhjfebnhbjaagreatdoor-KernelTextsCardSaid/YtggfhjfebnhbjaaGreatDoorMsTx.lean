/- The card of KernelTexts: for every input KernelTexts returns true and leaves its arguments as they were; the listed variables are tied to the program's text. No condition. -/
import Derived.Test.YtggfhjfebnhbjaaGreatDoorMsPa
import Derived.Test.YtggfhjfebnhbjaaGreatDoorBase
import Derived.Test.YtggfhjfebnhbjaaGreatDoorMsA
import Derived.ProofKit
import Derived.LaidMore
import Derived.OpenShut
import Derived.Stop.Joined
import Derived.Test.YtggfhjfebnhbjaaGreatDoorWalkA
import Derived.Laws.StructEq
import Derived.Test.YtggfhjfebnhbjaaGreatDoorTabLaid
import Derived.Handed
import Derived.Test.YtggfhjfebnhbjaaGreatDoorMsR
import Derived.Test.YtggfhjfebnhbjaaGreatDoorCards
import Derived.Test.YtggfhjfebnhbjaaGreatDoorTie
/- Needed steps, counts and heights of proofs by their trees, in plain words. No program is named. -/
namespace Go.Proofs.YtggfhjfebnhbjaaGreatDoor

def cntT : Tr → Nat
  | .g _ => 1
  | .d a b => cntT a + cntT b + 1
def hgtT : Tr → Nat
  | .g _ => 1
  | .d a b => max (hgtT a) (hgtT b) + 1
theorem cnt_text (t : Tr) : cntT t ≤ t.text.length := by
  induction t with
  | g n => simp [cntT, Tr.text]
  | d a b iha ihb => simp [cntT, Tr.text]; omega
/-- one step of needed: what step x, needed, makes needed -/
def ndSt (f : List Bool) (x : Stp) (is : Bool) : List Bool := if is = true ∧ x.1 = 2 then (f.set x.2.1.toNat true).set x.2.2.toNat true else f
def ndGo (p : List Stp) : Nat → List Bool → List Bool
  | 0, f => f
  | k + 1, f => ndGo p k (ndSt f (p.getD k (0, 0, 0)) (f.getD k false))
def ndL (p : List Stp) : List Bool := ndGo p p.length ((List.replicate p.length false).set (p.length - 1) true)
theorem ndSt_len (f : List Bool) (x : Stp) (is : Bool) : (ndSt f x is).length = f.length := by unfold ndSt; split <;> simp
theorem ndGo_len (p : List Stp) : ∀ (k : Nat) (f : List Bool), (ndGo p k f).length = f.length
  | 0, _ => rfl
  | k + 1, f => by rw [ndGo, ndGo_len p k, ndSt_len]
theorem ndL_len (p : List Stp) : (ndL p).length = p.length := by unfold ndL; rw [ndGo_len]; simp
theorem set_getD (f : List Bool) (a j : Nat) : (f.set a true).getD j false = (if a = j ∧ j < f.length then true else f.getD j false) := by
  rw [List.getD_eq_getElem?_getD, List.getD_eq_getElem?_getD, List.getElem?_set]
  by_cases h : a = j
  · subst h
    by_cases hl : a < f.length
    · simp [hl]
    · simp [hl]
  · simp [h]
theorem ndSt_mono {f : List Bool} {x : Stp} {is : Bool} {j : Nat} (h : f.getD j false = true) : (ndSt f x is).getD j false = true := by
  unfold ndSt
  split
  · rw [set_getD, set_getD]
    split
    · rfl
    · split
      · rfl
      · exact h
  · exact h
theorem ndGo_mono (p : List Stp) {j : Nat} : ∀ (k : Nat) (f : List Bool), f.getD j false = true → (ndGo p k f).getD j false = true
  | 0, _, h => h
  | k + 1, _, h => ndGo_mono p k _ (ndSt_mono h)
theorem ndSt_same {f : List Bool} {x : Stp} {is : Bool} {j : Nat} (h : x.1 = 2 → x.2.1.toNat < j ∧ x.2.2.toNat < j) : (ndSt f x is).getD j false = f.getD j false := by
  unfold ndSt
  split
  · rename_i hc
    obtain ⟨h1, h2⟩ := h hc.2
    rw [set_getD, set_getD, if_neg (by omega), if_neg (by omega)]
  · rfl
theorem getD_stp {p : List Stp} {k : Nat} (hk : k < p.length) : p.getD k (0, 0, 0) = p[k] := by rw [List.getD_eq_getElem?_getD, List.getElem?_eq_getElem hk]; rfl
theorem ok_less {G : Int} {p : List Stp} (ok : okSteps G 0 p = true) {k : Nat} (hk : k < p.length) (h2 : p[k].1 = 2) : p[k].2.1.toNat < k ∧ p[k].2.2.toNat < k := by
  have := okS_get p 0 k hk ok
  rw [Nat.zero_add] at this
  obtain ⟨-, d1, d2, d3, d4⟩ := rightB_detach this (by omega)
  omega
theorem ndGo_same {G : Int} {p : List Stp} (ok : okSteps G 0 p = true) {j : Nat} : ∀ (k : Nat) (f : List Bool), k ≤ p.length → k ≤ j → (ndGo p k f).getD j false = f.getD j false
  | 0, _, _, _ => rfl
  | k + 1, f, h, hj => by
    rw [ndGo, ndGo_same ok k _ (by omega) (by omega)]
    refine ndSt_same fun h2 => ?_
    rw [getD_stp (by omega)] at h2 ⊢
    have := ok_less ok (by omega) h2
    omega
theorem ndGo_step {G : Int} {p : List Stp} (ok : okSteps G 0 p = true) {i : Nat} (hi : i < p.length) (h2 : p[i].1 = 2) : ∀ (k : Nat) (f : List Bool), f.length = p.length → k ≤ p.length → i < k → (ndGo p k f).getD i false = true →
    (ndGo p k f).getD p[i].2.1.toNat false = true ∧ (ndGo p k f).getD p[i].2.2.toNat false = true
  | 0, _, _, _, h, _ => by omega
  | k + 1, f, hl, hk, hik, ht => by
    rw [ndGo] at ht ⊢
    by_cases hlt : i < k
    · exact ndGo_step ok hi h2 k _ (by rw [ndSt_len]; exact hl) (by omega) hlt ht
    · obtain rfl : i = k := by omega
      have hless := ok_less ok hi h2
      rw [ndGo_same ok i _ (by omega) (Nat.le_refl _), getD_stp hi] at ht
      rw [ndSt_same (fun _ => hless)] at ht
      rw [getD_stp hi, ht]
      have hs : ndSt f p[i] true = (f.set p[i].2.1.toNat true).set p[i].2.2.toNat true := by unfold ndSt; rw [if_pos ⟨rfl, h2⟩]
      rw [hs]
      refine ⟨ndGo_mono p i _ ?_, ndGo_mono p i _ ?_⟩
      · rw [set_getD, set_getD]
        split
        · rfl
        · rw [if_pos ⟨rfl, by omega⟩]
      · rw [set_getD, if_pos ⟨rfl, by rw [List.length_set]; omega⟩]
theorem ndL_step {G : Int} {p : List Stp} (ok : okSteps G 0 p = true) {i : Nat} (hi : i < p.length) (h2 : p[i].1 = 2) (ht : (ndL p).getD i false = true) : (ndL p).getD p[i].2.1.toNat false = true ∧ (ndL p).getD p[i].2.2.toNat false = true :=
  ndGo_step ok hi h2 p.length _ (by simp) (Nat.le_refl _) hi ht
theorem ndL_last {p : List Stp} (h1 : 1 ≤ p.length) : (ndL p).getD (p.length - 1) false = true := by
  refine ndGo_mono p _ _ ?_
  rw [set_getD, if_pos ⟨rfl, by simp; omega⟩]
theorem ndL_nd {G : Int} {p : List Stp} (ok : okSteps G 0 p = true) {k j : Nat} (h : Nd p k j) : (ndL p).getD k false = true → (ndL p).getD j false = true := by
  induction h with
  | self => exact id
  | a hk h2 _ ih => exact fun ht => ih (ndL_step ok hk h2 ht).1
  | b hk h2 _ ih => exact fun ht => ih (ndL_step ok hk h2 ht).2
/-- the needed steps -/
def ndIdx (p : List Stp) : List Nat := (List.range p.length).filter fun i => (ndL p).getD i false
theorem tree_needed {G : Int} {p q : List Stp} (ok : okSteps G 0 p = true) (h1 : 1 ≤ p.length) (hq : okSteps G 0 q = true) (nd : q.Nodup) (hs : ∀ u ∈ trees q, u ∈ ((trees p).getLastD (.g 0)).subs) : q.length ≤ (ndIdx p).length := by
  classical
  have h := nodup_le (m := (ndIdx p).map fun i => (trees p).getD i (.g 0)) (trees_nodup hq nd) (fun u hu => by
    have h2 := hs u hu
    rw [last_tree h1] at h2
    obtain ⟨j, hj, hn, ht⟩ := subs_nd ok (p.length - 1) (by omega) u h2
    rw [List.mem_map]
    refine ⟨j, ?_, ht⟩
    unfold ndIdx
    rw [List.mem_filter, List.mem_range]
    exact ⟨hj, ndL_nd ok hn (ndL_last h1)⟩)
  rw [trees_len, List.length_map] at h
  exact h
end Go.Proofs.YtggfhjfebnhbjaaGreatDoor

/- Proofs as texts, in plain words: what is read was written, and the other way round. No program is named. -/
namespace Go.Proofs.YtggfhjfebnhbjaaGreatDoor

theorem lineB_no10 {i : Nat} {x : Stp} (h : rightB 60 i x = true) (hi : i ≤ 60) : (10 : UInt8) ∉ lineB x := by
  rcases right_form h hi with ⟨a, ha, rfl⟩ | ⟨a, b, ha, hb, rfl⟩
  · have f : (10 : UInt8) ∉ smD a := (smD_facts ⟨a, ha⟩).2.2.2.2.2.2
    rw [lineB_cite ha]; simp [citeW, f]
  · have f : (10 : UInt8) ∉ smD a := (smD_facts ⟨a, ha⟩).2.2.2.2.2.2
    have g : (10 : UInt8) ∉ smD b := (smD_facts ⟨b, hb⟩).2.2.2.2.2.2
    rw [lineB_det ha hb]; simp [detW, f, g]
/-- what was written is read -/
theorem parse_lines : ∀ (p : List Stp) (acc : List Stp), okSteps 60 acc.length p = true → acc.length + p.length ≤ 60 → acc ++ p ≠ [] → parseL (wordsB 10 (p.flatMap lineT)) acc.length acc = (acc ++ p, 0, 0)
  | [], acc, _, _, hne => by
    rw [List.append_nil] at hne ⊢
    rw [List.flatMap_nil, wordsB, parseL, if_pos ⟨rfl, hne⟩]
  | x :: p, acc, ok, hl, _ => by
    rw [okSteps, Bool.and_eq_true] at ok
    rw [List.length_cons] at hl
    have hx := ok.1
    have h10 := lineB_no10 hx (by omega)
    have hw : wordsB 10 ((x :: p).flatMap lineT) = lineB x :: wordsB 10 (p.flatMap lineT) := by
      rw [List.flatMap_cons, lineT, List.append_assoc]
      exact wordsB_at h10
    rw [hw]
    have hrx := refX_line hx (by omega)
    cases hp : wordsB 10 (p.flatMap lineT) with
    | nil => exact (wordsB_ne _ _ hp).elim
    | cons v r =>
      rw [parseL, hrx, if_pos ⟨by omega, hx⟩, ← hp]
      have ih := parse_lines p (acc ++ [x]) (by rw [List.length_append, List.length_singleton]; exact ok.2) (by rw [List.length_append, List.length_singleton]; omega) (by simp)
      rw [List.length_append, List.length_singleton] at ih
      rw [ih, List.append_assoc]; rfl
theorem flat_len {p : List Stp} : ∀ {i : Nat}, okSteps 60 i p = true → i + p.length ≤ 60 → (p.flatMap lineT).length ≤ 13 * p.length := by
  induction p with
  | nil => intro i _ _; simp
  | cons x p ih =>
    intro i ok hl
    rw [okSteps, Bool.and_eq_true] at ok
    rw [List.length_cons] at hl
    have h2 := ih ok.2 (by omega)
    have h1 : (lineT x).length ≤ 13 := by
      unfold lineT
      rcases right_form ok.1 (by omega) with ⟨a, ha, rfl⟩ | ⟨a, b, ha, hb, rfl⟩
      · have : (smD a).length ≤ 2 := (smD_facts ⟨a, ha⟩).2.2.1
        rw [lineB_cite ha]; simp [citeW]; omega
      · have : (smD a).length ≤ 2 := (smD_facts ⟨a, ha⟩).2.2.1
        have : (smD b).length ≤ 2 := (smD_facts ⟨b, hb⟩).2.2.1
        rw [lineB_det ha hb]; simp [detW]; omega
    rw [List.flatMap_cons, List.length_append, List.length_cons]; omega
theorem parse_format {p : List Stp} (h : formatE p ≠ []) : parseE (formatE p) = (p, 0, 0) := by
  have hv : validP 60 p = true := by
    unfold formatE at h
    by_cases hv : validP 60 p = true
    · exact hv
    · rw [if_neg hv] at h; exact (h rfl).elim
  obtain ⟨ok, p1, p2⟩ := validP_parts hv
  have hf : formatE p = p.flatMap lineT := by unfold formatE; rw [if_pos hv]
  have hl := flat_len (i := 0) ok (by omega)
  unfold parseE
  rw [hf, if_pos (by omega)]
  have := parse_lines p [] ok (by simpa using p2) (by intro e; rw [List.nil_append] at e; rw [e] at p1; simp at p1)
  simpa using this
theorem joinM_cons (m : UInt8) (w v : List UInt8) (ws : List (List UInt8)) : joinM m (w :: v :: ws) = w ++ m :: joinM m (v :: ws) := rfl
theorem okSteps_snocT {G : Int} : ∀ {p : List Stp} {i : Nat} {x : Stp}, okSteps G i p = true → rightB G (i + p.length) x = true → okSteps G i (p ++ [x]) = true
  | [], i, x, _, h => by simp only [List.nil_append, okSteps, Bool.and_true]; simpa using h
  | y :: p, i, x, h, hx => by
    rw [okSteps, Bool.and_eq_true] at h
    rw [List.cons_append, okSteps, Bool.and_eq_true]
    exact ⟨h.1, okSteps_snocT h.2 (by rw [List.length_cons] at hx; rw [show i + 1 + p.length = i + (p.length + 1) by omega]; exact hx)⟩
/-- what is read was written -/
theorem parse_back : ∀ (ls : List (List UInt8)) (acc q : List Stp), parseL ls acc.length acc = (q, 0, 0) → okSteps 60 0 acc = true → acc.length ≤ 60 →
    ∃ r, q = acc ++ r ∧ okSteps 60 0 q = true ∧ 1 ≤ q.length ∧ q.length ≤ 60 ∧ r.flatMap lineT = joinM 10 ls
  | [], acc, q, h, _, _ => by rw [parseL] at h; exact absurd (congrArg (fun r => r.2.2) h) (by simp)
  | [l], acc, q, h, ok, hl => by
    rw [parseL] at h
    by_cases hc : l = [] ∧ acc ≠ []
    · rw [if_pos hc] at h
      injection h with h1 _
      subst h1
      obtain ⟨rfl, hne⟩ := hc
      exact ⟨[], by simp, ok, List.length_pos_iff.2 hne, hl, rfl⟩
    · rw [if_neg hc] at h; exact absurd (congrArg (fun r => r.2.2) h) (by simp)
  | l :: v :: r, acc, q, h, ok, hl => by
    rw [parseL] at h
    by_cases hc : acc.length < 60 ∧ rightB 60 acc.length (refX l) = true
    · rw [if_pos hc] at h
      have hlen : (acc ++ [refX l]).length = acc.length + 1 := by simp
      obtain ⟨r', h1, h2, h3, h4, h5⟩ := parse_back (v :: r) (acc ++ [refX l]) q (by rw [hlen]; exact h) (okSteps_snocT ok (by rw [Nat.zero_add]; exact hc.2)) (by rw [hlen]; omega)
      refine ⟨refX l :: r', by rw [h1, List.append_assoc]; rfl, h2, h3, h4, ?_⟩
      rw [joinM_cons, List.flatMap_cons, h5, lineT, refX_back hc.2]
      simp
    · rw [if_neg hc] at h; exact absurd (congrArg (fun r => r.2.2) h) (by simp)
theorem format_parse {t : List UInt8} {q : List Stp} {n : Nat} (h : parseE t = (q, n, 0)) : formatE q = t ∧ n = 0 := by
  unfold parseE at h
  by_cases hl : t.length ≤ 65536
  · rw [if_pos hl] at h
    have hn : n = 0 := by
      have aux : ∀ (ls : List (List UInt8)) (i : Nat) (acc q : List Stp) (n : Nat), parseL ls i acc = (q, n, 0) → n = 0 := by
        intro ls
        induction ls with
        | nil => intro i acc q n h; rw [parseL] at h; cases h
        | cons l r ih =>
          intro i acc q n h
          cases r with
          | nil =>
            rw [parseL] at h
            split at h
            · injection h with _ h2; injection h2 with h2 _; exact h2.symm
            · cases h
          | cons v r =>
            rw [parseL] at h
            split at h
            · exact ih _ _ _ _ h
            · cases h
      exact aux _ _ _ _ _ h
    subst hn
    obtain ⟨r, h1, h2, h3, h4, h5⟩ := parse_back (wordsB 10 t) [] q h rfl (Nat.zero_le _)
    rw [List.nil_append] at h1
    subst h1
    refine ⟨?_, rfl⟩
    unfold formatE
    rw [if_pos (by simp only [validP, Bool.and_eq_true, decide_eq_true_eq]; exact ⟨h2, h3, h4⟩), h5, joinM_words]
  · rw [if_neg hl] at h; cases h
end Go.Proofs.YtggfhjfebnhbjaaGreatDoor

/- Facts of the program's types that the rows over the kernel want; the start of a row that lists variables. -/
namespace Go.Proofs.YtggfhjfebnhbjaaGreatDoor
open Go Go.RowKit Go.ChangeShapes Go.WideShapes Go.ChangeAt Go.Deep

theorem gives3 {P : Program} {t : TypeId} {α β γ : Type} {E : Enc α} {F : Enc β} {G : Enc γ} {f0 f1 f2 : Field} (ht : P.underlying t = some (.struct #[f0, f1, f2])) (h0 : f0.offset = 0) (h1 : f1.offset = E.size) (h2 : f2.offset = E.size + F.size) (hc : P.cellsOf t = E.size + (F.size + G.size))
    (hc0 : P.cellsOf f0.type = E.size) (hc1 : P.cellsOf f1.type = F.size) (hc2 : P.cellsOf f2.type = G.size) (g0 : Gives P f0.type E) (g1 : Gives P f1.type F) (g2 : Gives P f2.type G) : Gives P t (pairE E (pairE F G)) := by
  intro H enc w base spare held n cs x h
  obtain ⟨y0, y1, y2, n', _, hl, r0, r1, r2⟩ := trod_struct3 ht h
  obtain ⟨a, ha⟩ := g0 H enc w base spare held n' _ _ r0
  obtain ⟨b, hb⟩ := g1 H enc w base spare held n' _ _ r1
  obtain ⟨c, hcc⟩ := g2 H enc w base spare held n' _ _ r2
  refine ⟨(a, b, c), _, _, ?_, ha, _, _, rfl, hb, hcc⟩
  rw [h0, h1, h2, hc0, hc1, hc2, List.drop_zero]
  have e1 : (cs.drop (E.size + F.size)).take G.size = cs.drop (E.size + F.size) := List.take_of_length_le (by simp; omega)
  rw [e1, ← List.drop_drop, List.take_append_drop, List.take_append_drop]
theorem gStp : Gives Tryz.prog 74 stpE := gives3 Tryz.underlying74 rfl rfl rfl (by kernel_rfl) (by kernel_rfl) (by kernel_rfl) (by kernel_rfl) gInt gInt gInt
theorem gSteps : Gives Tryz.prog 25 (slE stpE) := gives_slice Tryz.underlying25 (by kernel_rfl) gStp
theorem gives_array2 {P : Program} {t e : TypeId} {α : Type} {E : Enc α} (ht : P.underlying t = some (.array 2 e)) (hc : P.cellsOf t = E.size + E.size) (he : P.cellsOf e = E.size) (g : Gives P e E) : Gives P t (pairE E E) := by
  intro H enc w base spare held n cs x h
  obtain ⟨xs, m, _, _, hl, hx, hf⟩ := DataW.trod_array ht h
  match xs, hx with
  | [x0, x1], _ =>
    obtain ⟨a, ha⟩ := g H enc w base spare held m _ _ (hf 0 (by omega))
    obtain ⟨b, hb⟩ := g H enc w base spare held m _ _ (hf 1 (by omega))
    refine ⟨(a, b), _, _, ?_, ha, hb⟩
    rw [he, Nat.zero_mul, Nat.one_mul, List.drop_zero]
    have e1 : (cs.drop E.size).take E.size = cs.drop E.size := List.take_of_length_le (by simp; omega)
    rw [e1, List.take_append_drop]
theorem gClaim : Gives Tryz.prog 44 (pairE (slE (slE intE)) (pairE (slE stpE) (slE intE))) := gives3 Tryz.underlying44 rfl rfl rfl (by kernel_rfl) (by kernel_rfl) (by kernel_rfl) (by kernel_rfl) gTerms gSteps gTerm
end Go.Proofs.YtggfhjfebnhbjaaGreatDoor

/- Walks: SameSteps. -/
namespace Go.Proofs.YtggfhjfebnhbjaaGreatDoor
open Go Go.RowKit Go.Maps

theorem stp_neq (x1 x2 x3 y1 y2 y3 : Int) (w : World) : (binOp .neq 74 (.agg #[.int .i64 x1, .int .i64 x2, .int .i64 x3]) (.agg #[.int .i64 y1, .int .i64 y2, .int .i64 y3])).run Tryz.prog w = .ok (.bool (!(x1 == y1 && (x2 == y2 && x3 == y3)))) w := by
  rw [run_neq_struct, run_equalIn_struct w 9999 _ _ _ (by kernel_rfl) (by kernel_rfl)]
  simp [Op.eqFields, go_sem]
  by_cases h1 : x1 = y1
  · by_cases h2 : x2 = y2
    · by_cases h3 : x3 = y3
      · simp [h1, h2, h3]
      · simp [h1, h2, h3]
    · simp [h1, h2]
  · simp [h1]
theorem stp_guard (o1 o2 : Operand) (xs ys : Array Value) (w : World) : (eqGuard .neq 74 o1 o2 (.agg xs) (.agg ys)).run Tryz.prog w = .ok () w := run_eqGuard_agg w _ _ _ _ _ _ (by kernel_rfl)
set_option maxHeartbeats 1000000 in
theorem SameSteps_any {S1 S2 : Nat → Prop} (a1 a2 : Option Addr) (c1 c2 : Nat) (l1 l2 : List Stp) (w : World) (h1 : Steps S1 w a1 c1 l1) (h2 : Steps S2 w a2 c2 l2) :
    Calls Tryz.prog 30 #[.slice a1 l1.length c1, .slice a2 l2.length c2] w fun e w' => e = .returned (.bool (decide (l1 = l2))) ∧ Drew w w' := by
  have m1 := h1.le
  have m2 := h2.le
  by_cases hl : l1.length = l2.length
  · have hlH := Lib.hid hl
    go_enter Tryz.func30, Tryz.ntmps30
    go_wp2
    clear hl
    go_loopw [5] (fun i wr => ∃ k : Nat, k ≤ l1.length ∧ i = .int .i64 k ∧ l1.take k = l2.take k ∧ Drew w wr) (fun i _ => l1.length - (intOf i).toNat)
    case atStart => exact ⟨0, by omega, rfl, rfl, .refl _⟩
    case round =>
      obtain ⟨k, hk, rfl, ht, n, rfl⟩ := hrel
      have htH := Lib.hid ht
      clear ht
      have hle := hlH.out
      by_cases hlt : k < l1.length
      · have hlt2 : k < l2.length := by omega
        obtain ⟨b1, o1, rfl, -, q1, q2, q3, -⟩ := h1.stp k hlt
        obtain ⟨b2, o2, rfl, -, r1, r2, r3, -⟩ := h2.stp k hlt2
        obtain ⟨x, hx⟩ : ∃ x, l1[k] = x := ⟨_, rfl⟩
        obtain ⟨y, hy⟩ : ∃ y, l2[k] = y := ⟨_, rfl⟩
        rw [hx] at q1 q2 q3
        rw [hy] at r1 r2 r3
        obtain ⟨x1, x2, x3⟩ := x
        obtain ⟨y1, y2, y3⟩ := y
        simp only at q1 q2 q3 r1 r2 r3
        have hneq := fun W => stp_neq x1 x2 x3 y1 y2 y3 W
        obtain ⟨bb, hbb⟩ : ∃ bb, (!(x1 == y1 && (x2 == y2 && x3 == y3))) = bb := ⟨_, rfl⟩
        rw [hbb] at hneq
        have hbbH := Lib.hid hbb
        clear hbb
        have hgu := fun W => stp_guard (.tmp 20) (.tmp 24) #[.int .i64 x1, .int .i64 x2, .int .i64 x3] #[.int .i64 y1, .int .i64 y2, .int .i64 y3] W
        have hxH := Lib.hid hx
        have hyH := Lib.hid hy
        clear h1 h2 hle hx hy
        cases bb with
        | true =>
          go_wp2
          go_quiet (fail)
          all_goals go_wp2
          go_ret
          refine ⟨ret_bool (decide_eq_false (fun e => ?_)).symm, .mk2 _ _ _⟩
          have e1 := hxH.out
          have e2 := hyH.out
          have e3 := hbbH.out
          simp only [e] at e1
          rw [e1] at e2
          cases e2
          simp at e3
        | false =>
          go_wp2
          go_quiet (fail)
          all_goals go_wp2
          refine ⟨⟨k + 1, by omega, by go_num, ?_, .mk _ _⟩, by simp [intOf]; omega⟩
          have e3 := hbbH.out
          simp only [Bool.not_eq_false', Bool.and_eq_true, beq_iff_eq] at e3
          obtain ⟨rfl, rfl, rfl⟩ := e3
          rw [List.take_succ_eq_append_getElem hlt, List.take_succ_eq_append_getElem hlt2, htH.out, hxH.out, hyH.out]
      · clear hle
        have hk2 : ¬ k < l2.length := by have := hlH.out; omega
        go_wp2
        go_ret
        exact ⟨ret_bool (decide_eq_true (by have h := htH.out; rwa [List.take_of_length_le (by omega), List.take_of_length_le (by omega)] at h)).symm, .mk _ _⟩
  · go_enter Tryz.func30, Tryz.ntmps30
    have hb := int_ne hl
    go_wp2
    go_ret
    exact ⟨ret_bool (decide_eq_false (fun e => hl (by rw [e]))).symm, .refl _⟩
end Go.Proofs.YtggfhjfebnhbjaaGreatDoor

/- The plain wrap with a laid list, the world's shape kept. -/
namespace Go.Proofs.YtggfhjfebnhbjaaGreatDoor
open Go Go.RowKit

theorem handed_shaped_and {H : Type} {enc : TypeId × Value → H} {a : Assume} {C : Checked} {os : Os} {f : FuncId} {fn : Func} {s : ChangeSpec} {conds : List PathCond} {apart fresh handsOn again : Bool} {X : World → Array Value → Prop}
    (hX : ∀ (w w' : World) (args : Array Value), w.heap = w'.heap → X w args → X w' args)
    (own : ownKnob C.prog.godebug = none) (started : os.Started) (noInit : C.prog.inits.idxOf? f = none) (hfn : C.prog.funcs[f]? = some fn)
    (witness : ∃ (w : World) (tape : Tape) (i : Input), w.os = os ∧ (w.forCall tape i).Shaped C.prog ∧ i.vars = [] ∧ Input.okWide C.prog (w.forCall tape i) .any w.heap.size f i ∧
      ((s.pre enc C.prog fn conds apart (w.forCall tape i).memory i.args ∧ X (w.forCall tape i).memory i.args) ∧ sizedMet enc C.prog fn (OpenSpec.ofChange s) apart (w.forCall tape i).memory i.args) ∧ a.holds C.prog (lone (Frame.enter C.prog f i.args .normal) [] (w.forCall tape i)))
    (contract : ∀ (W : World) (base : Nat) (args : Array Value) (ds gs : List (DataW H)) (before : List MemPlace), W.ShapedOpen C.prog →
      (∀ (j : Nat) t v, fn.params[j]? = some t → args[j]? = some v → Value.okWide C.prog W .any base t v) →
      DataW.Whole enc C.prog fn.params.toList s.vars apart W args.toList ds gs before →
      conds.all (PathCond.test C.prog ⟨fn.params.toList, ds, s.plain.varTypes C.prog, gs⟩) = true →
      (DataW.weightsEach C.prog (fn.params.toList ++ s.plain.varTypes C.prog) (ds ++ gs)).all (· ≤ reachBytes) = true → X W args →
      a.holds C.prog (lone (Frame.enter C.prog f args .normal) [] W) →
      Calls C.prog f args W fun e W' => ∃ v, e = .returned v ∧ s.post enc C.prog fn apart fresh handsOn again W args v W') :
    ReturnsInHanded a C os f .any (fun w args => (s.pre enc C.prog fn conds apart w args ∧ X w args) ∧ sizedMet enc C.prog fn (OpenSpec.ofChange s) apart w args) (s.post enc C.prog fn apart fresh handsOn again) := by
  refine returnsInHanded_of_calls own started noInit witness ?_
  intro w tape i _ hsh _ hok hpre hholds
  obtain ⟨_, _, _, fn', hfn', _, _, _, _, hval⟩ := hok
  have e : fn' = fn := Option.some.inj (hfn'.symm.trans hfn)
  subst e
  obtain ⟨⟨⟨ds, gs, before, hw, hc⟩, hx⟩, hz⟩ := hpre
  have hw' := DataW.Whole.of_heap (w' := w.forCall tape i) (by rfl) hw
  refine (contract (w.forCall tape i) w.heap.size i.args ds gs before hsh hval hw' hc (hz.weights hw) (hX _ _ _ (by rfl) hx) hholds).mono fun e W' ⟨v, he, hp⟩ => ?_
  subst he
  exact ChangeSpec.post_blind hp
theorem iface_cells {H : Type} {enc : TypeId × Value → H} {P : Program} {w : World} {sp : Nat → Bool} {fuel : Nat} {t : TypeId} {ms : Array (String × TypeId)} {cs : List Value} {x : DataW H × List MemPlace} (ht : P.underlying t = some (.interface ms))
    (h : DataW.trod enc P w 0 sp false fuel t cs = some x) : ∃ v, cs = [v] ∧ (v = .nilIface ∨ ∃ te pe, v = .iface te pe) := by
  cases fuel with
  | zero => simp [DataW.trod] at h
  | succ fuel =>
    unfold DataW.trod at h
    rw [ht] at h
    split at h <;> first | exact ⟨_, rfl, .inl rfl⟩ | exact ⟨_, rfl, .inr ⟨_, _, rfl⟩⟩ | (rename_i h2; cases h2; done) | cases h
theorem sent_of_cells {w : World} {g : Nat} {n : String} {cs : Array Value} (hg : Tryz.prog.globalNamed n = some g) (hv : w.var? Tryz.prog n = some cs) (hc : ∃ v, cs.toList = [v] ∧ (v = .nilIface ∨ ∃ te pe, v = .iface te pe)) : SentW w g := by
  obtain ⟨v, h1, h2⟩ := hc
  unfold World.var? at hv
  rw [hg, Option.bind_some] at hv
  split at hv
  · rename_i cs' t' f' hh
    obtain rfl := Option.some.inj hv
    have h3 : cs'[0]? = some v := by rw [← Array.getElem?_toList, h1]; rfl
    exact ⟨v, by simp [World.cell?, hh, h3], h2⟩
  · cases hv
theorem lib_of_laid {W : World} {n1 n2 n3 : String} {d1 d2 d3 d4 d5 : DataW Unit} {rest : List (String × DataW Unit)} (hs : W.ShapedOpen Tryz.prog) (hT : TabW W) (h : laidMet Tryz.prog ((n1, d1) :: (n2, d2) :: (n3, d3) :: ("strconv.ErrRange", d4) :: ("strconv.ErrSyntax", d5) :: rest) W) : LibW W := by
  have hg4 : Tryz.prog.globalNamed "strconv.ErrRange" = some 2 := by kernel_rfl
  have hg5 : Tryz.prog.globalNamed "strconv.ErrSyntax" = some 1 := by kernel_rfl
  have ht4 : (Tryz.prog.globals[2]?).map (·.type) = some 76 := by kernel_rfl
  have ht5 : (Tryz.prog.globals[1]?).map (·.type) = some 76 := by kernel_rfl
  obtain ⟨ps, ⟨_, _, _, _, _, _, _, _, _, _, ⟨_, _, _, _, _, _, _, _, _, _, ⟨_, _, _, _, _, _, _, _, _, _, ⟨g4, t4, cs4, f4, p4, q4, a4, b4, c4, e4, ⟨g5, t5, cs5, f5, p5, q5, a5, b5, c5, e5, _, _⟩, _⟩, _⟩, _⟩, _⟩, _⟩ := h
  obtain rfl := Option.some.inj (hg4.symm.trans a4)
  obtain rfl := Option.some.inj (hg5.symm.trans a5)
  obtain rfl := Option.some.inj (ht4.symm.trans b4)
  obtain rfl := Option.some.inj (ht5.symm.trans b5)
  exact ⟨hT, shM145.s1_3 W hs, sent_of_cells hg5 c5 (iface_cells Tryz.underlying76 e5), sent_of_cells hg4 c4 (iface_cells Tryz.underlying76 e4)⟩
end Go.Proofs.YtggfhjfebnhbjaaGreatDoor

/- Walks that the laws on kernel share: shelf, Light; awake behind what came before it. -/
namespace Go.Proofs.YtggfhjfebnhbjaaGreatDoor
open Go Go.RowKit Go.Maps

theorem Light_any {S : Nat → Prop} (a : Option Addr) (c : Nat) (p : List Stp) (w : World) (h : Steps S w a c p) :
    Calls Tryz.prog 9 #[.slice a p.length c] w fun e w' => e = .returned (.bool (decide (p.length ≤ 100))) ∧ w = w' := by
  have m := h.le
  go_enter Tryz.func9, Tryz.ntmps9
  go_wp2_with fail
  go_ret
  exact ⟨ret_bool (by rw [Bool.eq_iff_iff]; simp only [decide_eq_true_eq]; omega), rfl⟩
def shelfT (s : Sg) (g : List (List Int)) : Bool := decide (g.length ≤ 80) && smallT s g
theorem shelf_any {S1 S2 : Nat → Prop} (a1 ag : Option Addr) (c1 cg : Nat) (s : Sg) (g : List (List Int)) (w : World) (h1 : Sign S1 w a1 c1 s) (h2 : Terms S2 w ag cg g) :
    Calls Tryz.prog 8 #[.slice a1 s.length c1, .slice ag g.length cg] w fun e w' => e = .returned (.bool (shelfT s g)) ∧ w = w' := by
  have m1 := h1.le
  have m2 := h2.le
  have csH := Lib.hid (Small_any a1 ag c1 cg s g w h1 h2)
  clear h1 h2
  unfold shelfT
  by_cases h80 : g.length ≤ 80
  · have hd : decide ((g.length : Int) ≤ 80) = true := by simp; omega
    rw [decide_eq_true h80]
    go_enter Tryz.func8, Tryz.ntmps8
    go_wp2_with fail
    refine csH.out.mono ?_
    rintro e w1 ⟨rfl, rfl⟩
    go_wp2_with fail
    go_ret
    exact ⟨rfl, rfl⟩
  · have hd : decide ((g.length : Int) ≤ 80) = false := by simp; omega
    rw [decide_eq_false h80]
    go_enter Tryz.func8, Tryz.ntmps8
    go_wp2_with fail
    go_ret
    exact ⟨rfl, rfl⟩
theorem aw4_from {B : Nat} {W W' : World} (hb : Below B W W') (hB : B ≤ W.heap.size) : Calls Tryz.prog 10 #[] W' fun e w' => e = .returned (.bool true) ∧ Below B W w' :=
  (awake4_any W').mono fun _ _ h => ⟨h.1, hb.trans (h.2.mono (Nat.le_trans hB hb.size))⟩
end Go.Proofs.YtggfhjfebnhbjaaGreatDoor

/- The law KernelTexts, walked. -/
namespace Go.Proofs.YtggfhjfebnhbjaaGreatDoor
open Go Go.RowKit Go.Maps

theorem ba_of2 (t : ByteArray) : (⟨t.data.toList.toArray⟩ : ByteArray) = t := by cases t; simp
set_option maxRecDepth 100000 in
set_option maxHeartbeats 4000000 in
theorem KernelTexts_walk {S : Nat → Prop} (a0 : Option Addr) (c0 : Nat) (p : List Stp) (t : ByteArray) (w : World) (h3 : Steps S w a0 c0 p) (hL : LibW w) :
    Calls Tryz.prog 6 #[.slice a0 p.length c0, .string t] w fun e w' => e = .returned (.bool true) ∧ Below w.heap.size w w' := by
  have m3 := h3.le
  have h3H := Lib.hid h3
  have hLH := Lib.hid hL
  have cl1H := Lib.hid (Light_any a0 c0 p w h3H.out)
  have awH := Lib.hid (fun W' (hb : Below w.heap.size w W') => aw4_from hb (Nat.le_refl _))
  clear h3 hL
  cases hp : decide (p.length ≤ 100) with
  | false =>
    rw [hp] at cl1H
    go_enter Tryz.func6, Tryz.ntmps6
    go_wp2_with fail
    refine cl1H.out.mono ?_
    rintro e w1 ⟨rfl, rfl⟩
    go_wp2_with fail
    refine (awH.out _ (.refl _ _)).mono ?_
    rintro e w2 ⟨rfl, hb2⟩
    go_wp2_with fail
    go_ret
    exact ⟨rfl, hb2⟩
  | true =>
  rw [hp] at cl1H
  clear hp
  obtain ⟨r, hr⟩ : ∃ r, parseE t.data.toList = r := ⟨_, rfl⟩
  obtain ⟨q, n, k⟩ := r
  have hrH := Lib.hid hr
  have c1 := Parse_any t w hLH.out
  have c2 := fun W => rParse_any t W
  rw [hr] at c1
  rw [hr] at c2
  have c1H := Lib.hid c1
  have c2H := Lib.hid c2
  obtain ⟨fB, hfB⟩ : ∃ b, (⟨(formatE p).toArray⟩ : ByteArray) = b := ⟨_, rfl⟩
  have hfd : fB.data.toList = formatE p := by rw [← hfB]
  have c3 := fun W (hb : Below w.heap.size w W) => Format_any a0 c0 p W (h3H.out.below hb) (TabW.below hLH.out.1 hb)
  have c4 := fun W (hb : Below w.heap.size w W) => rFormat_any a0 c0 p W (h3H.out.below hb)
  rw [hfB] at c3
  rw [hfB] at c4
  have c3H := Lib.hid c3
  have c4H := Lib.hid c4
  have hfdH := Lib.hid hfd
  clear hr c1 c2 c3 c4 hfB hfd
  go_enter Tryz.func6, Tryz.ntmps6
  go_wp2_with fail
  refine cl1H.out.mono ?_
  rintro e w0 ⟨rfl, rfl⟩
  go_wp2_with fail
  refine c1H.out.mono ?_
  rintro e w1 ⟨v1, rfl, o1, hb1⟩
  obtain ⟨a1, k1, rfl, s1⟩ := OwnSt.steps o1
  have s1H := Lib.hid s1
  have hb1H := Lib.hid hb1
  clear o1 s1 hb1
  simp only
  go_wp2_with fail
  refine (c2H.out _).mono ?_
  rintro e w2 ⟨v2, rfl, o2, hb2⟩
  obtain ⟨a2, k2, rfl, s2⟩ := OwnSt.steps o2
  have cs := SameSteps_any a1 a2 k1 k2 _ _ w2 (s1H.out.below hb2) s2
  rw [decide_eq_true rfl] at cs
  have csH := Lib.hid cs
  have hb2H := Lib.hid (bcall hb1H.out hb2)
  have s1H := Lib.hid (s1H.out.below hb2)
  clear o2 s2 cs hb2
  simp only at csH ⊢
  have gk : (k == k) = true := by simp
  go_wp2_with fail
  refine csH.out.mono ?_
  rintro e w3 ⟨rfl, hd3⟩
  have hb3 := hd3.below w2.heap.size
  have hb3H := Lib.hid (bcall hb2H.out hb3)
  have s1H := Lib.hid (s1H.out.below hb3)
  clear hb3 hd3 csH
  simp only
  by_cases hk : k = 0
  · subst hk
    have hfp := format_parse hrH.out
    have cf := Format_any a1 k1 q w3 s1H.out (TabW.below hLH.out.1 hb3H.out)
    rw [hfp.1, show (⟨t.data.toList.toArray⟩ : ByteArray) = t from ba_of2 t] at cf
    have cfH := Lib.hid cf
    clear cf hfp hrH
    go_wp2_with fail
    refine cfH.out.mono ?_
    rintro e wx ⟨rfl, hbx⟩
    have hbxH := Lib.hid (bcall hb3H.out hbx)
    clear hbx cfH
    simp only
    go_wp2_with fail
    refine (c3H.out _ hbxH.out).mono ?_
    rintro e w5 ⟨rfl, hb5⟩
    have hb5H := Lib.hid (bcall hbxH.out hb5)
    clear hb5 c3H
    simp only
    go_wp2_with fail
    refine (c4H.out _ hb5H.out).mono ?_
    rintro e w6 ⟨rfl, hb6⟩
    have hb6H := Lib.hid (bcall hb5H.out hb6)
    clear hb6 c4H
    simp only
    by_cases hf : fB.data.toList = []
    · have hfe : fB = ⟨#[]⟩ := ba_of hf
      subst hfe
      clear hf hfdH
      go_wp2_with fail
      refine (awH.out _ hb6H.out).mono ?_
      rintro e w7 ⟨rfl, hb7⟩
      go_wp2_with fail
      go_ret
      exact ⟨rfl, hb7⟩
    · have gn := gn_nil hf
      have c7 := Parse_any fB w6 (hLH.out.later hb6H.out)
      rw [hfdH.out, parse_format (by rw [← hfdH.out]; exact hf)] at c7
      have c7H := Lib.hid c7
      clear c7 hf hfdH
      go_wp2_with fail
      refine c7H.out.mono ?_
      rintro e w7 ⟨v7, rfl, o7, hb7⟩
      obtain ⟨a7, k7, rfl, s7⟩ := OwnSt.steps o7
      have hb7x := bcall hb6H.out hb7
      have cs7 := SameSteps_any a7 a0 k7 c0 _ _ w7 s7 (h3H.out.below hb7x)
      rw [decide_eq_true rfl] at cs7
      have cs7H := Lib.hid cs7
      have hb7H := Lib.hid hb7x
      clear o7 s7 cs7 hb7 hb7x c7H
      simp only at cs7H ⊢
      go_wp2_with fail
      refine cs7H.out.mono ?_
      rintro e w8 ⟨rfl, hd8⟩
      have hb8 := bcall hb7H.out (hd8.below _)
      simp only
      go_wp2_with fail
      refine (awH.out _ hb8).mono ?_
      rintro e w9 ⟨rfl, hb9⟩
      go_wp2_with fail
      go_ret
      exact ⟨rfl, hb9⟩
  · have gk0 : (k == 0) = false := by rw [beq_eq_false_iff_ne]; exact hk
    have hbxH := hb3H
    clear hk
    go_wp2_with fail
    refine (c3H.out _ hbxH.out).mono ?_
    rintro e w5 ⟨rfl, hb5⟩
    have hb5H := Lib.hid (bcall hbxH.out hb5)
    clear hb5 c3H
    simp only
    go_wp2_with fail
    refine (c4H.out _ hb5H.out).mono ?_
    rintro e w6 ⟨rfl, hb6⟩
    have hb6H := Lib.hid (bcall hb5H.out hb6)
    clear hb6 c4H
    simp only
    by_cases hf : fB.data.toList = []
    · have hfe : fB = ⟨#[]⟩ := ba_of hf
      subst hfe
      clear hf hfdH
      go_wp2_with fail
      refine (awH.out _ hb6H.out).mono ?_
      rintro e w7 ⟨rfl, hb7⟩
      go_wp2_with fail
      go_ret
      exact ⟨rfl, hb7⟩
    · have gn := gn_nil hf
      have c7 := Parse_any fB w6 (hLH.out.later hb6H.out)
      rw [hfdH.out, parse_format (by rw [← hfdH.out]; exact hf)] at c7
      have c7H := Lib.hid c7
      clear c7 hf hfdH
      go_wp2_with fail
      refine c7H.out.mono ?_
      rintro e w7 ⟨v7, rfl, o7, hb7⟩
      obtain ⟨a7, k7, rfl, s7⟩ := OwnSt.steps o7
      have hb7x := bcall hb6H.out hb7
      have cs7 := SameSteps_any a7 a0 k7 c0 _ _ w7 s7 (h3H.out.below hb7x)
      rw [decide_eq_true rfl] at cs7
      have cs7H := Lib.hid cs7
      have hb7H := Lib.hid hb7x
      clear o7 s7 cs7 hb7 hb7x c7H
      simp only at cs7H ⊢
      go_wp2_with fail
      refine cs7H.out.mono ?_
      rintro e w8 ⟨rfl, hd8⟩
      have hb8 := bcall hb7H.out (hd8.below _)
      simp only
      go_wp2_with fail
      refine (awH.out _ hb8).mono ?_
      rintro e w9 ⟨rfl, hb9⟩
      go_wp2_with fail
      go_ret
      exact ⟨rfl, hb9⟩
end Go.Proofs.YtggfhjfebnhbjaaGreatDoor

/- The card of KernelTexts: for every input KernelTexts returns true and leaves its arguments as they were; the listed variables are tied to the program's text. No condition. -/
namespace Go.Proofs.YtggfhjfebnhbjaaGreatDoor
open Go Go.RowKit Go.ChangeShapes Go.WideShapes Go.ChangeAt

theorem kernelTexts_laid {W : World} : laidMetH Tryz.prog Rows.kernelTextsRow.laid W = laidMet Tryz.prog [("math/bits.deBruijn32tab", Rows.laid_math_bits_deBruijn32tab), ("math/bits.deBruijn64tab", Rows.laid_math_bits_deBruijn64tab), ("internal/strconv.uint64pow10", Lib.tabData .u64 Lib.pow10Tab), ("strconv.ErrRange", Rows.laid_strconv_ErrRange), ("strconv.ErrSyntax", Rows.laid_strconv_ErrSyntax)] W := by kernel_rfl
theorem kernelTexts_door (os : Os) (args : Array Value) : laidMetH Tryz.prog Rows.kernelTextsRow.laid ((World.doorLaid Tryz.prog 400 os).forCall (fun _ _ => 0) ⟨#[], args, []⟩).memory :=
  laidMetH_of_parts3 (fuel := 8) (laidMet_of_run' 8 (by kernel_rfl) (by kernel_rfl)) (by kernel_rfl) (by kernel_rfl)
set_option maxRecDepth 100000 in
theorem kernelTexts_lifted (os : Os) (started : os.Started) (H : Type) (enc : TypeId × Value → H) :
    ReturnsInHanded {} Tryz.checked os 6 .any (fun w args => (Rows.kernelTextsSpec.pre enc Tryz.prog Tryz.f6 [] false w args ∧ laidMetH Tryz.prog Rows.kernelTextsRow.laid w) ∧ sizedMet enc Tryz.prog Tryz.f6 (OpenSpec.ofChange Rows.kernelTextsSpec) false w args)
      (Rows.kernelTextsSpec.post enc Tryz.prog Tryz.f6 false true false false) := by
  refine handed_shaped_and (C := Tryz.checked) (X := fun w _ => laidMetH Tryz.prog Rows.kernelTextsRow.laid w) (fun _ _ _ hh h => h.of_heap hh) Tryz.own started (by kernel_rfl) Tryz.func6
    (ChangeSpec.witness_shaped (enc := enc) (C := Tryz.checked) (os := os) (X := fun w _ => laidMetH Tryz.prog Rows.kernelTextsRow.laid w) false (World.doorLaid Tryz.prog 400 os) #[.slice none 0 0, .string ByteArray.empty] 8 rfl (World.shaped_of_RefB (by kernel_rfl) (by kernel_rfl)) (by kernel_rfl) (by kernel_rfl) (by kernel_rfl) (kernelTexts_door os _)) ?_
  intro W base args ds gs before hsh hval0 hW _ _ hL _
  have hTab : TabW W := tabW_of_laid (n1 := _) (n2 := _) (d1 := _) (d2 := _) (rest := _) (Eq.mp kernelTexts_laid hL)
  have hLib : LibW W := lib_of_laid (n1 := _) (n2 := _) (n3 := _) (d1 := _) (d2 := _) (d3 := _) (d4 := _) (d5 := _) (rest := _) hsh hTab (Eq.mp kernelTexts_laid hL)
  clear hL
  have hval : ∀ (j : Nat) t v, Tryz.f6.params[j]? = some t → args[j]? = some v → Value.okWide Tryz.prog W .any base t v := hval0
  have hW' := hW
  obtain ⟨p, q, hA0, hV, rfl, hfz, hnd⟩ := hW
  have hA : DataW.TrodAll enc Tryz.prog W 0 (fun _ => true) true Tryz.f6.params.toList args.toList ds p := hA0
  rw [Tryz.params6] at hA hval
  obtain ⟨v0, v1, d0, d1, p0, p1, rfl, rfl, rfl, h0, h1⟩ := trodAll_two hA
  obtain ⟨rfl, rfl⟩ := trodVars_none hV
  clear hA0 hval0
  simp only [List.append_nil] at hW'
  have hlt : ∀ x ∈ p0 ++ p1, x.block < W.heap.size := fun x hx => hW'.lt x (by simpa using hx)
  have keep0 := fun (W' : World) (hn : Below W.heap.size W W') => Below.trod Tryz.laidOut (by kernel_rfl) (of_decide_eq_true (by kernel_rfl)) h0 hn (fun x hx => hlt x (by simp [hx]))
  have keep1 := fun (W' : World) (hn : Below W.heap.size W W') => Below.trod Tryz.laidOut (by kernel_rfl) (of_decide_eq_true (by kernel_rfl)) h1 hn (fun x hx => hlt x (by simp [hx]))
  obtain ⟨l0, a0, c0, rfl, r0⟩ := gSteps.arg h0 (okWide_slice Tryz.underlying25 (hval 0 25 v0 rfl rfl))
  obtain ⟨s1, rfl, rfl, rfl, ws1⟩ := ChangeMaps.open_string Tryz.underlying9 (hval 1 9 v1 rfl rfl) h1
  refine (KernelTexts_walk _ _ _ _ W r0 hLib).mono fun e W' ⟨he, hB⟩ => ?_
  subst he
  exact ⟨_, rfl, _, _, _, [], _, [], hW', trodAll_mk1 (shut_bool Tryz.underlying4 true), trodAll_mk2 (keep0 _ hB) (keep1 _ hB), rfl, hB.frame _, fun h => by cases h⟩

/-- KernelTexts: for every input it returns true, and each argument reads as it did. -/
theorem kernelTexts_holds : Rows.KernelTextsSaid :=
  OpenClaim.holds_of_wide 6 Tryz.f6 rfl rfl rfl rfl rfl rfl rfl ⟨rfl, rfl, rfl, rfl, rfl⟩ rfl rfl rfl rfl rfl (by kernel_rfl) Tryz.func6 (by kernel_rfl)
    (of_decide_eq_true (by kernel_rfl)) (by unfold Func.isWrapper; first | (rw [if_pos (by decide +kernel)]; kernel_rfl) | (rw [if_neg (by decide +kernel)]; exact ⟨rfl, rfl⟩))
    (fun os started H enc _ => kernelTexts_lifted os started H enc)
/-- the card of KernelTexts -/
theorem kernelTexts_card_holds : Rows.KernelTextsCardSaid :=
  Claim7.holds_tied_plain_at .later [] [.data, .data, .data, .sentinel, .sentinel] true Rows.kernelTextsCard.stood.harness Rows.kernelTextsCard.stood.looks
    kernelTexts_holds (fun _ h => by cases h) (by kernel_rfl) (fun _ h => by cases h) kernelTexts_row_tie rfl ⟨rfl, rfl⟩ (by kernel_rfl) rfl
    (fun f fn hf hfn => by
      obtain rfl : f = 6 := Option.some.inj ((show Tryz.prog.funcNamed Rows.kernelTextsRow.func = some 6 by kernel_rfl).symm.trans hf) |>.symm
      obtain rfl : fn = Tryz.f6 := (Option.some.inj (Tryz.func6.symm.trans hfn)).symm
      exact ⟨by kernel_rfl, fun j t ht => by
        rw [Tryz.params6] at ht
        have hm : t ∈ [25, 9] := by simpa using Array.mem_of_getElem? ht
        have hall : ([25, 9].all fun u => !Tryz.prog.wantsStandIn u) = true := by kernel_rfl
        exact (show Tryz.prog.wantsStandIn t = false by simpa using List.all_eq_true.1 hall t hm)⟩)
    (by kernel_rfl)
end Go.Proofs.YtggfhjfebnhbjaaGreatDoor
