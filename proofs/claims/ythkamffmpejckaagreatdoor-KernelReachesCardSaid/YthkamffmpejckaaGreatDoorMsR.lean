/- The proof of a statement, some of its texts joined in build order: part R. -/
import Derived.Test.YthkamffmpejckaaGreatDoorMsA
import Derived.Test.YthkamffmpejckaaGreatDoorMsI
import Derived.RegionIn
import Derived.OwnWalkIn
import Derived.Test.YthkamffmpejckaaGreatDoorWalkH
/- Each thing follows from itself: what the proof of the laws on kernel says, in plain words. No program is named. -/
namespace Go.Proofs.YthkamffmpejckaaGreatDoor

/-- a unifier through which all others go gives what the most general one gives -/
theorem uniE_by {s : Sg} (hok : okSign s = true) {a b : List Int} (ha : W1 s a) (hb : W1 s b) (ra : Rg a) (rb : Rg b) {ξ : Int → List Int} (hξ : Wsub s ξ) (he : ap ξ a = ap ξ b)
    (hm : ∀ η, Wsub s η → ap η a = ap η b → ∀ n, n < 0 → ap η (ξ n) = η n) (t : List Int) : uniE s a b t = madeE ξ t := by
  obtain ⟨θ, hθ⟩ := mgu_ex hok ha hb ra rb hξ he
  have e2 : ap θ (ap ξ t) = ap θ t := by rw [ap_ap]; exact ap_congr (fun n _ hn => hm θ hθ.th hθ.eq n hn)
  obtain ⟨c1, c2, c3⟩ := canon_two hθ.th hξ (u1 := ap θ t) (u2 := ap ξ t) (hθ.most hξ he t) e2
  rw [uniE_some hθ]
  unfold madeE
  rw [c1, c2, c3]
def aw4S : Sg := [(⟨#[67]⟩, 2)]
def aw4K : List Int := [0, -1, 0, -2, -1]
def aw4C : List Int := [0, 0, -1, 0, -2, -3, 0, 0, -1, -2, 0, -1, -3]
def aw4G : List (List Int) := [aw4K, aw4C]
def aw4P : List Stp := [(1, 1, 0), (1, 0, 0), (2, 0, 1), (2, 2, 1)]
def aw4D : List Int := [0, 0, -1, -2, 0, -1, -1]
theorem aw4_unt : untE 2 ⟨#[68, 68, 103, 48, 49, 103, 48, 48, 103, 48, 48]⟩ = (aw4P, 0) := by decide +kernel
theorem aw4_one : detE aw4S aw4C aw4K = (aw4D, 0) := by
  have hC : okT aw4S aw4C = true := by decide +kernel
  have hK : okT aw4S aw4K = true := by decide +kernel
  have hA : W1 aw4S [0, -1, 0, -2, -3] := by unfold W1; decide +kernel
  have hA' : okT aw4S [0, -1, 0, -2, -3] = true := by decide +kernel
  rw [detE_at hC hK (A := [0, -1, 0, -2, -3]) (B := [0, 0, -1, -2, 0, -1, -3]) rfl hA]
  have hξ : Wsub aw4S (fun n => if n = -13 then [-1] else if n = -14 then [-2] else if n = -3 then [-1] else [n]) := fun n hn => by
    show W1 aw4S (if n = -13 then [-1] else if n = -14 then [-2] else if n = -3 then [-1] else [n])
    split
    · exact W1.var (by decide)
    · split
      · exact W1.var (by decide)
      · split
        · exact W1.var (by decide)
        · exact W1.var hn
  rw [uniE_by (okT_parts hC).1 hA (apartT_w (okT_w1 hK)) (okT_Rg hA') (apartT_rg hK) hξ (by decide +kernel) (fun η hw he n hn => ?_)]
  · decide +kernel
  · have e1 : ap η [0, -1, 0, -2, -3] = 0 :: (η (-1) ++ (0 :: (η (-2) ++ η (-3)))) := by
      rw [ap_pos (by decide), ap_neg (by decide), ap_pos (by decide), ap_neg (by decide), ap_one (by decide)]
    have e2 : ap η (apartT aw4K) = 0 :: (η (-13) ++ (0 :: (η (-14) ++ η (-13)))) := by
      show ap η [0, -13, 0, -14, -13] = _
      rw [ap_pos (by decide), ap_neg (by decide), ap_pos (by decide), ap_neg (by decide), ap_one (by decide)]
    rw [e1, e2] at he
    obtain ⟨q1, q2⟩ := W1.uniq (hw _ (by decide)) (hw _ (by decide)) (List.cons.inj he).2
    obtain ⟨q3, q4⟩ := W1.uniq (hw _ (by decide)) (hw _ (by decide)) (List.cons.inj q2).2
    show ap η (if n = -13 then [-1] else if n = -14 then [-2] else if n = -3 then [-1] else [n]) = η n
    split
    · rename_i h; subst h; rw [ap_one (by decide), q1]
    · split
      · rename_i h; subst h; rw [ap_one (by decide), q3]
      · split
        · rename_i h; subst h; rw [ap_one (by decide), q4, q1]
        · rw [ap_one hn]
theorem aw4_last : detE aw4S aw4D aw4K = ([0, -1, -1], 0) := by
  have hC : okT aw4S aw4D = true := by decide +kernel
  have hK : okT aw4S aw4K = true := by decide +kernel
  have hA : W1 aw4S [0, -1, -2] := by unfold W1; decide +kernel
  have hA' : okT aw4S [0, -1, -2] = true := by decide +kernel
  rw [detE_at hC hK (A := [0, -1, -2]) (B := [0, -1, -1]) rfl hA]
  have hξ : Wsub aw4S (fun n => if n = -13 then [-1] else if n = -2 then [0, -14, -1] else [n]) := fun n hn => by
    show W1 aw4S (if n = -13 then [-1] else if n = -2 then [0, -14, -1] else [n])
    split
    · exact W1.var (by decide)
    · split
      · unfold W1; decide +kernel
      · exact W1.var hn
  rw [uniE_by (okT_parts hC).1 hA (apartT_w (okT_w1 hK)) (okT_Rg hA') (apartT_rg hK) hξ (by decide +kernel) (fun η hw he n hn => ?_)]
  · decide +kernel
  · have e1 : ap η [0, -1, -2] = 0 :: (η (-1) ++ η (-2)) := by
      rw [ap_pos (by decide), ap_neg (by decide), ap_one (by decide)]
    have e2 : ap η (apartT aw4K) = 0 :: (η (-13) ++ (0 :: (η (-14) ++ η (-13)))) := by
      show ap η [0, -13, 0, -14, -13] = _
      rw [ap_pos (by decide), ap_neg (by decide), ap_pos (by decide), ap_neg (by decide), ap_one (by decide)]
    rw [e1, e2] at he
    obtain ⟨q1, q2⟩ := W1.uniq (hw _ (by decide)) (hw _ (by decide)) (List.cons.inj he).2
    show ap η (if n = -13 then [-1] else if n = -2 then [0, -14, -1] else [n]) = η n
    split
    · rename_i h; subst h; rw [ap_one (by decide), q1]
    · split
      · rename_i h; subst h
        rw [ap_pos (by decide), ap_neg (by decide), ap_one (by decide), q2, q1]
      · rw [ap_one hn]
theorem aw4_says : saysE aw4S aw4G aw4P = ([0, -1, -1], 0) := by
  have h1 : stepE aw4S aw4G [] (1, 1, 0) = (aw4C, 0) := by unfold stepE; rw [if_pos rfl]; decide +kernel
  have h2 : stepE aw4S aw4G [aw4C] (1, 0, 0) = (aw4K, 0) := by unfold stepE; rw [if_pos rfl]; decide +kernel
  have h3 : stepE aw4S aw4G [aw4C, aw4K] (2, 0, 1) = (aw4D, 0) := by unfold stepE; rw [if_neg (by decide)]; exact aw4_one
  have h4 : stepE aw4S aw4G [aw4C, aw4K, aw4D] (2, 2, 1) = ([0, -1, -1], 0) := by unfold stepE; rw [if_neg (by decide)]; exact aw4_last
  have hr : runL aw4S aw4G aw4P [] = ([aw4C, aw4K, aw4D, [0, -1, -1]], 0) := by
    unfold aw4P
    rw [runL, h1, if_pos rfl, List.nil_append, runL, h2, if_pos rfl, List.cons_append, List.nil_append, runL, h3, if_pos rfl, List.cons_append, List.cons_append, List.nil_append, runL, h4, if_pos rfl, runL]
    rfl
  unfold saysE
  rw [if_pos (by decide +kernel), hr]
  rfl
end Go.Proofs.YthkamffmpejckaaGreatDoor

/- Walks of package kernel: run. -/
namespace Go.Proofs.YthkamffmpejckaaGreatDoor
open Go Go.RowKit Go.Maps Go.Shelf

attribute [local go_sem] Oper.semAt_some

theorem run_of_told {s : Sg} {g : List (List Int)} : ∀ (p : List Stp) (l : List (List Int)), (∀ y ∈ toldL s g p l, y.2 = 0) → runL s g p l = (l ++ (toldL s g p l).map Prod.fst, 0)
  | [], l, _ => by simp [runL, toldL]
  | x :: p, l, h => by
    rw [toldL] at h ⊢
    have hx := h (stepE s g l x) (by simp)
    rw [if_pos hx] at h ⊢
    rw [runL, if_pos hx, run_of_told p _ (fun y hy => h y (by simp [hy]))]
    simp
theorem run_of_stop {s : Sg} {g : List (List Int)} : ∀ (p : List Stp) (l : List (List Int)) (pre : List (List Int × Int)) (x : List Int × Int), pre ++ [x] <+: toldL s g p l → (∀ y ∈ pre, y.2 = 0) → x.2 ≠ 0 → runL s g p l = (l ++ pre.map Prod.fst, x.2)
  | [], l, pre, x, h, _, _ => by simp [toldL] at h
  | z :: p, l, [], x, h, _, hx => by
    rw [toldL, List.nil_append] at h
    have e := (List.cons_prefix_cons.1 h).1
    rw [runL, ← e, if_neg hx]
    simp
  | z :: p, l, y :: pre, x, h, hp, hx => by
    rw [toldL, List.cons_append] at h
    obtain ⟨e, h2⟩ := List.cons_prefix_cons.1 h
    have hy := hp y (by simp)
    rw [← e, if_pos hy] at h2
    rw [runL, ← e, if_pos hy, run_of_stop p _ pre x h2 (fun w hw => hp w (by simp [hw])) hx]
    simp

set_option maxHeartbeats 1000000 in
theorem steps_in (n : Nat) (a1 a2 a3 : Option Addr) (l1 l2 l3 c1 c2 c3 : Nat) (w : World) :
    CallsIn Fence.wide n Tryz.prog 59 #[.slice a1 l1 c1, .slice a2 l2 c2, .slice a3 l3 c3] w fun e w' => e = .returned (.func (.func 90) #[] #[.pointer (some ⟨w.heap.size, 0, none⟩), .pointer (some ⟨w.heap.size + 1, 0, none⟩), .pointer (some ⟨w.heap.size + 1 + 1, 0, none⟩)]) ∧
      w' = ((w.alloc (.cells #[.slice a1 l1 c1] 23)).alloc (.cells #[.slice a2 l2 c2] 24)).alloc (.cells #[.slice a3 l3 c3] 25) := by
  have hro : Fence.wide.round = none := rfl
  refine callsIn_of_wp Tryz.func59 rfl trivial ?_ hro
  simp only [Tryz.ntmps59, List.size_toArray, List.length_cons, List.length_nil, Nat.reduceAdd, Nat.reduceSub, Array.replicate_succ, Array.replicate_zero, List.push_toArray, List.append_toArray, List.nil_append, List.cons_append]
  gi_wp2
  go_ret
  exact ⟨rfl, rfl⟩
theorem steps_seq (n sb gb pb B0 : Nat) (a1 ag ap : Option Addr) (c1 cg cp : Nat) (s : Sg) (g : List (List Int)) (p : List Stp) (w : World) (hg : ∀ t ∈ g, okT s t = true) (hp : okSteps g.length 0 p = true) (hlp : p.length ≤ 60) (hrow : RowLt B0 w)
    (hcs : w.cell? ⟨sb, 0, none⟩ = some (.slice a1 s.length c1)) (hss : Safe B0 w sb) (hcg : w.cell? ⟨gb, 0, none⟩ = some (.slice ag g.length cg)) (hsg : Safe B0 w gb) (hcp : w.cell? ⟨pb, 0, none⟩ = some (.slice ap p.length cp)) (hsp : Safe B0 w pb)
    (hsig : Sign (Safe B0 w) w a1 c1 s) (hgiv : Terms (Safe B0 w) w ag cg g) (hprf : Steps (Safe B0 w) w ap cp p) :
    SeqRelG Fence.wide n Tryz.prog 90 #[.pointer (some ⟨sb, 0, none⟩), .pointer (some ⟨gb, 0, none⟩), .pointer (some ⟨pb, 0, none⟩)] Td.enc TdR (Kp B0) (Rw B0) (fun xs => xs.map Td.pt = toldL s g p []) (fun pre => pre.map Td.pt <+: toldL s g p []) p.length w := fun l J Jx W hW hJ _ hY h0 => by
  have hl := Leaves.of_below hrow.1 hW
  exact steps1_in n l sb gb pb B0 a1 ag ap c1 cg cp s g p J Jx W (fun pre A A' row h hg hr => hJ pre A A' row h hg (fun r e => by obtain ⟨g1, o, g2, g3⟩ := hr r e; exact ⟨g1, o, g2, .inr g3⟩))
    (fun m pre x A h1 h2 h3 => YieldAt.wideAny m (hY pre x A h1 h2 h3)) hg hp hlp (hl.lt hrow) (hl.cell hss hcs) (hl.safe hss) (hl.cell hsg hcg) (hl.safe hsg) (hl.cell hsp hcp) (hl.sl hsig) (hl.sl hgiv) (hl.sl hprf) h0

/-- what a round of run leaves -/
def runI (w : World) (R0 R1 B0 : Nat) (pre : List Td) (W : World) : Prop :=
  (∀ x ∈ pre, x.e = 0) ∧ TBox W B0 B0 (pre.map Td.t) ∧ Below w.heap.size w W ∧ Boxed W R0 24 (.slice none 0 0) ∧ Boxed W R1 29 (.int .i64 0)
/-- what run leaves where it stops early -/
def runX (w : World) (R0 R1 B0 : Nat) (pre : List Td) (W : World) : Prop :=
  ∃ pre0 x v, pre = pre0 ++ [x] ∧ (∀ y ∈ pre0, y.e = 0) ∧ x.e ≠ 0 ∧ Below w.heap.size w W ∧ Boxed W R0 24 v ∧ Boxed W R1 29 (.int .i64 x.e) ∧ Boxed W B0 24 v ∧ OwnTT W B0 v (pre0.map Td.t)
theorem keep_rows {B0 : Nat} {W W' : World} {row : Option Nat} {d : Nat} (hg : W.grownBy W' row) (hr : ∀ r, row = some r → d ≤ r ∧ ∃ o : Obj, W.heap[r]? = some o ∧ (o.isCells = false ∨ Rw B0 W r o)) :
    IntKeep W W' ∧ (∀ b, b < d → b < W.heap.size → W'.heap[b]? = W.heap[b]?) ∧ (CellsAt W B0 → W'.heap[B0]? = W.heap[B0]?) ∧ (∀ k, rowOf B0 W = some k → CellsAt W k → W'.heap[k]? = W.heap[k]?) := by
  refine ⟨.of_grown hg (fun r e hi => ?_), fun b hb hlt => hg.block b hlt (fun e => by have := (hr b e.symm).1; omega), fun hc => hg.block B0 hc.lt (fun e => ?_), fun k hk hc => hg.block k hc.lt (fun e => ?_)⟩
  · obtain ⟨-, o, g2, g3⟩ := hr r e
    obtain ⟨cs, hi⟩ := hi
    rw [hi] at g2
    cases g2
    rcases g3 with g3 | ⟨cs', t, g4, g5, -⟩
    · cases g3
    · simp only [Obj.cells.injEq] at g4; exact g5 g4.2.1.symm
  · obtain ⟨-, o, g2, g3⟩ := hr B0 e.symm
    obtain ⟨o', h1, h2⟩ := hc
    rw [g2] at h1
    cases h1
    rcases g3 with g3 | ⟨cs', t, g4, g5, g6, -⟩
    · rw [h2] at g3; cases g3
    · exact g6 rfl
  · obtain ⟨-, o, g2, g3⟩ := hr k e.symm
    obtain ⟨o', h1, h2⟩ := hc
    rw [g2] at h1
    cases h1
    rcases g3 with g3 | ⟨cs', t, g4, g5, g6, g7⟩
    · rw [h2] at g3; cases g3
    · exact g7 hk.symm
theorem runI_own {w : World} {R0 R1 B0 d : Nat} (hB : w.heap.size ≤ d) (h0 : R0 < d) (h1 : R1 < d) : OwnRows (Rw B0) d (runI w R0 R1 B0) := by
  rintro pre W W' row ⟨i1, i2, i3, i4, i5⟩ hg hr
  obtain ⟨k1, k2, k3, k4⟩ := keep_rows hg hr
  refine ⟨i1, i2.keep (k3 ?_) (fun r e => k4 r e ?_) k1, i3.grown hg i3.size (fun j e => Nat.le_trans hB (hr j e).1), (k2 R0 h0 i4.lt).trans i4, (k2 R1 h1 i5.lt).trans i5⟩
  · obtain ⟨cur, hc⟩ := i2.boxCells; exact ⟨_, hc, rfl⟩
  · obtain ⟨-, -, cur, hc⟩ := i2.rowCells r e; exact ⟨_, hc, rfl⟩
theorem runX_own {w : World} {R0 R1 B0 d : Nat} (hB : w.heap.size ≤ d) (h0 : R0 < d) (h1 : R1 < d) : OwnRows (Rw B0) d (runX w R0 R1 B0) := by
  rintro pre W W' row ⟨pre0, x, v, i1, i2, i3, i4, i5, i6, i7, i8⟩ hg hr
  obtain ⟨k1, k2, k3, k4⟩ := keep_rows hg hr
  have hT : TBox W B0 B0 (pre0.map Td.t) := ⟨v, i7, i8⟩
  have hrw : ∀ k, v.ownBlock = some k → rowOf B0 W = some k := fun k hk => by rw [rowOf_boxed i7]; exact hk
  exact ⟨pre0, x, v, i1, i2, i3, i4.grown hg i4.size (fun j e => Nat.le_trans hB (hr j e).1), (k2 R0 h0 i5.lt).trans i5, (k2 R1 h1 i6.lt).trans i6, (k3 ⟨_, i7, rfl⟩).trans i7,
    OwnTT.keep i8 (fun k hk => k4 k (hrw k hk) (by obtain ⟨-, -, cur, hc⟩ := hT.rowCells k (hrw k hk); exact ⟨_, hc, rfl⟩)) k1⟩
theorem a24 (w : World) : (isAgg 24).run Tryz.prog w = .ok false w := by kernel_rfl
theorem aErr (w : World) : (isAgg 29).run Tryz.prog w = .ok false w := by kernel_rfl
theorem run_results {tmps : Array Value} {w : World} {b6 b7 : Nat} {v e : Value} (h6 : tmps.getD 6 undef = .pointer (some ⟨b6, 0, none⟩)) (h7 : tmps.getD 7 undef = .pointer (some ⟨b7, 0, none⟩)) (c6 : w.cell? ⟨b6, 0, none⟩ = some v) (c7 : w.cell? ⟨b7, 0, none⟩ = some e) :
    (results Tryz.f31 tmps).run Tryz.prog w = .ok (.tuple #[v, e]) w := by

  have h6' : tmps[6]?.getD undef = .pointer (some ⟨b6, 0, none⟩) := by simpa using h6
  have h7' : tmps[7]?.getD undef = .pointer (some ⟨b7, 0, none⟩) := by simpa using h7
  simp [results, h6', h7', loadVar, go_sem, c6, c7]
theorem run_fin {w W : World} {D : Nat} {v : Value} {L : List (List Int)} {e : Int} {tmps : Array Value} (hD : w.heap.size + 1 < D) (hK : W.heap[D]? = some (.deferred (some []))) (e0 : Boxed W w.heap.size 24 v) (e1 : Boxed W (w.heap.size + 1) 29 (.int .i64 e)) (ho : OwnTT W (w.heap.size + 1 + 1) v L) (hB : Below w.heap.size w W)
    (h6 : tmps.getD 6 undef = .pointer (some ⟨w.heap.size, 0, none⟩)) (h7 : tmps.getD 7 undef = .pointer (some ⟨w.heap.size + 1, 0, none⟩)) :
    ∃ x, (results Tryz.f31 tmps).run Tryz.prog (W.putObj D (.deferred none)) = .ok x (W.putObj D (.deferred none)) ∧ retTE (L, e) w (.returned x) (W.putObj D (.deferred none)) := by
  have hg := grownBy_putObj' W D (.deferred none)
  refine ⟨_, run_results h6 h7 (e0.kept hg (fun h => by injection h with h; omega)).cell (e1.kept hg (fun h => by injection h with h; omega)).cell, v, rfl, OwnL.baseMono (OwnL.putObj ho hK rfl (celled_sl celled_int)) (by omega), ?_⟩
  exact hB.trans (belowK_b (w := w) (Nat.le_refl _) W D _ _ (by omega) hK rfl rfl)
/-- the variable of a round -/
def Boxed2 (W : World) (tb : Nat) (x : Td) : Prop := W.heap[tb]? = some (.cells #[.slice x.ap x.t.length x.cp, .int .i64 x.e] 84 (0, 0))
set_option maxRecDepth 100000 in
set_option maxHeartbeats 1000000 in
theorem krun_any {S1 S2 S3 : Nat → Prop} (a1 ag ap : Option Addr) (c1 cg cp : Nat) (s : Sg) (g : List (List Int)) (p : List Stp) (w : World) (h1 : Sign S1 w a1 c1 s) (h2 : Terms S2 w ag cg g) (h3 : Steps S3 w ap cp p) (hg : ∀ t ∈ g, okT s t = true) (hp : okSteps g.length 0 p = true) (hlp : p.length ≤ 60) :
    Calls Tryz.prog 31 #[.slice a1 s.length c1, .slice ag g.length cg, .slice ap p.length cp] w (retTE (runL s g p []) w) := by
  have m1 := h1.le
  have m2 := h2.le
  have m3 := h3.le
  have h1H := Lib.hid h1.lt
  have h2H := Lib.hid h2.lt
  have h3H := Lib.hid h3.lt
  have hgH := Lib.hid hg
  have hpH := Lib.hid hp
  clear h1 h2 h3 hg hp
  refine (callsIn_wide (n := 6)).1 ?_
  refine callsIn_of_wp_marks Tryz.func31 rfl trivial ?_ rfl
  simp only [Tryz.ntmps31, List.size_toArray, List.length_cons, List.length_nil, Nat.reduceAdd, Nat.reduceSub, Array.replicate_succ, Array.replicate_zero, List.push_toArray, List.append_toArray, List.nil_append, List.cons_append]
  gi_wp2_with fail
  refine ⟨trivial, ?_⟩
  gi_at_call 59
  refine (steps_in _ _ _ _ _ _ _ _ _ _ _).mono ?_
  rintro e w' ⟨rfl, rfl⟩
  gi_wp2_with fail
  obtain ⟨W0, hW0⟩ : ∃ W0, (((((w.alloc (.cells #[.slice none 0 0] 24)).alloc (.cells #[.int .i64 0] 29)).alloc (.cells #[.slice none 0 0] 24)).alloc (.cells #[.slice a1 s.length c1] 23)).alloc (.cells #[.slice ag g.length cg] 24)).alloc (.cells #[.slice ap p.length cp] 25) = W0 := ⟨_, rfl⟩
  obtain ⟨w2, hw2⟩ : ∃ w2, (w.alloc (.cells #[.slice none 0 0] 24)).alloc (.cells #[.int .i64 0] 29) = w2 := ⟨_, rfl⟩
  have hz2 : w2.heap.size = w.heap.size + 1 + 1 := by rw [← hw2]; simp
  have hb2 : Below w.heap.size w w2 := by rw [← hw2]; exact below2 _ _ _
  have hR0 : Boxed w2 w.heap.size 24 (.slice none 0 0) := by rw [← hw2]; exact (Boxed.new w 24 _).alloc _
  have hR1 : Boxed w2 (w.heap.size + 1) 29 (.int .i64 0) := by
    rw [← hw2]
    have := Boxed.new (w.alloc (.cells #[.slice none 0 0] 24)) 29 (.int .i64 0)
    rw [World.size_alloc] at this; exact this
  have hW0' : (((w2.alloc (.cells #[.slice none 0 0] 24)).alloc (.cells #[.slice a1 s.length c1] 23)).alloc (.cells #[.slice ag g.length cg] 24)).alloc (.cells #[.slice ap p.length cp] 25) = W0 := by rw [← hw2]; exact hW0
  have hb20 : Below w2.heap.size w2 W0 := by
    rw [← hW0']
    exact ((((Below.refl _ w2).alloc (by simp) _).alloc (by simp <;> omega) _).alloc (by simp <;> omega) _).alloc (by simp <;> omega) _
  have hbW : Below w.heap.size w W0 := bcall hb2 hb20
  have hbox : TBox W0 w2.heap.size w2.heap.size [] := by
    rw [← hW0']
    exact (TBox.new w2).below (below3 _ _ _ _)
  have cB : W0.cell? ⟨w2.heap.size, 0, none⟩ = some (.slice none 0 0) := by rw [← hW0']; clear hW0' hW0; go_simp
  have hcs : W0.cell? ⟨w2.heap.size + 1, 0, none⟩ = some (.slice a1 s.length c1) := by rw [← hW0']; clear hW0' hW0; go_simp
  have hcg : W0.cell? ⟨w2.heap.size + 1 + 1, 0, none⟩ = some (.slice ag g.length cg) := by rw [← hW0']; clear hW0' hW0; go_simp
  have hcp : W0.cell? ⟨w2.heap.size + 1 + 1 + 1, 0, none⟩ = some (.slice ap p.length cp) := by rw [← hW0']; clear hW0' hW0; go_simp
  have hz0 : W0.heap.size = w2.heap.size + 1 + 1 + 1 + 1 := by rw [← hW0']; simp
  have hr0 : rowOf w2.heap.size W0 = none := by unfold rowOf; rw [cB]; rfl
  have hsafe : ∀ b, b ≠ w2.heap.size → CellsAt W0 b → Safe w2.heap.size W0 b := fun b hb hc => ⟨hb, by rw [hr0]; simp, hc⟩
  have hsig : Sign (Safe w2.heap.size W0) W0 a1 c1 s := (Sign.cellsAt (h1H.out.below hbW)).weak (fun b hb => hsafe b (by have := hb.1.2; omega) hb.2)
  have hgiv : Terms (Safe w2.heap.size W0) W0 ag cg g := (Terms.cellsAt (h2H.out.below hbW)).weak (fun b hb => hsafe b (by have := hb.1.2; omega) hb.2)
  have hprf : Steps (Safe w2.heap.size W0) W0 ap cp p := (Sl.cellsAt (fun _ _ _ _ h => h) (h3H.out.below hbW)).weak (fun b hb => hsafe b (by have := hb.1.2; omega) hb.2)
  have hseq := steps_seq (6 - 1) (w2.heap.size + 1) (w2.heap.size + 1 + 1) (w2.heap.size + 1 + 1 + 1) w2.heap.size a1 ag ap c1 cg cp s g p W0 hgH.out hpH.out hlp hbox.rowLt hcs (hsafe _ (by omega) (.of_cell hcs)) hcg (hsafe _ (by omega) (.of_cell hcg)) hcp (hsafe _ (by omega) (.of_cell hcp)) hsig hgiv hprf
  have hI0 : runI w w.heap.size (w.heap.size + 1) w2.heap.size [] W0 := ⟨(fun x h => by cases h), hbox, hbW, (hb20.block _ hR0.lt).trans hR0, (hb20.block _ hR1.lt).trans hR1⟩
  rw [hz2] at hseq hI0 hz0
  have hI0H := Lib.hid hI0
  rw [hW0]
  clear hI0 hbox hsig hgiv hprf hsafe hr0 hcs hcg hcp cB hbW hb20 hR0 hR1 hb2 hW0 hW0' hw2 hz2
  refine range_relG rfl (by omega) (gf := 90) (lb := #[.pointer (some ⟨(w.heap.size + 1 + 1) + 1, 0, none⟩), .pointer (some ⟨(w.heap.size + 1 + 1) + 1 + 1, 0, none⟩), .pointer (some ⟨(w.heap.size + 1 + 1) + 1 + 1 + 1, 0, none⟩)]) rfl trivial (enters_of Tryz.func90 (by kernel_rfl) rfl)
    hseq (fun W r o h => by obtain ⟨cs, t, rfl, -⟩ := h; rfl) (fun h k => h.trans k) (fun W l o o' hl h hc _ => ⟨Leaves.putObj (by omega) h hc, IntKeep.putObj h hc⟩) (Below.refl _ _) Td.size
    (runI w w.heap.size (w.heap.size + 1) (w.heap.size + 1 + 1))
    (fun c pre W => c = .ret ∧ runX w w.heap.size (w.heap.size + 1) (w.heap.size + 1 + 1) pre W)
    (runI_own (by omega) (by omega) (by omega))
    (fun c pre W W' row hs hgr hr => ⟨hs.1, runX_own (by omega) (by omega) (by omega) pre W W' row hs.2 hgr hr⟩)
    hI0H.out
    (fun x a' W => ∃ tb, Boxed2 W tb x ∧ TdR x W ∧ a' = { tmps := #[.slice a1 s.length c1, .slice ag g.length cg, .slice ap p.length cp, undef, undef, undef, .pointer (some ⟨w.heap.size, 0, none⟩), .pointer (some ⟨w.heap.size + 1, 0, none⟩), .pointer (some ⟨(w.heap.size + 1 + 1), 0, none⟩), .pointer (some ⟨tb, 0, none⟩),
          .slice a1 s.length c1, .slice ag g.length cg, .slice ap p.length cp, .func (.func 90) #[] #[.pointer (some ⟨(w.heap.size + 1 + 1) + 1, 0, none⟩), .pointer (some ⟨(w.heap.size + 1 + 1) + 1 + 1, 0, none⟩), .pointer (some ⟨(w.heap.size + 1 + 1) + 1 + 1 + 1, 0, none⟩)], .agg #[.slice x.ap x.t.length x.cp, .int .i64 x.e], undef, undef, undef, undef, undef, undef, undef, undef, undef, undef, undef, undef], defers := [] })
    (fun x a' => ?hAx) ?assign ?body ?done ?stop
  case hAx =>
    rintro s' A A' row ⟨tb, h2, h3, h4⟩ hg hr
    have hk : IntKeep A A' := .of_grown hg (fun r e hi => by
      obtain ⟨-, o, g2, g3⟩ := hr r e
      obtain ⟨cs, hi⟩ := hi
      rw [hi] at g2; cases g2; cases g3)
    have htb : A'.heap[tb]? = A.heap[tb]? := hg.block tb (Array.getElem?_eq_some_iff.1 h2).1 (fun e => by
      obtain ⟨-, o, g2, g3⟩ := hr tb e.symm
      rw [show A.heap[tb]? = _ from h2] at g2; cases g2; cases g3)
    exact ⟨tb, htb.trans h2, ⟨h3.1.intKeep hk, h3.2⟩, h4⟩
  case assign =>
    intro l pre x W K hi hr hK
    dsimp only [Td.enc]
    gi_wp2
    refine hK _ _ ((KeepsOthers.alloc W _).from _) ⟨Leaves.of_below hi.2.1.lt (below1 W _), .of_below (below1 W _)⟩ (runI_own (d := W0.heap.size) (by omega) (by omega) (by omega) pre W _ none hi (World.grownBy_alloc W _ none) (fun r e => by cases e)) ⟨W.heap.size, World.alloc_heap_new W _, ⟨hr.1.intKeep (.of_below (below1 W _)), hr.2⟩, ?_⟩
    rfl
  case body =>
    rintro l pre x a' W - - ⟨i1, i2, i3, i4, i5⟩ ⟨tb, hb, hR, rfl⟩ hlen
    have c1 : W.cell? ⟨tb, 1, none⟩ = some (.int .i64 x.e) := by simp [World.cell?, show W.heap[tb]? = _ from hb]
    have c0 : W.cell? ⟨tb, 0, none⟩ = some (.slice x.ap x.t.length x.cp) := by simp [World.cell?, show W.heap[tb]? = _ from hb]
    obtain ⟨L, hL⟩ : ∃ L, pre.map Td.t = L := ⟨_, rfl⟩
    rw [hL] at i2
    have hLl : L.length = pre.length := by rw [← hL, List.length_map]
    have hLlH := Lib.hid hLl
    clear hLl
    by_cases he : x.e = 0
    · have heb : (x.e != 0) = false := by simpa using he
      obtain ⟨vL, a', cap, W9, k1, k2, k3, k4, k5, k6, k7, k8, k9, k10, k11⟩ := i2.push (Nat.le_of_lt i2.lt) (.refl _ _) hR.1 (by rw [hLlH.out]; omega)
      have hnR : ∀ {r : Nat} {t : TypeId} {v : Value}, Boxed W r t v → t ≠ 34 → vL.ownBlock ≠ some r := fun hbx ht e => by
        obtain ⟨-, -, cur, hc⟩ := i2.rowCells _ (k8.out.trans e)
        rw [show W.heap[_]? = _ from hbx] at hc
        simp only [Option.some.injEq, Obj.cells.injEq] at hc
        exact ht hc.2.1
      have hrow : ∀ {r : Nat} {t : TypeId} {v : Value}, Boxed W r t v → t ≠ 34 → r ≠ (w.heap.size + 1 + 1) → Boxed (W9.setCell ⟨(w.heap.size + 1 + 1), 0, none⟩ (.slice a' (L.length + 1) cap)) r t v := fun hbx ht hne =>
        (k7.out.block _ (Nat.lt_of_lt_of_le hbx.lt k6.out.size) (fun e => hne (by injection e))).trans ((k6.out.block _ hbx.lt (fun e => hnR hbx ht e.symm)).trans hbx)
      have hfin : ∀ ac : Act, relPostG W0.heap.size (Kp (w.heap.size + 1 + 1)) (runI w w.heap.size (w.heap.size + 1) (w.heap.size + 1 + 1)) (fun c pre W => c = .ret ∧ runX w w.heap.size (w.heap.size + 1) (w.heap.size + 1 + 1) pre W) (pre ++ [x]) W .normal ac (W9.setCell ⟨(w.heap.size + 1 + 1), 0, none⟩ (.slice a' (L.length + 1) cap)) := by
        intro ac
        refine ⟨?_, ⟨⟨Nat.le_trans k6.out.size k7.out.size, fun b hb2 => ?_, ?_, fun _ => k5.out.rowLt⟩, k10.out⟩, ?_, ?_, ?_, hrow i4 (by decide) (by omega), hrow i5 (by decide) (by omega)⟩
        · refine ((KeepsOthers.of_grownBy k6.out (fun j o e ho => ?_)).trans (KeepsOthers.setCell _ _ _)).from _
          obtain ⟨-, -, cur, hc⟩ := i2.rowCells j (k8.out.trans e)
          rw [hc] at ho; cases ho; rfl
        · exact (k7.out.block b (Nat.lt_of_lt_of_le hb2.2.2.lt k6.out.size) (fun e => hb2.1 (by injection e))).trans (k6.out.block b hb2.2.2.lt (by rw [← k8.out]; exact hb2.2.1))
        · rw [k8.out]; exact k11.out
        · intro y hy
          rcases List.mem_append.1 hy with h | h
          · exact i1 y h
          · rw [List.mem_singleton] at h; rw [h]; exact he
        · rw [List.map_append, hL]; exact k5.out
        · exact (i3.grown k6.out i3.size (fun j e => by have := (i2.rowCells j (k8.out.trans e)).1; omega)).grown k7.out (Nat.le_trans i3.size k6.out.size) (fun j e => by cases e; omega)
      have hfinH := Lib.hid hfin
      have k1 := k1.out
      have k2 := k2.out
      have k3 := k3.out
      have k4 := k4.out
      clear hfin hrow hnR k5 k6 k7 k8 k9 k10 k11 i1 i2 i3 i4 i5 hb hL
      gi_wp2_with (gi_at_builtin; refine wpListIn_append_run rfl (.tmp 21) (.tmp 24) 24 rfl rfl rfl k2 ?_)
      exact hfinH.out _
    · have heb : (x.e != 0) = true := by simpa using he
      obtain ⟨vL0, hvL, hoL⟩ := i2
      obtain ⟨aL, cL, hvE, -⟩ := OwnL.sl hoL
      subst hvE
      have cB := hvL.cell
      have q0 := i4.cell
      have q1 := i5.cell
      have f0 := i4.frozen
      have f1 := i5.frozen
      have hn0 : ¬ tb = w.heap.size := fun e => by
        rw [e] at hb
        have h := i4
        unfold Boxed at h
        rw [show W.heap[w.heap.size]? = _ from hb] at h
        simp at h
      have hn1 : ¬ tb = w.heap.size + 1 := fun e => by
        rw [e] at hb
        have h := i5
        unfold Boxed at h
        rw [show W.heap[w.heap.size + 1]? = _ from hb] at h
        simp at h
      have hT : TBox W (w.heap.size + 1 + 1) (w.heap.size + 1 + 1) L := ⟨_, hvL, hoL⟩
      have hnR : ∀ {r : Nat} {t : TypeId} {v : Value}, Boxed W r t v → t ≠ 34 → (Value.slice aL L.length cL).ownBlock ≠ some r := fun hbx ht e => by
        obtain ⟨cur, hc⟩ := OwnL.rowCells hoL _ e
        rw [show W.heap[_]? = _ from hbx] at hc
        simp only [Option.some.injEq, Obj.cells.injEq] at hc
        exact ht hc.2.1
      obtain ⟨Wd, hWd⟩ : ∃ Wd, W.drew = Wd := ⟨_, rfl⟩
      obtain ⟨W3, hW3⟩ : ∃ W3, Wd.setCell ⟨w.heap.size, 0, none⟩ (.slice aL L.length cL) = W3 := ⟨_, rfl⟩
      have hbd : Below W.heap.size W Wd := by rw [← hWd]; exact (Below.refl _ _).drew
      have hg3 : Wd.grownBy W3 (some w.heap.size) := by rw [← hW3]; exact grownBy_setCell' _ _ _
      have hg4 : W3.grownBy (W3.setCell ⟨w.heap.size + 1, 0, none⟩ (.int .i64 x.e)) (some (w.heap.size + 1)) := grownBy_setCell' _ _ _
      have d4 : Boxed Wd w.heap.size 24 (.slice none 0 0) := (hbd.block _ i4.lt).trans i4
      have d5 : Boxed Wd (w.heap.size + 1) 29 (.int .i64 0) := (hbd.block _ i5.lt).trans i5
      have dB : Boxed Wd (w.heap.size + 1 + 1) 24 (.slice aL L.length cL) := (hbd.block _ hvL.lt).trans hvL
      have dO := OwnTT.keep hoL (fun k hk => hbd.block k (OwnL.lt hoL k hk).2) (.of_below hbd)
      have e4 : Boxed W3 w.heap.size 24 (.slice aL L.length cL) := by rw [← hW3]; exact d4.set _
      have e5 : Boxed W3 (w.heap.size + 1) 29 (.int .i64 0) := d5.kept hg3 (fun e => by injection e with e; omega)
      have eB : Boxed W3 (w.heap.size + 1 + 1) 24 (.slice aL L.length cL) := dB.kept hg3 (fun e => by injection e with e; omega)
      have eO := OwnTT.keep dO (fun k hk => hg3.block k (OwnL.lt dO k hk).2 (fun e => hnR i4 (by decide) (by rw [hk, e]))) (.of_grown hg3 (fun r e => by cases e; exact not_intB d4 (by decide)))
      have hfin : ∀ ac : Act, relPostG W0.heap.size (Kp (w.heap.size + 1 + 1)) (runI w w.heap.size (w.heap.size + 1) (w.heap.size + 1 + 1)) (fun c pre W => c = .ret ∧ runX w w.heap.size (w.heap.size + 1) (w.heap.size + 1 + 1) pre W) (pre ++ [x]) W .ret ac (W3.setCell ⟨w.heap.size + 1, 0, none⟩ (.int .i64 x.e)) := by
        intro ac
        refine ⟨?_, rfl, pre, x, _, rfl, i1, he, ?_, e4.kept hg4 (fun e => by injection e with e; omega), e5.set _, eB.kept hg4 (fun e => by injection e with e; omega), ?_⟩
        · refine ((KeepsOthers.of_grownBy (row := none) (Below.grow hbd) (fun j o e => by cases e)).trans (KeepsOthers.trans ?_ (KeepsOthers.setCell _ _ _))).from _
          rw [← hW3]; exact KeepsOthers.setCell _ _ _
        · exact ((i3.trans (hbd.mono i3.size)).grown hg3 (Nat.le_trans i3.size hbd.size) (fun j e => by cases e; omega)).grown hg4 (Nat.le_trans (Nat.le_trans i3.size hbd.size) hg3.size) (fun j e => by cases e; omega)
        · rw [hL]
          exact OwnTT.keep eO (fun k hk => hg4.block k (OwnL.lt eO k hk).2 (fun e => hnR i5 (by decide) (by rw [hk, e]))) (.of_grown hg4 (fun r e => by cases e; exact not_intB e5 (by decide)))
      have hfinH := Lib.hid hfin
      have hW3H := Lib.hid hW3
      have hWdH := Lib.hid hWd
      have cBd := dB.cell
      have q0d := d4.cell
      have f0d := d4.frozen
      have c1d : Wd.cell? ⟨tb, 1, none⟩ = some (.int .i64 x.e) := by rw [← hWd]; exact c1
      have cB3 := eB.cell
      have q13 := e5.cell
      have f13 := e5.frozen
      have c13 : W3.cell? ⟨tb, 1, none⟩ = some (.int .i64 x.e) := (World.cell?_of_block (w := Wd) (hg3.block tb (World.block_lt_of_cell? _ _ c1d) (fun e => hn0 (by injection e)))).trans c1d
      clear hfin hT hnR hbd hg3 hg4 d4 d5 dB dO e4 e5 eB eO hWd hW3 hvL hoL i1 i3 i4 i5 hL hn1
      gi_wp2
      refine wpIn_region_any (by kernel_rfl) ?_
      show wpAnyIn _ _ _ _ _ _ _ _ _ (W.drew)
      rw [hWdH.out]
      refine region_in2 0 1 rfl rfl (by kernel_rfl) (fun K hK => ?_) (fun K hK => ?_)
      · refine NextIn.value (v := (.slice aL L.length cL)) (w' := Wd) rfl (fun c => by simp) rfl (by go_simp) ?_
        refine hK.out _ _ ?_
        clear hK
        simp only [Act.put, List.setIfInBounds_toArray, List.set_cons_zero, List.set_cons_succ]
        refine region_in2 1 3 rfl rfl (by kernel_rfl) (fun K hK => ?_) (fun K hK => ?_)
        · refine NextIn.value (v := .pointer (some ⟨tb, 1, none⟩)) (w' := Wd) rfl (fun c => by simp) rfl (by go_simp) ?_
          refine hK.out _ _ ?_
          clear hK
          simp only [Act.put, List.setIfInBounds_toArray, List.set_cons_zero, List.set_cons_succ]
          refine region_in2 2 3 rfl rfl (by kernel_rfl) (fun K hK => ?_) (fun K hK => ?_)
          · refine NextIn.value (v := .int .i64 x.e) (w' := Wd) rfl (fun c => by simp) rfl (by go_simp) ?_
            refine hK.out _ _ ?_
            clear hK
            simp only [Act.put, List.setIfInBounds_toArray, List.set_cons_zero, List.set_cons_succ]
            refine region_in1 3 rfl (by kernel_rfl) (fun K hK => ?_)
            refine NextIn.skip (w' := Wd.setCell ⟨w.heap.size, 0, none⟩ (.slice aL L.length cL)) rfl (fun c => by simp) rfl (by go_simp) ?_
            rw [hW3H.out]
            refine hK.out _ _ ?_
            clear hK
            simp only [Act.put]
            refine region_in1 4 rfl (by kernel_rfl) (fun K hK => ?_)
            refine NextIn.skip (w' := W3.setCell ⟨w.heap.size + 1, 0, none⟩ (.int .i64 x.e)) rfl (fun c => by simp) rfl (by go_simp) ?_
            refine hK.out _ _ ?_
            clear hK
            simp only [Act.put]
            refine wpAnyIn_done (by kernel_rfl) ?_ _
            gi_wp2_with fail
            exact hfinH.out _
          · refine NextIn.skip (w' := Wd.setCell ⟨w.heap.size, 0, none⟩ (.slice aL L.length cL)) rfl (fun c => by simp) rfl (by go_simp) ?_
            rw [hW3H.out]
            refine hK.out _ _ ?_
            clear hK
            simp only [Act.put]
            refine region_in1 2 rfl (by kernel_rfl) (fun K hK => ?_)
            refine NextIn.value (v := .int .i64 x.e) (w' := W3) rfl (fun c => by simp) rfl (by go_simp) ?_
            refine hK.out _ _ ?_
            clear hK
            simp only [Act.put, List.setIfInBounds_toArray, List.set_cons_zero, List.set_cons_succ]
            refine region_in1 4 rfl (by kernel_rfl) (fun K hK => ?_)
            refine NextIn.skip (w' := W3.setCell ⟨w.heap.size + 1, 0, none⟩ (.int .i64 x.e)) rfl (fun c => by simp) rfl (by go_simp) ?_
            refine hK.out _ _ ?_
            clear hK
            simp only [Act.put]
            refine wpAnyIn_done (by kernel_rfl) ?_ _
            gi_wp2_with fail
            exact hfinH.out _
        · refine NextIn.skip (w' := Wd.setCell ⟨w.heap.size, 0, none⟩ (.slice aL L.length cL)) rfl (fun c => by simp) rfl (by go_simp) ?_
          rw [hW3H.out]
          refine hK.out _ _ ?_
          clear hK
          simp only [Act.put]
          refine region_in1 1 rfl (by kernel_rfl) (fun K hK => ?_)
          refine NextIn.value (v := .pointer (some ⟨tb, 1, none⟩)) (w' := W3) rfl (fun c => by simp) rfl (by go_simp) ?_
          refine hK.out _ _ ?_
          clear hK
          simp only [Act.put, List.setIfInBounds_toArray, List.set_cons_zero, List.set_cons_succ]
          refine region_in1 2 rfl (by kernel_rfl) (fun K hK => ?_)
          refine NextIn.value (v := .int .i64 x.e) (w' := W3) rfl (fun c => by simp) rfl (by go_simp) ?_
          refine hK.out _ _ ?_
          clear hK
          simp only [Act.put, List.setIfInBounds_toArray, List.set_cons_zero, List.set_cons_succ]
          refine region_in1 4 rfl (by kernel_rfl) (fun K hK => ?_)
          refine NextIn.skip (w' := W3.setCell ⟨w.heap.size + 1, 0, none⟩ (.int .i64 x.e)) rfl (fun c => by simp) rfl (by go_simp) ?_
          refine hK.out _ _ ?_
          clear hK
          simp only [Act.put]
          refine wpAnyIn_done (by kernel_rfl) ?_ _
          gi_wp2_with fail
          exact hfinH.out _
      · refine NextIn.value (v := .pointer (some ⟨tb, 1, none⟩)) (w' := Wd) rfl (fun c => by simp) rfl (by go_simp) ?_
        refine hK.out _ _ ?_
        clear hK
        simp only [Act.put, List.setIfInBounds_toArray, List.set_cons_zero, List.set_cons_succ]
        refine region_in2 0 2 rfl rfl (by kernel_rfl) (fun K hK => ?_) (fun K hK => ?_)
        · refine NextIn.value (v := (.slice aL L.length cL)) (w' := Wd) rfl (fun c => by simp) rfl (by go_simp) ?_
          refine hK.out _ _ ?_
          clear hK
          simp only [Act.put, List.setIfInBounds_toArray, List.set_cons_zero, List.set_cons_succ]
          refine region_in2 2 3 rfl rfl (by kernel_rfl) (fun K hK => ?_) (fun K hK => ?_)
          · refine NextIn.value (v := .int .i64 x.e) (w' := Wd) rfl (fun c => by simp) rfl (by go_simp) ?_
            refine hK.out _ _ ?_
            clear hK
            simp only [Act.put, List.setIfInBounds_toArray, List.set_cons_zero, List.set_cons_succ]
            refine region_in1 3 rfl (by kernel_rfl) (fun K hK => ?_)
            refine NextIn.skip (w' := Wd.setCell ⟨w.heap.size, 0, none⟩ (.slice aL L.length cL)) rfl (fun c => by simp) rfl (by go_simp) ?_
            rw [hW3H.out]
            refine hK.out _ _ ?_
            clear hK
            simp only [Act.put]
            refine region_in1 4 rfl (by kernel_rfl) (fun K hK => ?_)
            refine NextIn.skip (w' := W3.setCell ⟨w.heap.size + 1, 0, none⟩ (.int .i64 x.e)) rfl (fun c => by simp) rfl (by go_simp) ?_
            refine hK.out _ _ ?_
            clear hK
            simp only [Act.put]
            refine wpAnyIn_done (by kernel_rfl) ?_ _
            gi_wp2_with fail
            exact hfinH.out _
          · refine NextIn.skip (w' := Wd.setCell ⟨w.heap.size, 0, none⟩ (.slice aL L.length cL)) rfl (fun c => by simp) rfl (by go_simp) ?_
            rw [hW3H.out]
            refine hK.out _ _ ?_
            clear hK
            simp only [Act.put]
            refine region_in1 2 rfl (by kernel_rfl) (fun K hK => ?_)
            refine NextIn.value (v := .int .i64 x.e) (w' := W3) rfl (fun c => by simp) rfl (by go_simp) ?_
            refine hK.out _ _ ?_
            clear hK
            simp only [Act.put, List.setIfInBounds_toArray, List.set_cons_zero, List.set_cons_succ]
            refine region_in1 4 rfl (by kernel_rfl) (fun K hK => ?_)
            refine NextIn.skip (w' := W3.setCell ⟨w.heap.size + 1, 0, none⟩ (.int .i64 x.e)) rfl (fun c => by simp) rfl (by go_simp) ?_
            refine hK.out _ _ ?_
            clear hK
            simp only [Act.put]
            refine wpAnyIn_done (by kernel_rfl) ?_ _
            gi_wp2_with fail
            exact hfinH.out _
        · refine NextIn.value (v := .int .i64 x.e) (w' := Wd) rfl (fun c => by simp) rfl (by go_simp) ?_
          refine hK.out _ _ ?_
          clear hK
          simp only [Act.put, List.setIfInBounds_toArray, List.set_cons_zero, List.set_cons_succ]
          refine region_in1 0 rfl (by kernel_rfl) (fun K hK => ?_)
          refine NextIn.value (v := (.slice aL L.length cL)) (w' := Wd) rfl (fun c => by simp) rfl (by go_simp) ?_
          refine hK.out _ _ ?_
          clear hK
          simp only [Act.put, List.setIfInBounds_toArray, List.set_cons_zero, List.set_cons_succ]
          refine region_in1 3 rfl (by kernel_rfl) (fun K hK => ?_)
          refine NextIn.skip (w' := Wd.setCell ⟨w.heap.size, 0, none⟩ (.slice aL L.length cL)) rfl (fun c => by simp) rfl (by go_simp) ?_
          rw [hW3H.out]
          refine hK.out _ _ ?_
          clear hK
          simp only [Act.put]
          refine region_in1 4 rfl (by kernel_rfl) (fun K hK => ?_)
          refine NextIn.skip (w' := W3.setCell ⟨w.heap.size + 1, 0, none⟩ (.int .i64 x.e)) rfl (fun c => by simp) rfl (by go_simp) ?_
          refine hK.out _ _ ?_
          clear hK
          simp only [Act.put]
          refine wpAnyIn_done (by kernel_rfl) ?_ _
          gi_wp2_with fail
          exact hfinH.out _
  case done =>
    rintro D xs W hD hxs ⟨i1, ⟨vL, hvL, hoL⟩, i3, i4, i5⟩ hK
    obtain ⟨L, hL⟩ : ∃ L, xs.map Td.t = L := ⟨_, rfl⟩
    rw [hL] at hoL
    have hE : (L, (0 : Int)) = runL s g p [] := by
      rw [run_of_told p [] (fun y hy => ?_), ← hxs]
      · rw [List.nil_append, ← hL, List.map_map]; rfl
      · rw [← hxs] at hy
        obtain ⟨x, hx, rfl⟩ := List.mem_map.1 hy
        exact i1 x hx
    obtain ⟨aL, cL, hvE, -⟩ := OwnL.sl hoL
    subst hvE
    have cB := hvL.cell
    have q0 := i4.cell
    have q1 := i5.cell
    have f0 := i4.frozen
    have f1 := i5.frozen
    obtain ⟨W1, hW1⟩ : ∃ W1, W.setCell ⟨w.heap.size, 0, none⟩ (.slice aL L.length cL) = W1 := ⟨_, rfl⟩
    obtain ⟨W2, hW2⟩ : ∃ W2, W1.setCell ⟨w.heap.size + 1, 0, none⟩ (.int .i64 0) = W2 := ⟨_, rfl⟩
    have hnR : ∀ {r : Nat} {t : TypeId} {v : Value}, Boxed W r t v → t ≠ 34 → (Value.slice aL L.length cL).ownBlock ≠ some r := fun hbx ht e => by
      obtain ⟨cur, hc⟩ := OwnL.rowCells hoL _ e
      rw [show W.heap[_]? = _ from hbx] at hc
      simp only [Option.some.injEq, Obj.cells.injEq] at hc
      exact ht hc.2.1
    have hg1 : W.grownBy W1 (some w.heap.size) := by rw [← hW1]; exact grownBy_setCell' _ _ _
    have hg2 : W1.grownBy W2 (some (w.heap.size + 1)) := by rw [← hW2]; exact grownBy_setCell' _ _ _
    have d0 : Boxed W1 w.heap.size 24 (.slice aL L.length cL) := by rw [← hW1]; exact i4.set _
    have d1 : Boxed W1 (w.heap.size + 1) 29 (.int .i64 0) := i5.kept hg1 (fun e => by injection e with e; omega)
    have e0 : Boxed W2 w.heap.size 24 (.slice aL L.length cL) := d0.kept hg2 (fun e => by injection e with e; omega)
    have e1 : Boxed W2 (w.heap.size + 1) 29 (.int .i64 0) := by rw [← hW2]; exact d1.set _
    have dO := OwnTT.keep hoL (fun k hk => hg1.block k (OwnL.lt hoL k hk).2 (fun e => hnR i4 (by decide) (by rw [hk, e]))) (.of_grown hg1 (fun r e => by cases e; exact not_intB i4 (by decide)))
    have eO := OwnTT.keep dO (fun k hk => hg2.block k (OwnL.lt dO k hk).2 (fun e => hnR i5 (by decide) (by rw [hk, e]))) (.of_grown hg2 (fun r e => by cases e; exact not_intB d1 (by decide)))
    have hK2 : W2.heap[D]? = some (.deferred (some [])) := by
      have hl := (Array.getElem?_eq_some_iff.1 hK).1
      exact (hg2.block D (Nat.lt_of_lt_of_le hl hg1.size) (fun e => by injection e with e; omega)).trans ((hg1.block D hl (fun e => by injection e with e; omega)).trans hK)
    have eB : Below w.heap.size w W2 := (i3.grown hg1 i3.size (fun j e => by cases e; omega)).grown hg2 (Nat.le_trans i3.size hg1.size) (fun j e => by cases e; omega)
    have hfin : ∀ tmps : Array Value, tmps.getD 6 undef = .pointer (some ⟨w.heap.size, 0, none⟩) → tmps.getD 7 undef = .pointer (some ⟨w.heap.size + 1, 0, none⟩) → _ := fun tmps h6 h7 => run_fin (tmps := tmps) (by omega) hK2 e0 e1 eO eB h6 h7
    have hfinH := Lib.hid hfin
    have hK2H := Lib.hid hK2
    have hW1H := Lib.hid hW1
    have hW2H := Lib.hid hW2
    clear i1 i3 i4 i5 hoL hvL hxs hL hnR hg1 hg2 d0 d1 e0 e1 dO eO hK2 eB hfin hK hW1 hW2
    gi_wp2
    rw [hW1H.out, hW2H.out]
    refine ⟨by simp, .inl ⟨_, _, rfl, run_takeDeferred hK2H.out, ?_⟩⟩
    rw [← hE]
    exact hfinH.out _ rfl rfl
  case stop =>
    rintro D c pre W hD hSp ⟨rfl, pre0, x, v, rfl, j1, j2, j3, j4, j5, j6, j7⟩ hK
    have hE := run_of_stop p [] (pre0.map Td.pt) (Td.pt x) (by simpa using hSp) (fun y hy => by obtain ⟨z, hz, rfl⟩ := List.mem_map.1 hy; exact j1 z hz) j2
    have hL : pre0.map Td.t = [] ++ (pre0.map Td.pt).map Prod.fst := by rw [List.nil_append, List.map_map]; rfl
    rw [hL] at j7
    have hD' : w.heap.size + 1 < D := by omega
    have hfin : ∀ tmps : Array Value, tmps.getD 6 undef = .pointer (some ⟨w.heap.size, 0, none⟩) → tmps.getD 7 undef = .pointer (some ⟨w.heap.size + 1, 0, none⟩) → _ := fun tmps h6 h7 => run_fin (tmps := tmps) hD' hK j4 j5 j7 j3 h6 h7
    have hKH := Lib.hid hK
    have hfinH := Lib.hid hfin
    clear hfin hK j1 j2 j3 j4 j5 j6 j7 hSp
    gi_wp2
    refine ⟨by simp, .inl ⟨_, _, rfl, run_takeDeferred hKH.out, ?_⟩⟩
    rw [hE]
    exact hfinH.out _ rfl rfl
end Go.Proofs.YthkamffmpejckaaGreatDoor

/- Walks of package kernel: Run, Says. -/
namespace Go.Proofs.YthkamffmpejckaaGreatDoor
open Go Go.RowKit Go.Maps

def retR (r : List (List Int) × Int × Int) (w : World) (e : Ending) (w' : World) : Prop := ∃ v, e = .returned (.tuple #[v, .int .i64 r.2.1, .int .i64 r.2.2]) ∧ OwnTs (fun _ => True) w' w.heap.size v r.1 ∧ Below w.heap.size w w'
def retS (r : List Int × Int) (w : World) (e : Ending) (w' : World) : Prop := ∃ a c, e = .returned (.tuple #[.slice a r.1.length c, .int .i64 r.2]) ∧ Ints (fun _ => True) w' a c r.1 ∧ Below w.heap.size w w'
theorem askedB_full {s : Sg} {g : List (List Int)} {p : List Stp} (h : askedB s g p = true) : (∀ t ∈ g, okT s t = true) ∧ okSteps g.length 0 p = true ∧ 1 ≤ p.length ∧ p.length ≤ 60 := by
  simp only [askedB, validP, Bool.and_eq_true, decide_eq_true_eq] at h
  exact ⟨(givensB_parts h.1).2.2, h.2.1, h.2.2.1, h.2.2.2⟩
set_option maxHeartbeats 1000000 in
theorem Run_any {S1 S2 S3 : Nat → Prop} (a1 ag ap : Option Addr) (c1 cg cp : Nat) (s : Sg) (g : List (List Int)) (p : List Stp) (w : World) (h1 : Sign S1 w a1 c1 s) (h2 : Terms S2 w ag cg g) (h3 : Steps S3 w ap cp p) :
    Calls Tryz.prog 10 #[.slice a1 s.length c1, .slice ag g.length cg, .slice ap p.length cp] w (retR (runR s g p) w) := by
  have m1 := h1.le
  have m2 := h2.le
  have m3 := h3.le
  have v1 := asked_any a1 ag ap c1 cg cp s g p w h1 h2 h3
  cases hx : askedB s g p with
  | false =>
    rw [hx] at v1
    have hrH := Lib.hid (show runR s g p = ([], 0, 1) by rw [runR, hx]; rfl)
    have v1H := Lib.hid v1
    clear v1 h1 h2 h3 hx
    go_enter Tryz.func10, Tryz.ntmps10
    go_wp2_with fail
    refine v1H.out.mono ?_
    rintro e w1 ⟨rfl, hb1⟩
    go_wp2_with fail
    go_ret3
    rw [hrH.out]
    exact ⟨_, rfl, .nil _ _ _ _ _, hb1⟩
  | true =>
    rw [hx] at v1
    obtain ⟨q1, q2, -, q3⟩ := askedB_full hx
    have v2 := fun W (hb : Below w.heap.size w W) => krun_any a1 ag ap c1 cg cp s g p W (h1.below hb) (h2.below hb) (h3.below hb) q1 q2 q3
    obtain ⟨L, E, hLE⟩ : ∃ L E, runL s g p [] = (L, E) := ⟨_, _, rfl⟩
    rw [hLE] at v2
    have hr : runR s g p = if E = 0 then (L, -1, 0) else (L, (L.length : Int), E) := by rw [runR, if_pos hx, hLE]
    have v1H := Lib.hid v1
    have v2H := Lib.hid v2
    clear v1 v2 h1 h2 h3 hx q1 q2 q3 hLE
    by_cases hE : E = 0
    · rw [if_pos hE] at hr
      subst hE
      have hrH := Lib.hid hr
      clear hr
      go_enter Tryz.func10, Tryz.ntmps10
      go_wp2_with fail
      refine v1H.out.mono ?_
      rintro e w1 ⟨rfl, hb1⟩
      go_wp2_with fail
      refine (v2H.out _ hb1).mono ?_
      rintro e w2 ⟨v, rfl, ho, hb2⟩
      have hoH := Lib.hid (OwnL.baseMono (base' := w.heap.size) ho hb1.size)
      clear ho
      go_wp2_with fail
      go_ret3
      rw [hrH.out]
      exact ⟨_, rfl, hoH.out, bcall hb1 hb2⟩
    · rw [if_neg hE] at hr
      have hne : (E != 0) = true := by simpa using hE
      have hrH := Lib.hid hr
      clear hr hE
      go_enter Tryz.func10, Tryz.ntmps10
      go_wp2_with fail
      refine v1H.out.mono ?_
      rintro e w1 ⟨rfl, hb1⟩
      go_wp2_with fail
      refine (v2H.out _ hb1).mono ?_
      rintro e w2 ⟨v, rfl, ho, hb2⟩
      obtain ⟨aL, cL, rfl, -⟩ := OwnL.sl ho
      have hoH := Lib.hid (OwnL.baseMono (base' := w.heap.size) ho hb1.size)
      clear ho
      go_wp2_with fail
      go_ret3
      rw [hrH.out]
      exact ⟨_, rfl, hoH.out, bcall hb1 hb2⟩
set_option maxHeartbeats 1000000 in
theorem Says_any {S1 S2 S3 : Nat → Prop} (a1 ag ap : Option Addr) (c1 cg cp : Nat) (s : Sg) (g : List (List Int)) (p : List Stp) (w : World) (h1 : Sign S1 w a1 c1 s) (h2 : Terms S2 w ag cg g) (h3 : Steps S3 w ap cp p) :
    Calls Tryz.prog 15 #[.slice a1 s.length c1, .slice ag g.length cg, .slice ap p.length cp] w (retS (saysE s g p) w) := by
  have m1 := h1.le
  have m2 := h2.le
  have m3 := h3.le
  have v1 := Run_any a1 ag ap c1 cg cp s g p w h1 h2 h3
  obtain ⟨L, N, E, hR⟩ : ∃ L N E, runR s g p = (L, N, E) := ⟨_, _, _, rfl⟩
  have hS : (E ≠ 0 ∧ saysE s g p = ([], E)) ∨ (E = 0 ∧ 1 ≤ L.length ∧ L.length ≤ 60 ∧ saysE s g p = (L.getLastD [], 0)) := by
    rw [runR] at hR
    rw [saysE]
    by_cases hx : askedB s g p = true
    · rw [if_pos hx] at hR ⊢
      by_cases h0 : (runL s g p []).2 = 0
      · rw [if_pos h0] at hR ⊢
        cases hR
        obtain ⟨q1, q2, q4, q3⟩ := askedB_full hx
        have := (runL_okT q1 p [] (fun t h => by cases h) q2).2.1 h0
        simp only [List.length_nil] at this
        exact .inr ⟨rfl, by omega, by omega, rfl⟩
      · rw [if_neg h0] at hR ⊢
        cases hR
        exact .inl ⟨h0, rfl⟩
    · rw [if_neg hx] at hR ⊢
      cases hR
      exact .inl ⟨by decide, rfl⟩
  rw [hR] at v1
  have v1H := Lib.hid v1
  clear v1 hR h1 h2 h3
  rcases hS with ⟨hE, hS⟩ | ⟨rfl, hl1, hl2, hS⟩
  · have hne : (E != 0) = true := by simpa using hE
    have hSH := Lib.hid hS
    clear hS hE
    go_enter Tryz.func15, Tryz.ntmps15
    go_wp2_with fail
    refine v1H.out.mono ?_
    rintro e w1 ⟨v, rfl, ho, hb1⟩
    clear ho
    go_wp2_with fail
    go_ret2
    rw [hSH.out]
    exact ⟨_, _, rfl, Sl.empty, hb1⟩
  · have hSH := Lib.hid hS
    have e1 : IntKind.i64.wrap ((L.length : Int) - 1) = ((L.length - 1 : Nat) : Int) := by rw [IntWalk.i64_in _ (by omega)]; omega
    clear hS
    go_enter Tryz.func15, Tryz.ntmps15
    go_wp2_with fail
    refine v1H.out.mono ?_
    rintro e w1 ⟨v, rfl, ho, hb1⟩
    obtain ⟨a, c, rfl, hT⟩ := OwnL.sl ho
    obtain ⟨b1, o1, a4, c4, rfl, -, q1, hA⟩ := hT.sub (L.length - 1) (by simp only; omega)
    dsimp only at q1 hA
    have hq : L[L.length - 1] = L.getLastD [] := by
      rw [List.getLastD_eq_getLast?, List.getLast?_eq_getElem?, List.getElem?_eq_getElem (by omega)]; rfl
    obtain ⟨z, hz⟩ : ∃ z, L.getLastD [] = z := ⟨_, rfl⟩
    rw [hq, hz] at q1 hA
    have hS := hSH.out
    rw [hz] at hS
    have hSK := Lib.hid hS
    have hAH := Lib.hid hA.any
    clear ho hT hA hq hS hSH hz
    go_wp2_with fail
    all_goals go_ret2
    all_goals rw [hSK.out]
    all_goals exact ⟨_, _, rfl, hAH.out, hb1⟩
end Go.Proofs.YthkamffmpejckaaGreatDoor

/- Walks: awake of the laws on kernel. -/
namespace Go.Proofs.YthkamffmpejckaaGreatDoor
open Go Go.RowKit Go.Maps

theorem aw4Sign (w : World) : Sign (fun b => b = w.heap.size) (w.alloc (.cells #[.string ⟨#[67]⟩, .int .i64 2] 53)) (some ⟨w.heap.size, 0, none⟩) 1 aw4S := by
  have := Sl.new (E := symE) (S := fun _ => False) w [[.string ⟨#[67]⟩, .int .i64 2]] aw4S 53 rfl (by decide) (fun i h1 h2 => by
    match i, h1 with
    | 0, _ => exact ⟨[_], [_], rfl, ⟨rfl, (by decide : 1 ≤ big)⟩, ⟨rfl, (by unfold inRange; decide : inRange 2)⟩⟩)
  exact this.weak (fun b h => h.resolve_left (fun h => h))
set_option maxHeartbeats 2000000 in
theorem awake4_any (w : World) :
    Calls Tryz.prog 9 #[] w fun e w' => e = .returned (.bool true) ∧ Below w.heap.size w w' := by
  have hS := aw4Sign w
  obtain ⟨W1, hW1⟩ : ∃ W, w.alloc (.cells #[.string ⟨#[67]⟩, .int .i64 2] 53) = W := ⟨_, rfl⟩
  rw [hW1] at hS
  have hz1 : W1.heap.size = w.heap.size + 1 := by rw [← hW1]; simp
  have hB1 : Below w.heap.size w W1 := by rw [← hW1]; exact below1 w _
  have hK := Ints.new W1 aw4K 3 (by decide) (by unfold inRange; decide)
  obtain ⟨W2, hW2⟩ : ∃ W, W1.alloc (.cells (aw4K.map (Value.int .i64)).toArray 3) = W := ⟨_, rfl⟩
  rw [hW2] at hK
  have hB2 : Below W1.heap.size W1 W2 := by rw [← hW2]; exact below1 W1 _
  have hz2 : W2.heap.size = w.heap.size + 1 + 1 := by rw [← hW2]; simp [hz1]
  have hC := Ints.new W2 aw4C 3 (by decide) (by unfold inRange; decide)
  obtain ⟨W3, hW3⟩ : ∃ W, W2.alloc (.cells (aw4C.map (Value.int .i64)).toArray 3) = W := ⟨_, rfl⟩
  rw [hW3] at hC
  have hB3 : Below W2.heap.size W2 W3 := by rw [← hW3]; exact below1 W2 _
  have hG := Sl.new (E := slE intE) (S := fun _ => True) W3 [[.slice (some ⟨W1.heap.size, 0, none⟩) 5 5], [.slice (some ⟨W2.heap.size, 0, none⟩) 13 13]] aw4G 34 rfl (by decide) (fun i g1 g2 => by
    match i, g1 with
    | 0, _ => exact ⟨_, _, rfl, (hK.below hB3).any⟩
    | 1, _ => exact ⟨_, _, rfl, hC.any⟩)
  rw [hz1, hz2] at hG
  have hz3 : W3.heap.size = w.heap.size + 1 + 1 + 1 := by rw [← hW3]; simp [hz2]
  obtain ⟨W4, hW4⟩ : ∃ W, W3.alloc (.cells #[.slice (some ⟨w.heap.size + 1, 0, none⟩) 5 5, .slice (some ⟨w.heap.size + 1 + 1, 0, none⟩) 13 13] 34) = W := ⟨_, rfl⟩
  have hG4 : Terms (fun _ => True) W4 (some ⟨w.heap.size + 1 + 1 + 1, 0, none⟩) 2 aw4G := by rw [← hz3, ← hW4]; exact hG.any
  have hB4 : Below W3.heap.size W3 W4 := by rw [← hW4]; exact below1 W3 _
  have hS4 := ((hS.below hB2).below hB3).below hB4
  have hB14 := bcall (bcall (bcall hB1 (by rw [hz1]; rw [hz1] at hB2; exact hB2)) (by exact hB3)) hB4
  have hWW : (((w.alloc (.cells #[.string ⟨#[67]⟩, .int .i64 2] 53)).alloc (.cells (aw4K.map (Value.int .i64)).toArray 3)).alloc (.cells (aw4C.map (Value.int .i64)).toArray 3)).alloc (.cells #[.slice (some ⟨w.heap.size + 1, 0, none⟩) 5 5, .slice (some ⟨w.heap.size + 1 + 1, 0, none⟩) 13 13] 34) = W4 := by rw [hW1, hW2, hW3, hW4]
  simp only [aw4K, aw4C, List.map_cons, List.map_nil] at hWW
  have hS4H := Lib.hid hS4
  have hG4H := Lib.hid hG4
  have hB14H := Lib.hid hB14
  clear hS hK hC hG hB1 hB2 hB3 hB4 hW1 hW2 hW3 hW4 hz1 hz2 hz3 hG4 hS4 hB14
  go_enter Tryz.func9, Tryz.ntmps9
  go_wp2_with fail
  try rw [hWW]
  refine (Untree_any 2 _ _).mono ?_
  rw [aw4_unt]
  rintro e w5 ⟨v, rfl, ho, hb5⟩
  obtain ⟨aP, cP, rfl, hP⟩ := OwnSt.steps ho
  have hS5 := hS4H.out.below hb5
  have hG5 := hG4H.out.below hb5
  have hB5H := Lib.hid (bcall hB14H.out hb5)
  have kH := Lib.hid (Says_any _ _ _ _ _ _ aw4S aw4G aw4P _ hS5 hG5 hP)
  clear ho hb5 hP hS5 hG5 hWW
  go_wp2_with fail
  refine kH.out.mono ?_
  rw [aw4_says]
  rintro e w6 ⟨a, c, rfl, hI, hb6⟩
  have hB6H := Lib.hid (bcall hB5H.out hb6)
  have hT := Ints.new w6 [0, -1, -1] 3 (by decide) (by unfold inRange; decide)
  have hb7 := below1 w6 (.cells ([0, -1, -1].map (Value.int .i64)).toArray 3)
  have ks := Same_any _ _ _ _ _ _ _ (hI.below hb7) hT
  have ksH := Lib.hid ks
  have hb7H := Lib.hid hb7
  clear hI hT ks hb7 hb6
  go_wp2_with fail
  refine ksH.out.mono ?_
  rintro e w8 ⟨rfl, hb8⟩
  go_wp2_with fail
  go_ret
  exact ⟨rfl, bcall hB6H.out (bcall hb7H.out (Drew.below hb8 _))⟩
end Go.Proofs.YthkamffmpejckaaGreatDoor
