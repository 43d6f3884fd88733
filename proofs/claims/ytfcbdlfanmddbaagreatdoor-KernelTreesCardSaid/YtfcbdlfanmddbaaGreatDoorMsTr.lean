/- The card of KernelTrees: for every input KernelTrees returns true and leaves its arguments as they were; the listed variables are tied to the program's text. No condition. -/
import Derived.Test.YtfcbdlfanmddbaaGreatDoorBase
import Derived.Test.YtfcbdlfanmddbaaGreatDoorMsA
import Derived.ProofKit
import Derived.LaidMore
import Derived.OpenShut
import Derived.Stop.Joined
import Derived.Test.YtfcbdlfanmddbaaGreatDoorMsR
import Derived.Test.YtfcbdlfanmddbaaGreatDoorMsT
import Derived.Test.YtfcbdlfanmddbaaGreatDoorMsN
import Derived.Test.YtfcbdlfanmddbaaGreatDoorTabLaid
import Derived.Test.YtfcbdlfanmddbaaGreatDoorCards
import Derived.Test.YtfcbdlfanmddbaaGreatDoorTie
/- Facts of the program's types that the rows over the kernel want; the start of a row that lists variables. -/
namespace Go.Proofs.YtfcbdlfanmddbaaGreatDoor
open Go Go.RowKit Go.ChangeShapes Go.WideShapes Go.ChangeAt Go.Deep

theorem gives3 {P : Program} {t : TypeId} {α β γ : Type} {E : Enc α} {F : Enc β} {G : Enc γ} {f0 f1 f2 : Field} (ht : P.underlying t = some (.struct #[f0, f1, f2])) (h0 : f0.offset = 0) (h1 : f1.offset = E.size) (h2 : f2.offset = E.size + F.size) (hc : P.cellsOf t = E.size + (F.size + G.size))
    (hc0 : P.cellsOf f0.type = E.size) (hc1 : P.cellsOf f1.type = F.size) (hc2 : P.cellsOf f2.type = G.size) (g0 : Gives P f0.type E) (g1 : Gives P f1.type F) (g2 : Gives P f2.type G) : Gives P t (pairE E (pairE F G)) := by
  intro H enc w base spare held n cs x h
  obtain ⟨y0, y1, y2, n', _, hl, r0, r1, r2⟩ := trod_struct3 ht h
  obtain ⟨a, ha⟩ := g0 H enc w base spare held n' _ _ r0
  obtain ⟨b, hb⟩ := g1 H enc w base spare held n' _ _ r1
  obtain ⟨c, hcc⟩ := g2 H enc w base spare held n' _ _ r2
  refine ⟨(a, b, c), _, _, ?_, ha, _, _, rfl, hb, hcc⟩
  rw [h0, h1, h2, hc0, hc1, hc2, List.drop_zero]
  have e1 : (cs.drop (E.size + F.size)).take G.size = cs.drop (E.size + F.size) := List.take_of_length_le (by simp; omega)
  rw [e1, ← List.drop_drop, List.take_append_drop, List.take_append_drop]
theorem gStp : Gives Tryz.prog 79 stpE := gives3 Tryz.underlying79 rfl rfl rfl (by kernel_rfl) (by kernel_rfl) (by kernel_rfl) (by kernel_rfl) gInt gInt gInt
theorem gSteps : Gives Tryz.prog 25 (slE stpE) := gives_slice Tryz.underlying25 (by kernel_rfl) gStp
theorem gives_array2 {P : Program} {t e : TypeId} {α : Type} {E : Enc α} (ht : P.underlying t = some (.array 2 e)) (hc : P.cellsOf t = E.size + E.size) (he : P.cellsOf e = E.size) (g : Gives P e E) : Gives P t (pairE E E) := by
  intro H enc w base spare held n cs x h
  obtain ⟨xs, m, _, _, hl, hx, hf⟩ := DataW.trod_array ht h
  match xs, hx with
  | [x0, x1], _ =>
    obtain ⟨a, ha⟩ := g H enc w base spare held m _ _ (hf 0 (by omega))
    obtain ⟨b, hb⟩ := g H enc w base spare held m _ _ (hf 1 (by omega))
    refine ⟨(a, b), _, _, ?_, ha, hb⟩
    rw [he, Nat.zero_mul, Nat.one_mul, List.drop_zero]
    have e1 : (cs.drop E.size).take E.size = cs.drop E.size := List.take_of_length_le (by simp; omega)
    rw [e1, List.take_append_drop]
theorem gClaim : Gives Tryz.prog 44 (pairE (slE (slE intE)) (pairE (slE stpE) (slE intE))) := gives3 Tryz.underlying44 rfl rfl rfl (by kernel_rfl) (by kernel_rfl) (by kernel_rfl) (by kernel_rfl) gTerms gSteps gTerm
end Go.Proofs.YtfcbdlfanmddbaaGreatDoor

/- Walks that the laws on kernel share: shelf, Light; awake behind what came before it. -/
namespace Go.Proofs.YtfcbdlfanmddbaaGreatDoor
open Go Go.RowKit Go.Maps

theorem Light_any {S : Nat → Prop} (a : Option Addr) (c : Nat) (p : List Stp) (w : World) (h : Steps S w a c p) :
    Calls Tryz.prog 11 #[.slice a p.length c] w fun e w' => e = .returned (.bool (decide (p.length ≤ 100))) ∧ w = w' := by
  have m := h.le
  go_enter Tryz.func11, Tryz.ntmps11
  go_wp2_with fail
  go_ret
  exact ⟨ret_bool (by rw [Bool.eq_iff_iff]; simp only [decide_eq_true_eq]; omega), rfl⟩
def shelfT (s : Sg) (g : List (List Int)) : Bool := decide (g.length ≤ 80) && smallT s g
theorem shelf_any {S1 S2 : Nat → Prop} (a1 ag : Option Addr) (c1 cg : Nat) (s : Sg) (g : List (List Int)) (w : World) (h1 : Sign S1 w a1 c1 s) (h2 : Terms S2 w ag cg g) :
    Calls Tryz.prog 10 #[.slice a1 s.length c1, .slice ag g.length cg] w fun e w' => e = .returned (.bool (shelfT s g)) ∧ w = w' := by
  have m1 := h1.le
  have m2 := h2.le
  have csH := Lib.hid (Small_any a1 ag c1 cg s g w h1 h2)
  clear h1 h2
  unfold shelfT
  by_cases h80 : g.length ≤ 80
  · have hd : decide ((g.length : Int) ≤ 80) = true := by simp; omega
    rw [decide_eq_true h80]
    go_enter Tryz.func10, Tryz.ntmps10
    go_wp2_with fail
    refine csH.out.mono ?_
    rintro e w1 ⟨rfl, rfl⟩
    go_wp2_with fail
    go_ret
    exact ⟨rfl, rfl⟩
  · have hd : decide ((g.length : Int) ≤ 80) = false := by simp; omega
    rw [decide_eq_false h80]
    go_enter Tryz.func10, Tryz.ntmps10
    go_wp2_with fail
    go_ret
    exact ⟨rfl, rfl⟩
theorem aw4_from {B : Nat} {W W' : World} (hb : Below B W W') (hB : B ≤ W.heap.size) : Calls Tryz.prog 12 #[] W' fun e w' => e = .returned (.bool true) ∧ Below B W w' :=
  (awake4_any W').mono fun _ _ h => ⟨h.1, hb.trans (h.2.mono (Nat.le_trans hB hb.size))⟩
end Go.Proofs.YtfcbdlfanmddbaaGreatDoor

/- The law KernelTrees, walked. -/
namespace Go.Proofs.YtfcbdlfanmddbaaGreatDoor
open Go Go.RowKit Go.Maps

theorem trees_plain {G : Int} {p : List Stp} {tx : List UInt8} (h : treeE G p = (tx, 0)) :
    ∃ q, untE G ⟨tx.toArray⟩ = (q, 0) ∧ neededE G p = ((ndIdx p).map (fun i : Nat => (i : Int)), 0) ∧ q.length ≤ (ndIdx p).length ∧ treeE G q = (tx, 0) ∧ ∃ n m, pcntE G p = (n, 0) ∧ pcntE G q = (n, 0) ∧ hgtE G p = (m, 0) ∧ hgtE G q = (m, 0) := by
  have hv : proofB G p = true := by
    unfold treeE at h
    by_cases hv : proofB G p = true
    · exact hv
    · rw [if_neg hv] at h; cases h
  obtain ⟨g0, g1, p1, p2, ok⟩ := proofB_parts hv
  obtain ⟨q, q1, q2, q3, q4, q5, q6, q7⟩ := unt_tree (G := G) (by omega) ok p1 p2
  have hvq : proofB G q = true := by
    simp only [proofB, validP, Bool.and_eq_true, decide_eq_true_eq]
    exact ⟨⟨g0, g1⟩, q3, q4, q5⟩
  have hlen : ((trees p).getLastD (.g 0)).text.length ≤ 65536 ∧ tx = ((trees p).getLastD (.g 0)).text := by
    unfold treeE at h
    rw [if_pos hv] at h
    by_cases hl : ((trees p).getLastD (.g 0)).text.length ≤ 65536
    · rw [if_pos hl] at h; injection h with h1 h2; exact ⟨hl, h1.symm⟩
    · rw [if_neg hl] at h; cases h
  obtain ⟨hl, rfl⟩ := hlen
  have hc := cnt_text ((trees p).getLastD (.g 0))
  have hce := cntF_eq ((trees p).getLastD (.g 0)) (by omega)
  have hcn : ¬ 1000000000000000 < upT cntF ((trees p).getLastD (.g 0)) := by rw [hce]; omega
  refine ⟨q, ?_, ?_, tree_needed ok p1 q3 q2 q7, ?_, upT cntF ((trees p).getLastD (.g 0)), upT hgtF ((trees p).getLastD (.g 0)), ?_, ?_, ?_, ?_⟩
  · unfold untE
    rw [if_pos ⟨g0, g1⟩, if_pos (by simpa [ByteArray.size] using hl)]
    simpa using q1
  · unfold neededE; rw [if_pos hv]; rfl
  · unfold treeE; rw [if_pos hvq, q6, if_pos hl]
  · unfold pcntE; rw [if_pos hv, if_neg hcn]
  · unfold pcntE; rw [if_pos hvq, q6, if_neg hcn]
  · unfold hgtE; rw [if_pos hv]
  · unfold hgtE; rw [if_pos hvq, q6]
set_option maxRecDepth 100000 in
set_option maxHeartbeats 4000000 in
theorem KernelTrees_walk {S : Nat → Prop} (G : Int) (a0 : Option Addr) (c0 : Nat) (p : List Stp) (w : World) (h3 : Steps S w a0 c0 p) (htab : TabW w) :
    Calls Tryz.prog 6 #[.int .i64 G, .slice a0 p.length c0] w fun e w' => e = .returned (.bool true) ∧ Below w.heap.size w w' := by
  have m3 := h3.le
  have h3H := Lib.hid h3
  have htabH := Lib.hid htab
  have cl1H := Lib.hid (Light_any a0 c0 p w h3H.out)
  have awH := Lib.hid (fun W' (hb : Below w.heap.size w W') => aw4_from hb (Nat.le_refl _))
  have ct := Tree_any G a0 c0 p w h3H.out htab
  have cr := fun W (hb : Below w.heap.size w W) => rTree_any G a0 c0 p W (h3H.out.below hb)
  have hpl := fun tx (h : treeE G p = (tx, 0)) => trees_plain h
  clear h3 htab
  cases hp : decide (p.length ≤ 100) with
  | false =>
    rw [hp] at cl1H
    clear ct cr hpl
    go_enter Tryz.func6, Tryz.ntmps6
    go_wp2_with fail
    refine cl1H.out.mono ?_
    rintro e w1 ⟨rfl, rfl⟩
    go_wp2_with fail
    refine (awH.out _ (.refl _ _)).mono ?_
    rintro e w2 ⟨rfl, hb2⟩
    go_wp2_with fail
    go_ret
    exact ⟨rfl, hb2⟩
  | true =>
  rw [hp] at cl1H
  obtain ⟨⟨tx, et⟩, ht⟩ : ∃ r, treeE G p = r := ⟨_, rfl⟩
  rw [ht] at ct cr hpl
  obtain ⟨tb, htb⟩ : ∃ tb : ByteArray, (⟨tx.toArray⟩ : ByteArray) = tb := ⟨_, rfl⟩
  have ct2 : Calls Tryz.prog 30 #[.int .i64 G, .slice a0 p.length c0] w fun e w' => e = .returned (.tuple #[.string tb, .int .i64 et]) ∧ Below w.heap.size w w' := ct.mono fun e w' h => ⟨by rw [← htb]; exact h.1, h.2⟩
  have cr2 : ∀ W, Below w.heap.size w W → Calls Tryz.prog 31 #[.int .i64 G, .slice a0 p.length c0] W fun e w' => e = .returned (.tuple #[.string tb, .int .i64 et]) ∧ Below W.heap.size W w' := fun W hb => (cr W hb).mono fun e w' h => ⟨by rw [← htb]; exact h.1, h.2⟩
  have ctH := Lib.hid ct2
  have crH := Lib.hid cr2
  clear ct cr ct2 cr2 hp ht
  by_cases het : et = 0
  case neg =>
    have hab : (et != 0) = true := by simpa using het
    clear hpl
    go_enter Tryz.func6, Tryz.ntmps6
    go_wp2_with fail
    refine cl1H.out.mono ?_
    rintro e w1 ⟨rfl, rfl⟩
    go_wp2_with fail
    refine ctH.out.mono ?_
    rintro e w1 ⟨rfl, hb1⟩
    go_wp2_with fail
    refine (crH.out _ hb1).mono ?_
    rintro e w2 ⟨rfl, hb2⟩
    have hb2 := bcall hb1 hb2
    go_wp2_with fail
    refine (awH.out _ hb2).mono ?_
    rintro e w6 ⟨rfl, hb6⟩
    go_wp2_with fail
    go_ret
    exact ⟨rfl, hb6⟩
  subst het
  obtain ⟨q, hu, hn, hqn, htq, n, m, hc1, hc2, hg1, hg2⟩ := hpl tx rfl
  rw [htb] at hu
  have cu := fun W => Untree_any G tb W
  rw [hu] at cu
  have cn := fun W (hb : Below w.heap.size w W) => Needed_any G a0 c0 p W (h3H.out.below hb)
  rw [hn] at cn
  have cc := fun W (hb : Below w.heap.size w W) => Count_any G a0 c0 p W (h3H.out.below hb)
  have ch := fun W (hb : Below w.heap.size w W) => Height_any G a0 c0 p W (h3H.out.below hb)
  rw [hc1] at cc
  rw [hg1] at ch
  obtain ⟨L, hL⟩ : ∃ L, (ndIdx p).map (fun i : Nat => (i : Int)) = L := ⟨_, rfl⟩
  have hLl : (ndIdx p).length = L.length := by rw [← hL, List.length_map]
  rw [hLl] at hqn
  rw [hL] at cn
  have cuH := Lib.hid cu
  have cnH := Lib.hid cn
  have ccH := Lib.hid cc
  have chH := Lib.hid ch
  have htqH := Lib.hid htq
  have hc2H := Lib.hid hc2
  have hg2H := Lib.hid hg2
  have htbH := Lib.hid htb
  clear cu cn cc ch htq hc2 hg2 htb hL hLl hn hc1 hg1 hu hpl
  go_enter Tryz.func6, Tryz.ntmps6
  go_wp2_with fail
  refine cl1H.out.mono ?_
  rintro e w1 ⟨rfl, rfl⟩
  go_wp2_with fail
  refine ctH.out.mono ?_
  rintro e w1 ⟨rfl, hb1⟩
  go_wp2_with fail
  refine (crH.out _ hb1).mono ?_
  rintro e w2 ⟨rfl, hb2⟩
  have hb2H := Lib.hid (bcall hb1 hb2)
  clear hb1 hb2
  go_wp2_with fail
  refine (cuH.out _).mono ?_
  rintro e w3 ⟨v3, rfl, o3, hb3⟩
  obtain ⟨a3, c3, rfl, s3⟩ := OwnSt.steps o3
  have m4 := s3.le
  have s3H := Lib.hid s3
  have hb3H := Lib.hid (bcall hb2H.out hb3)
  clear o3 s3 hb3
  simp only
  go_wp2_with fail
  refine (cnH.out _ hb3H.out).mono ?_
  rintro e w4 ⟨v4, rfl, o4, hb4⟩
  obtain ⟨a4, c4, rfl, s4⟩ := OwnI.ints o4
  have m5 := s4.le
  have s3H := Lib.hid (s3H.out.below hb4)
  have hb4H := Lib.hid (bcall hb3H.out hb4)
  clear o4 s4 hb4
  simp only
  go_wp2_with fail
  have ct2 := Tree_any G a3 c3 q w4 s3H.out (htabH.out.below hb4H.out)
  rw [htqH.out] at ct2
  have ct3 : Calls Tryz.prog 30 #[.int .i64 G, .slice a3 q.length c3] w4 fun e w' => e = .returned (.tuple #[.string tb, .int .i64 0]) ∧ Below w4.heap.size w4 w' := ct2.mono fun e w' h => ⟨by rw [← htbH.out]; exact h.1, h.2⟩
  have ct3H := Lib.hid ct3
  clear ct2 ct3
  refine ct3H.out.mono ?_
  rintro e w5 ⟨rfl, hb5⟩
  have s3H := Lib.hid (s3H.out.below hb5)
  have hb5H := Lib.hid (bcall hb4H.out hb5)
  clear hb5
  go_wp2_with fail
  refine (ccH.out _ hb5H.out).mono ?_
  rintro e w6 ⟨rfl, hb6⟩
  have s3H := Lib.hid (s3H.out.below hb6)
  have hb6H := Lib.hid (bcall hb5H.out hb6)
  clear hb6
  go_wp2_with fail
  have cc2 := Count_any G a3 c3 q w6 s3H.out
  rw [hc2H.out] at cc2
  refine cc2.mono ?_
  rintro e w7 ⟨rfl, hb7⟩
  have s3H := Lib.hid (s3H.out.below hb7)
  have hb7H := Lib.hid (bcall hb6H.out hb7)
  clear hb7 cc2
  go_wp2_with fail
  refine (chH.out _ hb7H.out).mono ?_
  rintro e w8 ⟨rfl, hb8⟩
  have s3H := Lib.hid (s3H.out.below hb8)
  have hb8H := Lib.hid (bcall hb7H.out hb8)
  clear hb8
  go_wp2_with fail
  have ch2 := Height_any G a3 c3 q w8 s3H.out
  rw [hg2H.out] at ch2
  refine ch2.mono ?_
  rintro e w9 ⟨rfl, hb9⟩
  have hb9H := Lib.hid (bcall hb8H.out hb9)
  clear hb9 ch2
  go_wp2_with fail
  refine (awH.out _ hb9H.out).mono ?_
  rintro e w10 ⟨rfl, hb10⟩
  go_wp2_with fail
  go_ret
  exact ⟨rfl, hb10⟩
end Go.Proofs.YtfcbdlfanmddbaaGreatDoor

/- The card of KernelTrees: for every input KernelTrees returns true and leaves its arguments as they were; the listed variables are tied to the program's text. No condition. -/
namespace Go.Proofs.YtfcbdlfanmddbaaGreatDoor
open Go Go.RowKit Go.ChangeShapes Go.WideShapes Go.ChangeAt

theorem kernelTrees_laid {W : World} : laidMetH Tryz.prog Rows.kernelTreesRow.laid W = laidMet Tryz.prog [("math/bits.deBruijn32tab", Rows.laid_math_bits_deBruijn32tab), ("math/bits.deBruijn64tab", Rows.laid_math_bits_deBruijn64tab), ("internal/strconv.uint64pow10", Lib.tabData .u64 Lib.pow10Tab), ("strconv.ErrRange", Rows.laid_strconv_ErrRange), ("strconv.ErrSyntax", Rows.laid_strconv_ErrSyntax)] W := by kernel_rfl
theorem kernelTrees_door (os : Os) (args : Array Value) : laidMetH Tryz.prog Rows.kernelTreesRow.laid ((World.doorLaid Tryz.prog 400 os).forCall (fun _ _ => 0) ⟨#[], args, []⟩).memory :=
  laidMetH_of_parts3 (fuel := 8) (laidMet_of_run' 8 (by kernel_rfl) (by kernel_rfl)) (by kernel_rfl) (by kernel_rfl)
set_option maxRecDepth 100000 in
theorem kernelTrees_lifted (os : Os) (started : os.Started) (H : Type) (enc : TypeId × Value → H) :
    ReturnsInHanded {} Tryz.checked os 6 .any (fun w args => (Rows.kernelTreesSpec.pre enc Tryz.prog Tryz.f6 [] false w args ∧ laidMetH Tryz.prog Rows.kernelTreesRow.laid w) ∧ sizedMet enc Tryz.prog Tryz.f6 (OpenSpec.ofChange Rows.kernelTreesSpec) false w args)
      (Rows.kernelTreesSpec.post enc Tryz.prog Tryz.f6 false true false false) := by
  refine returnsInHanded_of_change_and (C := Tryz.checked) (X := fun w _ => laidMetH Tryz.prog Rows.kernelTreesRow.laid w) (fun _ _ _ hh h => h.of_heap hh) Tryz.own started (by kernel_rfl) Tryz.func6
    (ChangeSpec.witness_shaped (enc := enc) (C := Tryz.checked) (os := os) (X := fun w _ => laidMetH Tryz.prog Rows.kernelTreesRow.laid w) false (World.doorLaid Tryz.prog 400 os) #[.int .i64 0, .slice none 0 0] 8 rfl (World.shaped_of_RefB (by kernel_rfl) (by kernel_rfl)) (by kernel_rfl) (by kernel_rfl) (by kernel_rfl) (kernelTrees_door os _)) ?_
  intro W base args ds gs before hval0 hW _ _ hL _
  have hTab : TabW W := tabW_of_laid (n1 := _) (n2 := _) (d1 := _) (d2 := _) (rest := _) (Eq.mp kernelTrees_laid hL)
  clear hL
  have hval : ∀ (j : Nat) t v, Tryz.f6.params[j]? = some t → args[j]? = some v → Value.okWide Tryz.prog W .any base t v := hval0
  have hW' := hW
  obtain ⟨p, q, hA0, hV, rfl, hfz, hnd⟩ := hW
  have hA : DataW.TrodAll enc Tryz.prog W 0 (fun _ => true) true Tryz.f6.params.toList args.toList ds p := hA0
  rw [Tryz.params6] at hA hval
  obtain ⟨v0, v1, d0, d1, p0, p1, rfl, rfl, rfl, h0, h1⟩ := trodAll_two hA
  obtain ⟨rfl, rfl⟩ := trodVars_none hV
  clear hA0 hval0
  simp only [List.append_nil] at hW'
  have hlt : ∀ x ∈ p0 ++ p1, x.block < W.heap.size := fun x hx => hW'.lt x (by simpa using hx)
  have keep0 := fun (W' : World) (hn : Below W.heap.size W W') => Below.trod Tryz.laidOut (by kernel_rfl) (of_decide_eq_true (by kernel_rfl)) h0 hn (fun x hx => hlt x (by simp [hx]))
  have keep1 := fun (W' : World) (hn : Below W.heap.size W W') => Below.trod Tryz.laidOut (by kernel_rfl) (of_decide_eq_true (by kernel_rfl)) h1 hn (fun x hx => hlt x (by simp [hx]))
  obtain ⟨x0, rfl, rfl, rfl, wx0⟩ := open_int Tryz.underlying3 (hval 0 3 v0 rfl rfl) h0
  obtain ⟨l1, a1, c1, rfl, r1⟩ := gSteps.arg h1 (okWide_slice Tryz.underlying25 (hval 1 25 v1 rfl rfl))
  refine (KernelTrees_walk _ _ _ _ W r1 hTab).mono fun e W' ⟨he, hB⟩ => ?_
  subst he
  exact ⟨_, rfl, _, _, _, [], _, [], hW', trodAll_mk1 (shut_bool Tryz.underlying4 true), trodAll_mk2 (keep0 _ hB) (keep1 _ hB), rfl, hB.frame _, fun h => by cases h⟩

/-- KernelTrees: for every input it returns true, and each argument reads as it did. -/
theorem kernelTrees_holds : Rows.KernelTreesSaid :=
  OpenClaim.holds_of_wide 6 Tryz.f6 rfl rfl rfl rfl rfl rfl rfl ⟨rfl, rfl, rfl, rfl, rfl⟩ rfl rfl rfl rfl rfl (by kernel_rfl) Tryz.func6 (by kernel_rfl)
    (of_decide_eq_true (by kernel_rfl)) (by unfold Func.isWrapper; first | (rw [if_pos (by decide +kernel)]; kernel_rfl) | (rw [if_neg (by decide +kernel)]; exact ⟨rfl, rfl⟩))
    (fun os started H enc _ => kernelTrees_lifted os started H enc)
/-- the card of KernelTrees -/
theorem kernelTrees_card_holds : Rows.KernelTreesCardSaid :=
  Claim7.holds_tied_plain_at .later [] [.data, .data, .data, .sentinel, .sentinel] true Rows.kernelTreesCard.stood.harness Rows.kernelTreesCard.stood.looks
    kernelTrees_holds (fun _ h => by cases h) (by kernel_rfl) (fun _ h => by cases h) kernelTrees_row_tie rfl ⟨rfl, rfl⟩ (by kernel_rfl) rfl
    (fun f fn hf hfn => by
      obtain rfl : f = 6 := Option.some.inj ((show Tryz.prog.funcNamed Rows.kernelTreesRow.func = some 6 by kernel_rfl).symm.trans hf) |>.symm
      obtain rfl : fn = Tryz.f6 := (Option.some.inj (Tryz.func6.symm.trans hfn)).symm
      exact ⟨by kernel_rfl, fun j t ht => by
        rw [Tryz.params6] at ht
        have hm : t ∈ [3, 25] := by simpa using Array.mem_of_getElem? ht
        have hall : ([3, 25].all fun u => !Tryz.prog.wantsStandIn u) = true := by kernel_rfl
        exact (show Tryz.prog.wantsStandIn t = false by simpa using List.all_eq_true.1 hall t hm)⟩)
    (by kernel_rfl)
end Go.Proofs.YtfcbdlfanmddbaaGreatDoor
