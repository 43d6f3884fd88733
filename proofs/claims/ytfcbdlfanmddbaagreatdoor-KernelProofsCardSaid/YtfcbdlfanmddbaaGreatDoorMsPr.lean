/- The card of KernelProofs: for every input KernelProofs returns true and leaves its arguments as they were; the listed variables are tied to the program's text. No condition. -/
import Derived.Test.YtfcbdlfanmddbaaGreatDoorBase
import Derived.Test.YtfcbdlfanmddbaaGreatDoorMsA
import Derived.ProofKit
import Derived.LaidMore
import Derived.OpenShut
import Derived.Stop.Joined
import Derived.Test.YtfcbdlfanmddbaaGreatDoorMsR
import Derived.Test.YtfcbdlfanmddbaaGreatDoorMsN
import Derived.Test.YtfcbdlfanmddbaaGreatDoorMsX
import Derived.Test.YtfcbdlfanmddbaaGreatDoorCards
import Derived.Test.YtfcbdlfanmddbaaGreatDoorTie
/- Facts of the program's types that the rows over the kernel want; the start of a row that lists variables. -/
namespace Go.Proofs.YtfcbdlfanmddbaaGreatDoor
open Go Go.RowKit Go.ChangeShapes Go.WideShapes Go.ChangeAt Go.Deep

theorem gives3 {P : Program} {t : TypeId} {α β γ : Type} {E : Enc α} {F : Enc β} {G : Enc γ} {f0 f1 f2 : Field} (ht : P.underlying t = some (.struct #[f0, f1, f2])) (h0 : f0.offset = 0) (h1 : f1.offset = E.size) (h2 : f2.offset = E.size + F.size) (hc : P.cellsOf t = E.size + (F.size + G.size))
    (hc0 : P.cellsOf f0.type = E.size) (hc1 : P.cellsOf f1.type = F.size) (hc2 : P.cellsOf f2.type = G.size) (g0 : Gives P f0.type E) (g1 : Gives P f1.type F) (g2 : Gives P f2.type G) : Gives P t (pairE E (pairE F G)) := by
  intro H enc w base spare held n cs x h
  obtain ⟨y0, y1, y2, n', _, hl, r0, r1, r2⟩ := trod_struct3 ht h
  obtain ⟨a, ha⟩ := g0 H enc w base spare held n' _ _ r0
  obtain ⟨b, hb⟩ := g1 H enc w base spare held n' _ _ r1
  obtain ⟨c, hcc⟩ := g2 H enc w base spare held n' _ _ r2
  refine ⟨(a, b, c), _, _, ?_, ha, _, _, rfl, hb, hcc⟩
  rw [h0, h1, h2, hc0, hc1, hc2, List.drop_zero]
  have e1 : (cs.drop (E.size + F.size)).take G.size = cs.drop (E.size + F.size) := List.take_of_length_le (by simp; omega)
  rw [e1, ← List.drop_drop, List.take_append_drop, List.take_append_drop]
theorem gStp : Gives Tryz.prog 79 stpE := gives3 Tryz.underlying79 rfl rfl rfl (by kernel_rfl) (by kernel_rfl) (by kernel_rfl) (by kernel_rfl) gInt gInt gInt
theorem gSteps : Gives Tryz.prog 25 (slE stpE) := gives_slice Tryz.underlying25 (by kernel_rfl) gStp
theorem gives_array2 {P : Program} {t e : TypeId} {α : Type} {E : Enc α} (ht : P.underlying t = some (.array 2 e)) (hc : P.cellsOf t = E.size + E.size) (he : P.cellsOf e = E.size) (g : Gives P e E) : Gives P t (pairE E E) := by
  intro H enc w base spare held n cs x h
  obtain ⟨xs, m, _, _, hl, hx, hf⟩ := DataW.trod_array ht h
  match xs, hx with
  | [x0, x1], _ =>
    obtain ⟨a, ha⟩ := g H enc w base spare held m _ _ (hf 0 (by omega))
    obtain ⟨b, hb⟩ := g H enc w base spare held m _ _ (hf 1 (by omega))
    refine ⟨(a, b), _, _, ?_, ha, hb⟩
    rw [he, Nat.zero_mul, Nat.one_mul, List.drop_zero]
    have e1 : (cs.drop E.size).take E.size = cs.drop E.size := List.take_of_length_le (by simp; omega)
    rw [e1, List.take_append_drop]
theorem gClaim : Gives Tryz.prog 44 (pairE (slE (slE intE)) (pairE (slE stpE) (slE intE))) := gives3 Tryz.underlying44 rfl rfl rfl (by kernel_rfl) (by kernel_rfl) (by kernel_rfl) (by kernel_rfl) gTerms gSteps gTerm
end Go.Proofs.YtfcbdlfanmddbaaGreatDoor

/- Walks that the laws on kernel share: shelf, Light; awake behind what came before it. -/
namespace Go.Proofs.YtfcbdlfanmddbaaGreatDoor
open Go Go.RowKit Go.Maps

theorem Light_any {S : Nat → Prop} (a : Option Addr) (c : Nat) (p : List Stp) (w : World) (h : Steps S w a c p) :
    Calls Tryz.prog 11 #[.slice a p.length c] w fun e w' => e = .returned (.bool (decide (p.length ≤ 100))) ∧ w = w' := by
  have m := h.le
  go_enter Tryz.func11, Tryz.ntmps11
  go_wp2_with fail
  go_ret
  exact ⟨ret_bool (by rw [Bool.eq_iff_iff]; simp only [decide_eq_true_eq]; omega), rfl⟩
def shelfT (s : Sg) (g : List (List Int)) : Bool := decide (g.length ≤ 80) && smallT s g
theorem shelf_any {S1 S2 : Nat → Prop} (a1 ag : Option Addr) (c1 cg : Nat) (s : Sg) (g : List (List Int)) (w : World) (h1 : Sign S1 w a1 c1 s) (h2 : Terms S2 w ag cg g) :
    Calls Tryz.prog 10 #[.slice a1 s.length c1, .slice ag g.length cg] w fun e w' => e = .returned (.bool (shelfT s g)) ∧ w = w' := by
  have m1 := h1.le
  have m2 := h2.le
  have csH := Lib.hid (Small_any a1 ag c1 cg s g w h1 h2)
  clear h1 h2
  unfold shelfT
  by_cases h80 : g.length ≤ 80
  · have hd : decide ((g.length : Int) ≤ 80) = true := by simp; omega
    rw [decide_eq_true h80]
    go_enter Tryz.func10, Tryz.ntmps10
    go_wp2_with fail
    refine csH.out.mono ?_
    rintro e w1 ⟨rfl, rfl⟩
    go_wp2_with fail
    go_ret
    exact ⟨rfl, rfl⟩
  · have hd : decide ((g.length : Int) ≤ 80) = false := by simp; omega
    rw [decide_eq_false h80]
    go_enter Tryz.func10, Tryz.ntmps10
    go_wp2_with fail
    go_ret
    exact ⟨rfl, rfl⟩
theorem aw4_from {B : Nat} {W W' : World} (hb : Below B W W') (hB : B ≤ W.heap.size) : Calls Tryz.prog 12 #[] W' fun e w' => e = .returned (.bool true) ∧ Below B W w' :=
  (awake4_any W').mono fun _ _ h => ⟨h.1, hb.trans (h.2.mono (Nat.le_trans hB hb.size))⟩
end Go.Proofs.YtfcbdlfanmddbaaGreatDoor

/- The law KernelProofs, walked. -/
namespace Go.Proofs.YtfcbdlfanmddbaaGreatDoor
open Go Go.RowKit Go.Maps

set_option maxRecDepth 100000 in
set_option maxHeartbeats 4000000 in
theorem KernelProofs_walk {S : Nat → Prop} (G : Int) (a0 : Option Addr) (c0 : Nat) (p : List Stp) (w : World) (h3 : Steps S w a0 c0 p) :
    Calls Tryz.prog 8 #[.int .i64 G, .slice a0 p.length c0] w fun e w' => e = .returned (.bool true) ∧ Below w.heap.size w w' := by
  have m3 := h3.le
  have h3H := Lib.hid h3
  have cl1H := Lib.hid (Light_any a0 c0 p w h3H.out)
  have awH := Lib.hid (fun W' (hb : Below w.heap.size w W') => aw4_from hb (Nat.le_refl _))
  cases hp : decide (p.length ≤ 100) with
  | false =>
    rw [hp] at cl1H
    clear h3
    go_enter Tryz.func8, Tryz.ntmps8
    go_wp2_with fail
    refine cl1H.out.mono ?_
    rintro e w1 ⟨rfl, rfl⟩
    go_wp2_with fail
    refine (awH.out _ (.refl _ _)).mono ?_
    rintro e w2 ⟨rfl, hb2⟩
    go_wp2_with fail
    go_ret
    exact ⟨rfl, hb2⟩
  | true =>
  rw [hp] at cl1H
  have v1 := ValidProof_any G a0 c0 p w h3
  have v2 := fun W (hb : Below w.heap.size w W) => rValidProof_any G a0 c0 p W (h3.below hb)
  have n1 := fun W (hb : Below w.heap.size w W) => Needed_any G a0 c0 p W (h3.below hb)
  have n2 := fun W (hb : Below w.heap.size w W) => rNeeded_any G a0 c0 p W (h3.below hb)
  have d1 := fun W (hb : Below w.heap.size w W) => Cited_any G a0 c0 p W (h3.below hb)
  have d2 := fun W (hb : Below w.heap.size w W) => rCited_any G a0 c0 p W (h3.below hb)
  have c1 := fun W (hb : Below w.heap.size w W) => Count_any G a0 c0 p W (h3.below hb)
  have c2 := fun W (hb : Below w.heap.size w W) => rCount_any G a0 c0 p W (h3.below hb)
  have g1 := fun W (hb : Below w.heap.size w W) => Height_any G a0 c0 p W (h3.below hb)
  have g2 := fun W (hb : Below w.heap.size w W) => rHeight_any G a0 c0 p W (h3.below hb)
  obtain ⟨vb, hvb⟩ : ∃ r, proofB G p = r := ⟨_, rfl⟩
  obtain ⟨⟨nl, ne⟩, hn⟩ : ∃ r, neededE G p = r := ⟨_, rfl⟩
  obtain ⟨⟨dl, de⟩, hd⟩ : ∃ r, citedE G p = r := ⟨_, rfl⟩
  obtain ⟨⟨cl, ce⟩, hc⟩ : ∃ r, pcntE G p = r := ⟨_, rfl⟩
  obtain ⟨⟨gl, ge⟩, hg⟩ : ∃ r, hgtE G p = r := ⟨_, rfl⟩
  rw [hvb] at v1
  simp only [hvb] at v2
  rw [hn] at n1 n2
  rw [hd] at d1 d2
  rw [hc] at c1 c2
  rw [hg] at g1 g2
  have v1H := Lib.hid v1
  have v2H := Lib.hid v2
  have n1H := Lib.hid n1
  have n2H := Lib.hid n2
  have d1H := Lib.hid d1
  have d2H := Lib.hid d2
  have c1H := Lib.hid c1
  have c2H := Lib.hid c2
  have g1H := Lib.hid g1
  have g2H := Lib.hid g2
  clear h3 h3H hp hvb hn hd hc hg v1 v2 n1 n2 d1 d2 c1 c2 g1 g2
  go_enter Tryz.func8, Tryz.ntmps8
  go_wp2_with fail
  refine cl1H.out.mono ?_
  rintro e w1 ⟨rfl, rfl⟩
  go_wp2_with fail
  refine v1H.out.mono ?_
  rintro e w1 ⟨rfl, hb1⟩
  go_wp2_with fail
  refine (v2H.out _ hb1).mono ?_
  rintro e w2 ⟨rfl, hb2⟩
  have hb2 := Lib.hid (bcall hb1 hb2)
  clear hb1 v1H v2H cl1H
  try simp only
  go_wp2_with fail
  refine (n1H.out _ hb2.out).mono ?_
  rintro e w3 ⟨v3, rfl, o3, hb3⟩
  obtain ⟨a3, k3, rfl, i3⟩ := OwnI.ints o3
  have i3H := Lib.hid i3
  have hb3 := Lib.hid (bcall hb2.out hb3)
  clear o3 hb2 i3 n1H
  simp only
  go_wp2_with fail
  refine (n2H.out _ hb3.out).mono ?_
  rintro e w4 ⟨v4, rfl, o4, hb4⟩
  obtain ⟨a4, k4, rfl, i4⟩ := OwnI.ints o4
  have cs := SameInts_any a3 a4 k3 k4 _ _ w4 (i3H.out.below hb4) i4
  rw [decide_eq_true rfl] at cs
  have csH := Lib.hid cs
  have hb4 := Lib.hid (bcall hb3.out hb4)
  clear o4 hb3 i4 i3H cs n2H
  simp only at csH ⊢
  go_wp2_with fail
  refine csH.out.mono ?_
  rintro e w5 ⟨rfl, hd5⟩
  have hb5 := Lib.hid (bcall hb4.out (hd5.below _))
  clear hb4 hd5 csH
  go_wp2_with fail
  refine (d1H.out _ hb5.out).mono ?_
  rintro e w6 ⟨v6, rfl, o6, hb6⟩
  obtain ⟨a6, k6, rfl, i6⟩ := OwnI.ints o6
  have i6H := Lib.hid i6
  have hb6 := Lib.hid (bcall hb5.out hb6)
  clear o6 hb5 i6 d1H
  simp only
  go_wp2_with fail
  refine (d2H.out _ hb6.out).mono ?_
  rintro e w7 ⟨v7, rfl, o7, hb7⟩
  obtain ⟨a7, k7, rfl, i7⟩ := OwnI.ints o7
  have cs := SameInts_any a6 a7 k6 k7 _ _ w7 (i6H.out.below hb7) i7
  rw [decide_eq_true rfl] at cs
  have csH := Lib.hid cs
  have hb7 := Lib.hid (bcall hb6.out hb7)
  clear o7 hb6 i7 i6H cs d2H
  simp only at csH ⊢
  go_wp2_with fail
  refine csH.out.mono ?_
  rintro e w8 ⟨rfl, hd8⟩
  have hb8 := Lib.hid (bcall hb7.out (hd8.below _))
  clear hb7 hd8 csH
  go_wp2_with fail
  refine (c1H.out _ hb8.out).mono ?_
  rintro e w9 ⟨rfl, hb9⟩
  have hb9 := Lib.hid (bcall hb8.out hb9)
  clear hb8 c1H
  go_wp2_with fail
  refine (c2H.out _ hb9.out).mono ?_
  rintro e w10 ⟨rfl, hb10⟩
  have hb10 := Lib.hid (bcall hb9.out hb10)
  clear hb9 c2H
  go_wp2_with fail
  refine (g1H.out _ hb10.out).mono ?_
  rintro e w11 ⟨rfl, hb11⟩
  have hb11 := Lib.hid (bcall hb10.out hb11)
  clear hb10 g1H
  go_wp2_with fail
  refine (g2H.out _ hb11.out).mono ?_
  rintro e w12 ⟨rfl, hb12⟩
  have hb12 := Lib.hid (bcall hb11.out hb12)
  clear hb11 g2H
  go_wp2_with fail
  refine (awH.out _ hb12.out).mono ?_
  rintro e w13 ⟨rfl, hb13⟩
  go_wp2_with fail
  go_ret
  exact ⟨rfl, hb13⟩
end Go.Proofs.YtfcbdlfanmddbaaGreatDoor

/- The card of KernelProofs: for every input KernelProofs returns true and leaves its arguments as they were; the listed variables are tied to the program's text. No condition. -/
namespace Go.Proofs.YtfcbdlfanmddbaaGreatDoor
open Go Go.RowKit Go.ChangeShapes Go.WideShapes Go.ChangeAt

theorem kernelProofs_door (os : Os) (args : Array Value) : laidMetH Tryz.prog Rows.kernelProofsRow.laid ((World.doorLaid Tryz.prog 400 os).forCall (fun _ _ => 0) ⟨#[], args, []⟩).memory :=
  laidMetH_of_parts3 (fuel := 8) (laidMet_of_run' 8 (by kernel_rfl) (by kernel_rfl)) (by kernel_rfl) (by kernel_rfl)
set_option maxRecDepth 100000 in
theorem kernelProofs_lifted (os : Os) (started : os.Started) (H : Type) (enc : TypeId × Value → H) :
    ReturnsInHanded {} Tryz.checked os 8 .any (fun w args => (Rows.kernelProofsSpec.pre enc Tryz.prog Tryz.f8 [] false w args ∧ laidMetH Tryz.prog Rows.kernelProofsRow.laid w) ∧ sizedMet enc Tryz.prog Tryz.f8 (OpenSpec.ofChange Rows.kernelProofsSpec) false w args)
      (Rows.kernelProofsSpec.post enc Tryz.prog Tryz.f8 false true false false) := by
  refine returnsInHanded_of_change_and (C := Tryz.checked) (X := fun w _ => laidMetH Tryz.prog Rows.kernelProofsRow.laid w) (fun _ _ _ hh h => h.of_heap hh) Tryz.own started (by kernel_rfl) Tryz.func8
    (ChangeSpec.witness_shaped (enc := enc) (C := Tryz.checked) (os := os) (X := fun w _ => laidMetH Tryz.prog Rows.kernelProofsRow.laid w) false (World.doorLaid Tryz.prog 400 os) #[.int .i64 0, .slice none 0 0] 8 rfl (World.shaped_of_RefB (by kernel_rfl) (by kernel_rfl)) (by kernel_rfl) (by kernel_rfl) (by kernel_rfl) (kernelProofs_door os _)) ?_
  intro W base args ds gs before hval0 hW _ _ hL _
  clear hL
  have hval : ∀ (j : Nat) t v, Tryz.f8.params[j]? = some t → args[j]? = some v → Value.okWide Tryz.prog W .any base t v := hval0
  have hW' := hW
  obtain ⟨p, q, hA0, hV, rfl, hfz, hnd⟩ := hW
  have hA : DataW.TrodAll enc Tryz.prog W 0 (fun _ => true) true Tryz.f8.params.toList args.toList ds p := hA0
  rw [Tryz.params8] at hA hval
  obtain ⟨v0, v1, d0, d1, p0, p1, rfl, rfl, rfl, h0, h1⟩ := trodAll_two hA
  obtain ⟨rfl, rfl⟩ := trodVars_none hV
  clear hA0 hval0
  simp only [List.append_nil] at hW'
  have hlt : ∀ x ∈ p0 ++ p1, x.block < W.heap.size := fun x hx => hW'.lt x (by simpa using hx)
  have keep0 := fun (W' : World) (hn : Below W.heap.size W W') => Below.trod Tryz.laidOut (by kernel_rfl) (of_decide_eq_true (by kernel_rfl)) h0 hn (fun x hx => hlt x (by simp [hx]))
  have keep1 := fun (W' : World) (hn : Below W.heap.size W W') => Below.trod Tryz.laidOut (by kernel_rfl) (of_decide_eq_true (by kernel_rfl)) h1 hn (fun x hx => hlt x (by simp [hx]))
  obtain ⟨x0, rfl, rfl, rfl, wx0⟩ := open_int Tryz.underlying3 (hval 0 3 v0 rfl rfl) h0
  obtain ⟨l1, a1, c1, rfl, r1⟩ := gSteps.arg h1 (okWide_slice Tryz.underlying25 (hval 1 25 v1 rfl rfl))
  refine (KernelProofs_walk _ _ _ _ W r1).mono fun e W' ⟨he, hB⟩ => ?_
  subst he
  exact ⟨_, rfl, _, _, _, [], _, [], hW', trodAll_mk1 (shut_bool Tryz.underlying4 true), trodAll_mk2 (keep0 _ hB) (keep1 _ hB), rfl, hB.frame _, fun h => by cases h⟩

/-- KernelProofs: for every input it returns true, and each argument reads as it did. -/
theorem kernelProofs_holds : Rows.KernelProofsSaid :=
  OpenClaim.holds_of_wide 8 Tryz.f8 rfl rfl rfl rfl rfl rfl rfl ⟨rfl, rfl, rfl, rfl, rfl⟩ rfl rfl rfl rfl rfl (by kernel_rfl) Tryz.func8 (by kernel_rfl)
    (of_decide_eq_true (by kernel_rfl)) (by unfold Func.isWrapper; first | (rw [if_pos (by decide +kernel)]; kernel_rfl) | (rw [if_neg (by decide +kernel)]; exact ⟨rfl, rfl⟩))
    (fun os started H enc _ => kernelProofs_lifted os started H enc)
/-- the card of KernelProofs -/
theorem kernelProofs_card_holds : Rows.KernelProofsCardSaid :=
  Claim7.holds_tied_plain_at .later [] [.data, .data, .data, .sentinel, .sentinel] true Rows.kernelProofsCard.stood.harness Rows.kernelProofsCard.stood.looks
    kernelProofs_holds (fun _ h => by cases h) (by kernel_rfl) (fun _ h => by cases h) kernelProofs_row_tie rfl ⟨rfl, rfl⟩ (by kernel_rfl) rfl
    (fun f fn hf hfn => by
      obtain rfl : f = 8 := Option.some.inj ((show Tryz.prog.funcNamed Rows.kernelProofsRow.func = some 8 by kernel_rfl).symm.trans hf) |>.symm
      obtain rfl : fn = Tryz.f8 := (Option.some.inj (Tryz.func8.symm.trans hfn)).symm
      exact ⟨by kernel_rfl, fun j t ht => by
        rw [Tryz.params8] at ht
        have hm : t ∈ [3, 25] := by simpa using Array.mem_of_getElem? ht
        have hall : ([3, 25].all fun u => !Tryz.prog.wantsStandIn u) = true := by kernel_rfl
        exact (show Tryz.prog.wantsStandIn t = false by simpa using List.all_eq_true.1 hall t hm)⟩)
    (by kernel_rfl)
end Go.Proofs.YtfcbdlfanmddbaaGreatDoor
