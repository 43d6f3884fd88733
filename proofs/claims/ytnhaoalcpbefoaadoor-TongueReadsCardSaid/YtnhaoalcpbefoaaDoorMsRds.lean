/- The card of TongueReads: for every input TongueReads returns true and leaves its arguments as they were; the listed variables are tied to the program's text. No condition. -/
import Derived.Test.YtnhaoalcpbefoaaDoorMsD
import Derived.Handed
import Derived.Test.YtnhaoalcpbefoaaDoorMsH
import Derived.Test.YtnhaoalcpbefoaaDoorMsC
import Derived.Test.YtnhaoalcpbefoaaDoorMsF
import Derived.Test.YtnhaoalcpbefoaaDoorMsI
import Derived.Test.YtnhaoalcpbefoaaDoorCards
import Derived.Test.YtnhaoalcpbefoaaDoorTie
/- strconv's two errors, out of the laid list. -/
namespace Go.Proofs.YtnhaoalcpbefoaaDoor
open Go Go.RowKit

theorem iface_cellsT {H : Type} {enc : TypeId × Value → H} {P : Program} {w : World} {sp : Nat → Bool} {fuel : Nat} {t : TypeId} {ms : Array (String × TypeId)} {cs : List Value} {x : DataW H × List MemPlace} (ht : P.underlying t = some (.interface ms))
    (h : DataW.trod enc P w 0 sp false fuel t cs = some x) : ∃ v, cs = [v] ∧ (v = .nilIface ∨ ∃ te pe, v = .iface te pe) := by
  cases fuel with
  | zero => simp [DataW.trod] at h
  | succ fuel =>
    unfold DataW.trod at h
    rw [ht] at h
    split at h <;> first | exact ⟨_, rfl, .inl rfl⟩ | exact ⟨_, rfl, .inr ⟨_, _, rfl⟩⟩ | (rename_i h2; cases h2; done) | cases h
theorem sent_of_cellsT {w : World} {g : Nat} {n : String} {cs : Array Value} (hg : Tryd.prog.globalNamed n = some g) (hv : w.var? Tryd.prog n = some cs) (hc : ∃ v, cs.toList = [v] ∧ (v = .nilIface ∨ ∃ te pe, v = .iface te pe)) : SentT w g := by
  obtain ⟨v, h1, h2⟩ := hc
  unfold World.var? at hv
  rw [hg, Option.bind_some] at hv
  split at hv
  · rename_i cs' t' f' hh
    obtain rfl := Option.some.inj hv
    have h3 : cs'[0]? = some v := by rw [← Array.getElem?_toList, h1]; rfl
    exact ⟨v, by simp [World.cell?, hh, h3], h2⟩
  · cases hv
theorem libT_of_laid {W : World} {n1 n2 n3 : String} {d1 d2 d3 d4 d5 : DataW Unit} {rest : List (String × DataW Unit)} (h : laidMet Tryd.prog ((n1, d1) :: (n2, d2) :: (n3, d3) :: ("strconv.ErrRange", d4) :: ("strconv.ErrSyntax", d5) :: rest) W) : LibT W := by
  have hg4 : Tryd.prog.globalNamed "strconv.ErrRange" = some 2 := by kernel_rfl
  have hg5 : Tryd.prog.globalNamed "strconv.ErrSyntax" = some 1 := by kernel_rfl
  have ht4 : (Tryd.prog.globals[2]?).map (·.type) = some 77 := by kernel_rfl
  have ht5 : (Tryd.prog.globals[1]?).map (·.type) = some 77 := by kernel_rfl
  obtain ⟨ps, ⟨_, _, _, _, _, _, _, _, _, _, ⟨_, _, _, _, _, _, _, _, _, _, ⟨_, _, _, _, _, _, _, _, _, _, ⟨g4, t4, cs4, f4, p4, q4, a4, b4, c4, e4, ⟨g5, t5, cs5, f5, p5, q5, a5, b5, c5, e5, _, _⟩, _⟩, _⟩, _⟩, _⟩, _⟩ := h
  obtain rfl := Option.some.inj (hg4.symm.trans a4)
  obtain rfl := Option.some.inj (hg5.symm.trans a5)
  obtain rfl := Option.some.inj (ht4.symm.trans b4)
  obtain rfl := Option.some.inj (ht5.symm.trans b5)
  exact ⟨sent_of_cellsT hg5 c5 (iface_cellsT Tryd.underlying77 e5), sent_of_cellsT hg4 c4 (iface_cellsT Tryd.underlying77 e4)⟩
end Go.Proofs.YtnhaoalcpbefoaaDoor

/- Facts of the program's types that the rows over the tongues want. -/
namespace Go.Proofs.YtnhaoalcpbefoaaDoor
open Go Go.RowKit Go.ChangeShapes Go.WideShapes Go.ChangeAt Go.Deep

end Go.Proofs.YtnhaoalcpbefoaaDoor

/- The law TongueReads, walked. -/
namespace Go.Proofs.YtnhaoalcpbefoaaDoor
open Go Go.RowKit Go.Maps

theorem readE_cases (s : Sg) (k : Int) (b : List UInt8) : ((readE s k b).1 = [] ∧ (readE s k b).2 ≠ 0) ∨ (∃ t, readE s k b = (t, 0) ∧ writeE s k t = (b, 0)) := by
  unfold readE
  cases h1 : okSign s
  · left; simp
  · cases h2 : (decide (1 ≤ k) && decide (k ≤ 3))
    · left; simp
    · by_cases h3 : b.length ≤ 65536
      · rw [if_pos rfl, if_pos rfl, if_pos h3]
        rcases find_inv (s := s) (k := k.toNat) (b := b) with ⟨t, e1, e2, e3⟩ | e
        · right
          refine ⟨t, e3, ?_⟩
          unfold writeE
          rw [if_pos e1, if_pos h2, e2]
        · left; rw [e]; simp
      · left; simp [h3]
set_option maxRecDepth 100000 in
set_option maxHeartbeats 8000000 in
theorem TongueReads_walk {S1 : Nat → Prop} (a1 : Option Addr) (c1 : Nat) (s : Sg) (k : Int) (text : ByteArray) (w : World) (h1 : Sign S1 w a1 c1 s) (hL : LibT w) :
    Calls Tryd.prog 4 #[.slice a1 s.length c1, .int .i64 k, .string text] w fun e w' => e = .returned (.bool true) ∧ Below w.heap.size w w' := by
  have m1 := h1.le
  have sm : Calls Tryd.prog 7 #[.slice a1 s.length c1, .slice none 0 0] w fun e w' => e = .returned (.bool (smallT s [])) ∧ w = w' := Small_any (S2 := fun _ => True) a1 none c1 0 s [] w h1 (Sl.empty)
  have aw := Lib.hid (fun W' (hb : Below w.heap.size w W') => aw3_from hb (Nat.le_refl _))
  have h1H := Lib.hid h1
  have hLH := Lib.hid hL
  clear h1 hL
  cases z0 : smallT s [] with
  | false =>
    rw [z0] at sm
    have smH := Lib.hid sm
    clear sm z0
    go_enter Tryd.func4, Tryd.ntmps4
    go_wp2_with fail
    refine smH.out.mono ?_
    rintro e w1 ⟨rfl, rfl⟩
    go_wp2_with fail
    refine (aw.out _ (.refl _ _)).mono ?_
    rintro e w2 ⟨rfl, hb2⟩
    go_wp2_with fail
    go_ret
    exact ⟨rfl, hb2⟩
  | true =>
  rw [z0] at sm
  have smH := Lib.hid sm
  have crd := Lib.hid (TRead_any a1 c1 s k text w h1H.out hLH.out)
  have crr := Lib.hid (fun W' (hb : Below w.heap.size w W') => rTRead_any a1 c1 s k text W' (h1H.out.below hb))
  have cs := Lib.hid (fun (t : List Int) W' (S8 S9 : Nat → Prop) aU cU aV cV (hU : Ints S8 W' aU cU t) (hV : Ints S9 W' aV cV t) => Same_any aU aV cU cV t t W' hU hV)
  have cw := Lib.hid (fun (t : List Int) W' (hb : Below w.heap.size w W') (S8 : Nat → Prop) aU cU (hU : Ints S8 W' aU cU t) => Write_any a1 aU c1 cU s k t W' (h1H.out.below hb) hU)
  clear sm z0
  rcases readE_cases s k text.data.toList with ⟨hn1, hn2⟩ | ⟨t, hr, hwr⟩
  · obtain ⟨y, hy⟩ : ∃ y, readE s k text.data.toList = y := ⟨_, rfl⟩
    rw [hy] at crd crr hn1 hn2
    obtain ⟨y1, y2⟩ := y
    dsimp only at hn1 hn2
    subst hn1
    have hy2 : (y2 == (0 : Int)) = false := by simpa using hn2
    have cs2 := Lib.hid (fun W' (S8 S9 : Nat → Prop) aU cU aV cV (hU : Ints S8 W' aU cU []) (hV : Ints S9 W' aV cV []) => (show Calls Tryd.prog 12 #[.slice aU 0 cU, .slice aV 0 cV] W' (fun e w' => e = .returned (.bool (decide (([] : List Int) = []))) ∧ Drew W' w') from cs.out [] W' S8 S9 aU cU aV cV hU hV))
    clear hy hn2
    go_enter Tryd.func4, Tryd.ntmps4
    go_wp2_with fail
    refine smH.out.mono ?_
    rintro e w1 ⟨rfl, rfl⟩
    go_wp2_with fail
    (with_reducible refine crd.out.mono ?_)
    rintro e w2 ⟨v2, rfl, hO2, hb2⟩
    have hB2 := Lib.hid hb2
    clear hb2
    go_wp2_with fail
    (with_reducible refine (crr.out _ hB2.out).mono ?_)
    rintro e w3 ⟨v3, rfl, hO3, hb3⟩
    have hO2' := OwnL.call hO2 hb3
    have hB3 := Lib.hid (bcall hB2.out hb3)
    obtain ⟨aU, cU, rfl, hI2⟩ := OwnI.ints hO2'
    obtain ⟨aV, cV, rfl, hI3⟩ := OwnI.ints hO3
    have hI2H := Lib.hid hI2
    have hI3H := Lib.hid hI3
    clear hb3 hO2 hO3 hO2' hI2 hI3
    go_wp2_with fail
    (with_reducible refine (cs2.out _ _ _ _ _ _ _ hI2H.out hI3H.out).mono ?_)
    rintro e w4 ⟨rfl, hd4⟩
    have hB4 := Lib.hid (bcall hB3.out (hd4.below _))
    clear hd4
    simp only [decide_true]
    go_wp2_with fail
    (with_reducible refine (aw.out _ hB4.out).mono ?_)
    rintro e w5 ⟨rfl, hb5⟩
    go_wp2_with fail
    go_ret
    exact ⟨rfl, hb5⟩
  · rw [hr] at crd crr
    have cs2 := Lib.hid (cs.out t)
    have cw2 := Lib.hid (cw.out t)
    rw [hwr] at cw2
    dsimp only at cw2
    rw [show toB text.data.toList = text from rfl] at cw2
    clear hr hwr
    go_enter Tryd.func4, Tryd.ntmps4
    go_wp2_with fail
    refine smH.out.mono ?_
    rintro e w1 ⟨rfl, rfl⟩
    go_wp2_with fail
    (with_reducible refine crd.out.mono ?_)
    rintro e w2 ⟨v2, rfl, hO2, hb2⟩
    have hB2 := Lib.hid hb2
    clear hb2
    go_wp2_with fail
    (with_reducible refine (crr.out _ hB2.out).mono ?_)
    rintro e w3 ⟨v3, rfl, hO3, hb3⟩
    have hO2' := OwnL.call hO2 hb3
    have hB3 := Lib.hid (bcall hB2.out hb3)
    obtain ⟨aU, cU, rfl, hI2⟩ := OwnI.ints hO2'
    obtain ⟨aV, cV, rfl, hI3⟩ := OwnI.ints hO3
    have hI2H := Lib.hid hI2
    have hI3H := Lib.hid hI3
    clear hb3 hO2 hO3 hO2' hI2 hI3
    go_wp2_with fail
    (with_reducible refine (cs2.out _ _ _ _ _ _ _ hI2H.out hI3H.out).mono ?_)
    rintro e w4 ⟨rfl, hd4⟩
    have hb4 := hd4.below w3.heap.size
    have hB4 := Lib.hid (bcall hB3.out hb4)
    have hI4 := Lib.hid (hI2H.out.below hb4)
    clear hd4 hb4
    simp only [decide_true]
    go_wp2_with fail
    (with_reducible refine (cw2.out _ hB4.out _ _ _ hI4.out).mono ?_)
    rintro e w5 ⟨rfl, hb5⟩
    have hB5 := Lib.hid (bcall hB4.out hb5)
    clear hb5
    go_wp2_with fail
    (with_reducible refine (aw.out _ hB5.out).mono ?_)
    rintro e w6 ⟨rfl, hb6⟩
    go_wp2_with fail
    go_ret
    exact ⟨rfl, hb6⟩
end Go.Proofs.YtnhaoalcpbefoaaDoor

/- The card of TongueReads: for every input TongueReads returns true and leaves its arguments as they were; the listed variables are tied to the program's text. No condition. -/
namespace Go.Proofs.YtnhaoalcpbefoaaDoor
open Go Go.RowKit Go.ChangeShapes Go.WideShapes Go.ChangeAt

theorem tongueReads_laid {W : World} : laidMetH Tryd.prog Rows.tongueReadsRow.laid W = laidMet Tryd.prog [("math/bits.deBruijn32tab", Rows.laid_math_bits_deBruijn32tab), ("math/bits.deBruijn64tab", Rows.laid_math_bits_deBruijn64tab), ("internal/strconv.uint64pow10", Rows.laid_internal_strconv_uint64pow10), ("strconv.ErrRange", Rows.laid_strconv_ErrRange), ("strconv.ErrSyntax", Rows.laid_strconv_ErrSyntax)] W := by kernel_rfl
theorem tongueReads_door (os : Os) (args : Array Value) : laidMetH Tryd.prog Rows.tongueReadsRow.laid ((World.doorLaid Tryd.prog 400 os).forCall (fun _ _ => 0) ⟨#[], args, []⟩).memory :=
  laidMetH_of_parts3 (fuel := 8) (laidMet_of_run' 8 (by kernel_rfl) (by kernel_rfl)) (by kernel_rfl) (by kernel_rfl)
set_option maxRecDepth 100000 in
theorem tongueReads_lifted (os : Os) (started : os.Started) (H : Type) (enc : TypeId × Value → H) :
    ReturnsInHanded {} Tryd.checked os 4 .any (fun w args => (Rows.tongueReadsSpec.pre enc Tryd.prog Tryd.f4 [] false w args ∧ laidMetH Tryd.prog Rows.tongueReadsRow.laid w) ∧ sizedMet enc Tryd.prog Tryd.f4 (OpenSpec.ofChange Rows.tongueReadsSpec) false w args)
      (Rows.tongueReadsSpec.post enc Tryd.prog Tryd.f4 false true false false) := by
  refine returnsInHanded_of_change_and (C := Tryd.checked) (X := fun w _ => laidMetH Tryd.prog Rows.tongueReadsRow.laid w) (fun _ _ _ hh h => h.of_heap hh) Tryd.own started (by kernel_rfl) Tryd.func4
    (ChangeSpec.witness_shaped (enc := enc) (C := Tryd.checked) (os := os) (X := fun w _ => laidMetH Tryd.prog Rows.tongueReadsRow.laid w) false (World.doorLaid Tryd.prog 400 os) #[.slice none 0 0, .int .i64 0, .string ByteArray.empty] 8 rfl (World.shaped_of_RefB (by kernel_rfl) (by kernel_rfl)) (by kernel_rfl) (by kernel_rfl) (by kernel_rfl) (tongueReads_door os _)) ?_
  intro W base args ds gs before hval0 hW _ _ hL _
  have hLib : LibT W := libT_of_laid (n1 := _) (n2 := _) (n3 := _) (d1 := _) (d2 := _) (d3 := _) (d4 := _) (d5 := _) (rest := _) (Eq.mp tongueReads_laid hL)
  clear hL
  have hval : ∀ (j : Nat) t v, Tryd.f4.params[j]? = some t → args[j]? = some v → Value.okWide Tryd.prog W .any base t v := hval0
  have hW' := hW
  obtain ⟨p, q, hA0, hV, rfl, hfz, hnd⟩ := hW
  have hA : DataW.TrodAll enc Tryd.prog W 0 (fun _ => true) true Tryd.f4.params.toList args.toList ds p := hA0
  rw [Tryd.params4] at hA hval
  obtain ⟨v0, v1, v2, d0, d1, d2, p0, p1, p2, rfl, rfl, rfl, h0, h1, h2⟩ := trodAll_three hA
  obtain ⟨rfl, rfl⟩ := trodVars_none hV
  clear hA0 hval0
  simp only [List.append_nil] at hW'
  have hlt : ∀ x ∈ p0 ++ (p1 ++ p2), x.block < W.heap.size := fun x hx => hW'.lt x (by simpa using hx)
  have keep0 := fun (W' : World) (hn : Below W.heap.size W W') => Below.trod Tryd.laidOut (by kernel_rfl) (of_decide_eq_true (by kernel_rfl)) h0 hn (fun x hx => hlt x (by simp [hx]))
  have keep1 := fun (W' : World) (hn : Below W.heap.size W W') => Below.trod Tryd.laidOut (by kernel_rfl) (of_decide_eq_true (by kernel_rfl)) h1 hn (fun x hx => hlt x (by simp [hx]))
  have keep2 := fun (W' : World) (hn : Below W.heap.size W W') => Below.trod Tryd.laidOut (by kernel_rfl) (of_decide_eq_true (by kernel_rfl)) h2 hn (fun x hx => hlt x (by simp [hx]))
  obtain ⟨l0, a0, c0, rfl, r0⟩ := gSign.arg h0 (okWide_slice Tryd.underlying23 (hval 0 23 v0 rfl rfl))
  obtain ⟨x1, rfl, rfl, rfl, wx1⟩ := open_int Tryd.underlying3 (hval 1 3 v1 rfl rfl) h1
  obtain ⟨s2, rfl, rfl, rfl, ws2⟩ := ChangeMaps.open_string Tryd.underlying9 (hval 2 9 v2 rfl rfl) h2
  refine (TongueReads_walk _ _ _ _ _ W r0 hLib).mono fun e W' ⟨he, hB⟩ => ?_
  subst he
  exact ⟨_, rfl, _, _, _, [], _, [], hW', trodAll_mk1 (shut_bool Tryd.underlying4 true), trodAll_mk3 (keep0 _ hB) (keep1 _ hB) (keep2 _ hB), rfl, hB.frame _, fun h => by cases h⟩

/-- TongueReads: for every input it returns true, and each argument reads as it did. -/
theorem tongueReads_holds : Rows.TongueReadsSaid :=
  OpenClaim.holds_of_wide 4 Tryd.f4 rfl rfl rfl rfl rfl rfl rfl ⟨rfl, rfl, rfl, rfl, rfl⟩ rfl rfl rfl rfl rfl (by kernel_rfl) Tryd.func4 (by kernel_rfl)
    (of_decide_eq_true (by kernel_rfl)) (by unfold Func.isWrapper; first | (rw [if_pos (by decide +kernel)]; kernel_rfl) | (rw [if_neg (by decide +kernel)]; exact ⟨rfl, rfl⟩))
    (fun os started H enc _ => tongueReads_lifted os started H enc)
/-- the card of TongueReads -/
theorem tongueReads_card_holds : Rows.TongueReadsCardSaid :=
  Claim7.holds_tied_plain_at .later [] [.data, .data, .data, .sentinel, .sentinel] true Rows.tongueReadsCard.stood.harness Rows.tongueReadsCard.stood.looks
    tongueReads_holds (fun _ h => by cases h) (by kernel_rfl) (fun _ h => by cases h) tongueReads_row_tie rfl ⟨rfl, rfl⟩ (by kernel_rfl) rfl
    (fun f fn hf hfn => by
      obtain rfl : f = 4 := Option.some.inj ((show Tryd.prog.funcNamed Rows.tongueReadsRow.func = some 4 by kernel_rfl).symm.trans hf) |>.symm
      obtain rfl : fn = Tryd.f4 := (Option.some.inj (Tryd.func4.symm.trans hfn)).symm
      exact ⟨by kernel_rfl, fun j t ht => by
        rw [Tryd.params4] at ht
        have hm : t ∈ [23, 3, 9] := by simpa using Array.mem_of_getElem? ht
        have hall : ([23, 3, 9].all fun u => !Tryd.prog.wantsStandIn u) = true := by kernel_rfl
        exact (show Tryd.prog.wantsStandIn t = false by simpa using List.all_eq_true.1 hall t hm)⟩)
    (by kernel_rfl)
end Go.Proofs.YtnhaoalcpbefoaaDoor
