/- The card of TongueWrites: for every input TongueWrites returns true and leaves its arguments as they were; the listed variables are tied to the program's text. No condition. -/
import Derived.Test.YtnhaoalcpbefoaaDoorMsD
import Derived.Handed
import Derived.Test.YtnhaoalcpbefoaaDoorMsH
import Derived.Test.YtnhaoalcpbefoaaDoorMsC
import Derived.Test.YtnhaoalcpbefoaaDoorMsF
import Derived.Test.YtnhaoalcpbefoaaDoorMsG
import Derived.BigQuiet
import Derived.Test.YtnhaoalcpbefoaaDoorCards
import Derived.Test.YtnhaoalcpbefoaaDoorTie
/- strconv's two errors, out of the laid list. -/
namespace Go.Proofs.YtnhaoalcpbefoaaDoor
open Go Go.RowKit

theorem iface_cellsT {H : Type} {enc : TypeId × Value → H} {P : Program} {w : World} {sp : Nat → Bool} {fuel : Nat} {t : TypeId} {ms : Array (String × TypeId)} {cs : List Value} {x : DataW H × List MemPlace} (ht : P.underlying t = some (.interface ms))
    (h : DataW.trod enc P w 0 sp false fuel t cs = some x) : ∃ v, cs = [v] ∧ (v = .nilIface ∨ ∃ te pe, v = .iface te pe) := by
  cases fuel with
  | zero => simp [DataW.trod] at h
  | succ fuel =>
    unfold DataW.trod at h
    rw [ht] at h
    split at h <;> first | exact ⟨_, rfl, .inl rfl⟩ | exact ⟨_, rfl, .inr ⟨_, _, rfl⟩⟩ | (rename_i h2; cases h2; done) | cases h
theorem sent_of_cellsT {w : World} {g : Nat} {n : String} {cs : Array Value} (hg : Tryd.prog.globalNamed n = some g) (hv : w.var? Tryd.prog n = some cs) (hc : ∃ v, cs.toList = [v] ∧ (v = .nilIface ∨ ∃ te pe, v = .iface te pe)) : SentT w g := by
  obtain ⟨v, h1, h2⟩ := hc
  unfold World.var? at hv
  rw [hg, Option.bind_some] at hv
  split at hv
  · rename_i cs' t' f' hh
    obtain rfl := Option.some.inj hv
    have h3 : cs'[0]? = some v := by rw [← Array.getElem?_toList, h1]; rfl
    exact ⟨v, by simp [World.cell?, hh, h3], h2⟩
  · cases hv
theorem libT_of_laid {W : World} {n1 n2 n3 : String} {d1 d2 d3 d4 d5 : DataW Unit} {rest : List (String × DataW Unit)} (h : laidMet Tryd.prog ((n1, d1) :: (n2, d2) :: (n3, d3) :: ("strconv.ErrRange", d4) :: ("strconv.ErrSyntax", d5) :: rest) W) : LibT W := by
  have hg4 : Tryd.prog.globalNamed "strconv.ErrRange" = some 2 := by kernel_rfl
  have hg5 : Tryd.prog.globalNamed "strconv.ErrSyntax" = some 1 := by kernel_rfl
  have ht4 : (Tryd.prog.globals[2]?).map (·.type) = some 77 := by kernel_rfl
  have ht5 : (Tryd.prog.globals[1]?).map (·.type) = some 77 := by kernel_rfl
  obtain ⟨ps, ⟨_, _, _, _, _, _, _, _, _, _, ⟨_, _, _, _, _, _, _, _, _, _, ⟨_, _, _, _, _, _, _, _, _, _, ⟨g4, t4, cs4, f4, p4, q4, a4, b4, c4, e4, ⟨g5, t5, cs5, f5, p5, q5, a5, b5, c5, e5, _, _⟩, _⟩, _⟩, _⟩, _⟩, _⟩ := h
  obtain rfl := Option.some.inj (hg4.symm.trans a4)
  obtain rfl := Option.some.inj (hg5.symm.trans a5)
  obtain rfl := Option.some.inj (ht4.symm.trans b4)
  obtain rfl := Option.some.inj (ht5.symm.trans b5)
  exact ⟨sent_of_cellsT hg5 c5 (iface_cellsT Tryd.underlying77 e5), sent_of_cellsT hg4 c4 (iface_cellsT Tryd.underlying77 e4)⟩
end Go.Proofs.YtnhaoalcpbefoaaDoor

/- Facts of the program's types that the rows over the tongues want. -/
namespace Go.Proofs.YtnhaoalcpbefoaaDoor
open Go Go.RowKit Go.ChangeShapes Go.WideShapes Go.ChangeAt Go.Deep

end Go.Proofs.YtnhaoalcpbefoaaDoor

/- The law TongueWrites, walked. -/
namespace Go.Proofs.YtnhaoalcpbefoaaDoor
open Go Go.RowKit Go.Maps

theorem twr_cases (s : Sg) (k : Int) (t : List Int) : ((writeE s k t).2 ≠ 0) ∨ (okT s t = true ∧ (k = 1 ∨ k = 2 ∨ k = 3) ∧ writeE s k t = (txt k.toNat s t, 0)) := by
  unfold writeE
  cases h1 : okT s t
  · left; simp
  · cases h2 : (decide (1 ≤ k) && decide (k ≤ 3))
    · left; simp
    · right; simp at h2; simp; omega
theorem readE_back {s : Sg} {k : Int} {t : List Int} (h : okT s t = true) (hk : k = 1 ∨ k = 2 ∨ k = 3) : readE s k (txt k.toNat s t) = (t, 0) := by
  have hok := (okT_parts h).1
  have hl := txt_len (k := k.toNat) t.length h (Nat.le_refl _)
  have h6 := (okT_parts h).2.2.1
  rw [readE, if_pos hok, if_pos (by rcases hk with rfl | rfl | rfl <;> decide), if_pos (by omega)]
  exact find_ok h rfl
set_option maxRecDepth 100000 in
set_option maxHeartbeats 8000000 in
theorem TongueWrites_walk {S1 S2 : Nat → Prop} (a1 : Option Addr) (c1 : Nat) (s : Sg) (k : Int) (a3 : Option Addr) (c3 : Nat) (t : List Int) (w : World) (h1 : Sign S1 w a1 c1 s) (h3 : Ints S2 w a3 c3 t) (hL : LibT w) :
    Calls Tryd.prog 3 #[.slice a1 s.length c1, .int .i64 k, .slice a3 t.length c3] w fun e w' => e = .returned (.bool true) ∧ Below w.heap.size w w' := by
  have m1 := h1.le
  have m3 := h3.le
  obtain ⟨W, hW⟩ : ∃ W, w.alloc (.cells #[.slice a3 t.length c3] 25) = W := ⟨_, rfl⟩
  have hB : Below w.heap.size w W := by rw [← hW]; exact below1 w _
  have hTs := Sl.new (E := slE intE) (S := fun _ => True) w [[.slice a3 t.length c3]] [t] 25 rfl (by unfold big; simp) (fun i g1 g2 => by
      match i, g1 with
      | 0, _ => exact ⟨_, _, rfl, h3.any⟩)
  have sm : Calls Tryd.prog 7 #[.slice a1 s.length c1, .slice (some ⟨w.heap.size, 0, none⟩) 1 1] W fun e w' => e = .returned (.bool (smallT s [t])) ∧ W = w' := Small_any a1 (some ⟨w.heap.size, 0, none⟩) c1 1 s [t] W (h1.below hB) (by rw [← hW]; exact hTs.any)
  have aw := Lib.hid (fun W' (hb : Below w.heap.size w W') => aw3_from hb (Nat.le_refl _))
  have hBH := Lib.hid hB
  have h1H := Lib.hid h1
  have h3H := Lib.hid h3
  have hLH := Lib.hid hL
  clear hTs h1 h3 hB hL
  cases z0 : smallT s [t] with
  | false =>
    rw [z0] at sm
    have smH := Lib.hid sm
    clear sm z0
    go_enter Tryd.func3, Tryd.ntmps3
    go_wp2_with fail
    try rw [hW]
    refine smH.out.mono ?_
    rintro e w1 ⟨rfl, rfl⟩
    go_wp2_with fail
    refine (aw.out _ hBH.out).mono ?_
    rintro e w2 ⟨rfl, hb2⟩
    go_wp2_with fail
    go_ret
    exact ⟨rfl, hb2⟩
  | true =>
  rw [z0] at sm
  have smH := Lib.hid sm
  have cw := Lib.hid (fun W' (hb : Below w.heap.size w W') => Write_any a1 a3 c1 c3 s k t W' (h1H.out.below hb) (h3H.out.below hb))
  have cr := Lib.hid (fun W' (hb : Below w.heap.size w W') => rTWrite_any a1 a3 c1 c3 s k t W' (h1H.out.below hb) (h3H.out.below hb))
  have crd := Lib.hid (fun b W' (hb : Below w.heap.size w W') => TRead_any a1 c1 s k b W' (h1H.out.below hb) (hLH.out.later hb))
  have cs := Lib.hid (fun W' (hb : Below w.heap.size w W') (S9 : Nat → Prop) aU cU (hU : Ints S9 W' aU cU t) => Same_any aU a3 cU c3 t t W' hU (h3H.out.below hb))
  clear sm z0
  rcases twr_cases s k t with hne | ⟨hx, hk, he⟩
  · obtain ⟨y, hy⟩ : ∃ y, writeE s k t = y := ⟨_, rfl⟩
    rw [hy] at cw cr hne
    obtain ⟨y1, y2⟩ := y
    have hy2 : (y2 == (0 : Int)) = false := by simpa using hne
    obtain ⟨Y, hY⟩ : ∃ Y, toB y1 = Y := ⟨_, rfl⟩
    simp only [hY] at cw cr
    clear hy hne hY
    go_enter Tryd.func3, Tryd.ntmps3
    go_wp2_with fail
    try rw [hW]
    refine smH.out.mono ?_
    rintro e w1 ⟨rfl, rfl⟩
    clear hW
    go_wp2_with fail
    (with_reducible refine (cw.out _ hBH.out).mono ?_)
    rintro e w2 ⟨rfl, hb2⟩
    have hB2 := Lib.hid (bcall hBH.out hb2)
    clear hb2
    go_wp2_with fail
    (with_reducible refine (cr.out _ hB2.out).mono ?_)
    rintro e w3 ⟨rfl, hb3⟩
    have hB3 := Lib.hid (bcall hB2.out hb3)
    clear hb3
    go_wp2_with fail
    (with_reducible refine (aw.out _ hB3.out).mono ?_)
    rintro e w4 ⟨rfl, hb4⟩
    go_wp2_with fail
    go_ret
    exact ⟨rfl, hb4⟩
  · rw [he] at cw cr
    have hrd := readE_back hx hk
    obtain ⟨Y, hY⟩ : ∃ Y, toB (txt k.toNat s t) = Y := ⟨_, rfl⟩
    simp only [hY] at cw cr
    have crd2 := Lib.hid (crd.out Y)
    rw [show Y.data.toList = txt k.toNat s t by rw [← hY]; rfl, hrd] at crd2
    clear he hrd hY crd
    go_enter Tryd.func3, Tryd.ntmps3
    go_wp2_with fail
    try rw [hW]
    refine smH.out.mono ?_
    rintro e w1 ⟨rfl, rfl⟩
    clear hW
    go_wp2_with fail
    (with_reducible refine (cw.out _ hBH.out).mono ?_)
    rintro e w2 ⟨rfl, hb2⟩
    have hB2 := Lib.hid (bcall hBH.out hb2)
    clear hb2
    go_wp2_with fail
    (with_reducible refine (cr.out _ hB2.out).mono ?_)
    rintro e w3 ⟨rfl, hb3⟩
    have hB3 := Lib.hid (bcall hB2.out hb3)
    clear hb3
    go_wp2_with fail
    (with_reducible refine (crd2.out _ hB3.out).mono ?_)
    rintro e w4 ⟨v, rfl, hO, hb4⟩
    obtain ⟨aU, cU, rfl, hI⟩ := OwnI.ints hO
    have hB4 := Lib.hid (bcall hB3.out hb4)
    have hIH := Lib.hid hI
    clear hb4 hI hO
    go_wp2_with fail
    (with_reducible refine (cs.out _ hB4.out _ _ _ hIH.out).mono ?_)
    rintro e w5 ⟨rfl, hd5⟩
    have hB5 := Lib.hid (bcall hB4.out (hd5.below _))
    clear hd5
    go_wp2_with fail
    (with_reducible refine (aw.out _ hB5.out).mono ?_)
    rintro e w6 ⟨rfl, hb6⟩
    go_wp2_with fail
    go_ret
    exact ⟨ret_bool (by simp), hb6⟩
end Go.Proofs.YtnhaoalcpbefoaaDoor

/- The card of TongueWrites: for every input TongueWrites returns true and leaves its arguments as they were; the listed variables are tied to the program's text. No condition. -/
namespace Go.Proofs.YtnhaoalcpbefoaaDoor
open Go Go.RowKit Go.ChangeShapes Go.WideShapes Go.ChangeAt

theorem tongueWrites_laid {W : World} : laidMetH Tryd.prog Rows.tongueWritesRow.laid W = laidMet Tryd.prog [("math/bits.deBruijn32tab", Rows.laid_math_bits_deBruijn32tab), ("math/bits.deBruijn64tab", Rows.laid_math_bits_deBruijn64tab), ("internal/strconv.uint64pow10", Rows.laid_internal_strconv_uint64pow10), ("strconv.ErrRange", Rows.laid_strconv_ErrRange), ("strconv.ErrSyntax", Rows.laid_strconv_ErrSyntax)] W := by kernel_rfl
theorem tongueWrites_door (os : Os) (args : Array Value) : laidMetH Tryd.prog Rows.tongueWritesRow.laid ((World.doorLaid Tryd.prog 400 os).forCall (fun _ _ => 0) ⟨#[], args, []⟩).memory :=
  laidMetH_of_parts3 (fuel := 8) (laidMet_of_run' 8 (by kernel_rfl) (by kernel_rfl)) (by kernel_rfl) (by kernel_rfl)
set_option maxRecDepth 100000 in
theorem tongueWrites_lifted (os : Os) (started : os.Started) (H : Type) (enc : TypeId × Value → H) :
    ReturnsInHanded {} Tryd.checked os 3 .any (fun w args => (Rows.tongueWritesSpec.pre enc Tryd.prog Tryd.f3 [] false w args ∧ laidMetH Tryd.prog Rows.tongueWritesRow.laid w) ∧ sizedMet enc Tryd.prog Tryd.f3 (OpenSpec.ofChange Rows.tongueWritesSpec) false w args)
      (Rows.tongueWritesSpec.post enc Tryd.prog Tryd.f3 false true false false) := by
  refine returnsInHanded_of_change_and (C := Tryd.checked) (X := fun w _ => laidMetH Tryd.prog Rows.tongueWritesRow.laid w) (fun _ _ _ hh h => h.of_heap hh) Tryd.own started (by kernel_rfl) Tryd.func3
    (ChangeSpec.witness_shaped (enc := enc) (C := Tryd.checked) (os := os) (X := fun w _ => laidMetH Tryd.prog Rows.tongueWritesRow.laid w) false (World.doorLaid Tryd.prog 400 os) #[.slice none 0 0, .int .i64 0, .slice none 0 0] 8 rfl (World.shaped_of_RefB (by kernel_rfl) (by kernel_rfl)) (by kernel_rfl) (by kernel_rfl) (by kernel_rfl) (tongueWrites_door os _)) ?_
  intro W base args ds gs before hval0 hW _ _ hL _
  have hLib : LibT W := libT_of_laid (n1 := _) (n2 := _) (n3 := _) (d1 := _) (d2 := _) (d3 := _) (d4 := _) (d5 := _) (rest := _) (Eq.mp tongueWrites_laid hL)
  clear hL
  have hval : ∀ (j : Nat) t v, Tryd.f3.params[j]? = some t → args[j]? = some v → Value.okWide Tryd.prog W .any base t v := hval0
  have hW' := hW
  obtain ⟨p, q, hA0, hV, rfl, hfz, hnd⟩ := hW
  have hA : DataW.TrodAll enc Tryd.prog W 0 (fun _ => true) true Tryd.f3.params.toList args.toList ds p := hA0
  rw [Tryd.params3] at hA hval
  obtain ⟨v0, v1, v2, d0, d1, d2, p0, p1, p2, rfl, rfl, rfl, h0, h1, h2⟩ := trodAll_three hA
  obtain ⟨rfl, rfl⟩ := trodVars_none hV
  clear hA0 hval0
  simp only [List.append_nil] at hW'
  have hlt : ∀ x ∈ p0 ++ (p1 ++ p2), x.block < W.heap.size := fun x hx => hW'.lt x (by simpa using hx)
  have keep0 := fun (W' : World) (hn : Below W.heap.size W W') => Below.trod Tryd.laidOut (by kernel_rfl) (of_decide_eq_true (by kernel_rfl)) h0 hn (fun x hx => hlt x (by simp [hx]))
  have keep1 := fun (W' : World) (hn : Below W.heap.size W W') => Below.trod Tryd.laidOut (by kernel_rfl) (of_decide_eq_true (by kernel_rfl)) h1 hn (fun x hx => hlt x (by simp [hx]))
  have keep2 := fun (W' : World) (hn : Below W.heap.size W W') => Below.trod Tryd.laidOut (by kernel_rfl) (of_decide_eq_true (by kernel_rfl)) h2 hn (fun x hx => hlt x (by simp [hx]))
  obtain ⟨l0, a0, c0, rfl, r0⟩ := gSign.arg h0 (okWide_slice Tryd.underlying23 (hval 0 23 v0 rfl rfl))
  obtain ⟨x1, rfl, rfl, rfl, wx1⟩ := open_int Tryd.underlying3 (hval 1 3 v1 rfl rfl) h1
  obtain ⟨l2, a2, c2, rfl, r2⟩ := gTerm.arg h2 (okWide_slice Tryd.underlying25 (hval 2 25 v2 rfl rfl))
  refine (TongueWrites_walk _ _ _ _ _ _ _ W r0 r2 hLib).mono fun e W' ⟨he, hB⟩ => ?_
  subst he
  exact ⟨_, rfl, _, _, _, [], _, [], hW', trodAll_mk1 (shut_bool Tryd.underlying4 true), trodAll_mk3 (keep0 _ hB) (keep1 _ hB) (keep2 _ hB), rfl, hB.frame _, fun h => by cases h⟩

/-- TongueWrites: for every input it returns true, and each argument reads as it did. -/
theorem tongueWrites_holds : Rows.TongueWritesSaid :=
  OpenClaim.holds_of_wide 3 Tryd.f3 rfl rfl rfl rfl rfl rfl rfl ⟨rfl, rfl, rfl, rfl, rfl⟩ rfl rfl rfl rfl rfl (by kernel_rfl) Tryd.func3 (by kernel_rfl)
    (of_decide_eq_true (by kernel_rfl)) (by unfold Func.isWrapper; first | (rw [if_pos (by decide +kernel)]; kernel_rfl) | (rw [if_neg (by decide +kernel)]; exact ⟨rfl, rfl⟩))
    (fun os started H enc _ => tongueWrites_lifted os started H enc)
/-- the card of TongueWrites -/
theorem tongueWrites_card_holds : Rows.TongueWritesCardSaid :=
  Claim7.holds_tied_plain_at .later [] [.data, .data, .data, .sentinel, .sentinel] true Rows.tongueWritesCard.stood.harness Rows.tongueWritesCard.stood.looks
    tongueWrites_holds (fun _ h => by cases h) (by kernel_rfl) (fun _ h => by cases h) tongueWrites_row_tie rfl ⟨rfl, rfl⟩ (by kernel_rfl) rfl
    (fun f fn hf hfn => by
      obtain rfl : f = 3 := Option.some.inj ((show Tryd.prog.funcNamed Rows.tongueWritesRow.func = some 3 by kernel_rfl).symm.trans hf) |>.symm
      obtain rfl : fn = Tryd.f3 := (Option.some.inj (Tryd.func3.symm.trans hfn)).symm
      exact ⟨by kernel_rfl, fun j t ht => by
        rw [Tryd.params3] at ht
        have hm : t ∈ [23, 3, 25] := by simpa using Array.mem_of_getElem? ht
        have hall : ([23, 3, 25].all fun u => !Tryd.prog.wantsStandIn u) = true := by kernel_rfl
        exact (show Tryd.prog.wantsStandIn t = false by simpa using List.all_eq_true.1 hall t hm)⟩)
    (by kernel_rfl)
end Go.Proofs.YtnhaoalcpbefoaaDoor
