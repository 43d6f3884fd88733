/- Walks: Parts of the program. -/
import Derived.Test.YtjiffkpgadjodaaPaths
import Derived.Test.YtjiffkpgadjodaaSortT
import Derived.Test.YtjiffkpgadjodaaRParts
namespace Go.Proofs.Ytjiffkpgadjodaa
open Go Go.RowKit Go.Shelf

attribute [local go_sem] Oper.semAt_some

def fparts (pre : List El) : List (List Int) := pre.map El.u
theorem fparts_snoc (pre : List El) (x : El) : fparts (pre ++ [x]) = fparts pre ++ [x.u] := by unfold fparts; rw [List.map_append]; rfl
theorem fparts_len (pre : List El) : (fparts pre).length = pre.length := by unfold fparts; rw [List.length_map]
theorem fparts_all {s : Sg} {t : List Int} {ys : List El} (h : ys.map El.pt = PL s t.length t) : fparts ys = partsL s t := by
  unfold fparts partsL
  rw [← h, List.map_map]; rfl

set_option maxRecDepth 100000 in
set_option maxHeartbeats 4000000 in
theorem Parts_any {S1 S2 : Nat → Prop} (a1 a2 : Option Addr) (c1 c2 : Nat) (s : Sg) (t : List Int) (w : World) (h1 : Sign S1 w a1 c1 s) (h2 : Ints S2 w a2 c2 t) :
    Calls Try.prog 6 #[.slice a1 s.length c1, .slice a2 t.length c2] w (retTE (partsE s t) w) := by
  have m2 := h2.le
  have v1 := Valid_any a1 a2 c1 c2 s t w h1 h2
  obtain ⟨x, hx⟩ : ∃ x, okT s t = x := ⟨_, rfl⟩
  rw [hx] at v1
  have v1H := Lib.hid v1
  clear v1
  cases x with
  | false =>
    rw [show partsE s t = ([], 1) by rw [partsE, hx, if_neg (by simp)]]
    clear hx h1 h2
    refine (callsIn_wide (n := 6)).1 ?_
    refine callsIn_of_wp_marks Try.func6 rfl trivial ?_ rfl
    simp only [Try.ntmps6, List.size_toArray, List.length_cons, List.length_nil, Nat.reduceAdd, Nat.reduceSub, Array.replicate_succ, Array.replicate_zero, List.push_toArray, List.append_toArray, List.nil_append, List.cons_append]
    gi_wp2_with fail
    refine ⟨trivial, ?_⟩
    gi_at_call 14
    refine (callsIn_wide.2 v1H.out).mono ?_
    rintro e w1 ⟨rfl, hb⟩
    gi_wp2_with fail
    exact ⟨_, results_tmp2 rfl _ _ _, _, rfl, .nil _ _ _ _ _, hb⟩
  | true =>
    rw [show partsE s t = (partsT s t, 0) by rw [partsE, hx, if_pos rfl]]
    have hxH := Lib.hid hx
    have h1H := Lib.hid h1.lt
    have h2H := Lib.hid h2.lt
    clear hx h1 h2
    refine (callsIn_wide (n := 6)).1 ?_
    refine callsIn_of_wp_marks Try.func6 rfl trivial ?_ rfl
    simp only [Try.ntmps6, List.size_toArray, List.length_cons, List.length_nil, Nat.reduceAdd, Nat.reduceSub, Array.replicate_succ, Array.replicate_zero, List.push_toArray, List.append_toArray, List.nil_append, List.cons_append]
    gi_wp2_with fail
    refine ⟨trivial, ?_⟩
    gi_at_call 14
    refine (callsIn_wide.2 v1H.out).mono ?_
    rintro e w2 ⟨rfl, hbb⟩
    clear v1H
    gi_wp2_with fail
    refine ⟨trivial, ?_⟩
    gi_at_call 15
    refine (parts_in _ _ _ _ _ _ _ _).mono ?_
    rintro e w' ⟨rfl, rfl⟩
    gi_wp2_with fail
    obtain ⟨W0, hW0⟩ : ∃ W0, ((w2.alloc (.cells #[.slice none 0 0] 28)).alloc (.cells #[.slice a1 s.length c1] 23)).alloc (.cells #[.slice a2 t.length c2] 25) = W0 := ⟨_, rfl⟩
    rw [hW0]
    have hb20 : Below w2.heap.size w2 W0 := by rw [← hW0]; exact below3 _ _ _ _
    have hbox : BoxL (slE intE) w2.heap.size 28 w2.heap.size 25 [] W0 := by
      rw [← hW0]
      exact (BoxL.new (E := slE intE) (T := 28) (base := w2.heap.size) (e := 25) w2).below (below2 _ _ _)
    have hrow := hbox.rowLt
    have hr0 : rowOf w2.heap.size W0 = none := by
      have hv0 : Boxed W0 w2.heap.size 28 (.slice none 0 0) := by rw [← hW0]; exact ((Boxed.new w2 28 _).alloc _).alloc _
      rw [rowOf_boxed hv0]; rfl
    have hsafe : ∀ b, b ≠ w2.heap.size → CellsAt W0 b → Safe w2.heap.size W0 b := fun b hb hc => ⟨hb, by rw [hr0]; simp, hc⟩
    have hz0 : W0.heap.size = w2.heap.size + 1 + 1 + 1 := by rw [← hW0]; simp
    have hcs : W0.cell? ⟨w2.heap.size + 1, 0, none⟩ = some (.slice a1 s.length c1) := by rw [← hW0]; clear hW0; go_simp
    have hct : W0.cell? ⟨w2.heap.size + 1 + 1, 0, none⟩ = some (.slice a2 t.length c2) := by rw [← hW0]; clear hW0; go_simp
    have hWl : w.heap.size ≤ w2.heap.size := hbb.size
    have hb0W : Below w.heap.size w W0 := hbb.trans (hb20.mono hWl)
    have hsg : Sign (Safe w2.heap.size W0) W0 a1 c1 s := (Sign.cellsAt (h1H.out.below hb0W)).weak (fun b hb => hsafe b (by have := hb.1.2; omega) hb.2)
    have hut : Ints (Safe w2.heap.size W0) W0 a2 c2 t := (Ints.cellsAt (h2H.out.below hb0W)).weak (fun b hb => hsafe b (by have := hb.1.2; omega) hb.2)
    have hseq := parts_seq (6 - 1) (w2.heap.size + 1) (w2.heap.size + 1 + 1) w2.heap.size a1 a2 c1 c2 s t W0 hxH.out hrow hcs (hsafe _ (by omega) (.of_cell hcs)) hct (hsafe _ (by omega) (.of_cell hct)) hsg hut
    have h60 := (okT_parts hxH.out).2.2.1
    have hbox' := Lib.hid hbox
    have hb20H := Lib.hid hb20
    have hbbH := Lib.hid hbb
    clear hbox hrow hr0 hsafe hcs hct hb0W hsg hut hW0 hbb
    refine range_rel rfl (by omega) (gf := 32) (lb := #[.pointer (some ⟨w2.heap.size + 1, 0, none⟩), .pointer (some ⟨w2.heap.size + 1 + 1, 0, none⟩)]) rfl trivial (enters_of Try.func32 (by kernel_rfl) rfl)
      hseq (fun h k => h.trans k) (fun W l o o' hl h hc _ => Leaves.putObj (by omega) h hc) (Below.refl _ _) El.size
      (fun pre W => BoxL (slE intE) w2.heap.size 28 w2.heap.size 25 (fparts pre) W ∧ Below w2.heap.size w2 W)
      (fun _ _ _ => False)
      (OwnFrom.and (boxL_own (celled_sl celled_int) _ _) (ownFrom_below (Nat.le_refl _) (by omega)))
      (fun _ _ _ _ _ hs _ _ => hs)
      ⟨hbox'.out, hb20H.out⟩
      (fun x a' W => a' = { tmps := #[.slice a1 s.length c1, .slice a2 t.length c2, undef, undef, .slice none 0 0, .int .i64 0, .pointer (some ⟨w2.heap.size, 0, none⟩), undef, .slice x.au x.u.length x.cu, .slice a1 s.length c1, .slice a2 t.length c2, .bool true, .bool false, .slice a1 s.length c1, .slice a2 t.length c2,
          .func (.func 32) #[] #[.pointer (some ⟨w2.heap.size + 1, 0, none⟩), .pointer (some ⟨w2.heap.size + 1 + 1, 0, none⟩)], .slice x.ap x.p.length x.cp, .slice x.au x.u.length x.cu, undef, undef, undef, undef, undef, undef, undef, undef, undef], defers := [] } ∧ ElR x W)
      (fun x a' => OwnFrom.and (ownFrom_pure _ (fun _ => a' = _)) (elR_own _ x)) ?assign ?body ?done ?stop
    case assign =>
      intro l pre x W K hi hr hK
      dsimp only [El.enc]
      gi_wp2
      exact hK _ _ (KeepsFrom.refl _ _) (Leaves.refl _ _) hi ⟨rfl, hr⟩
    case body =>
      rintro l pre x a' W - - ⟨⟨vv, hv, ho⟩, hB⟩ ⟨rfl, hx1, hx2, hx3, hx4⟩ hlen
      have hsn := fparts_snoc pre x
      have hpl := Nat.le_of_eq (fparts_len pre)
      have hoH := Lib.hid ho
      have hBH := Lib.hid hB
      have hvH := Lib.hid hv
      have hx2H := Lib.hid hx2
      have hsnH := Lib.hid hsn
      clear ho hB hv hx1 hx2 hsn
      have hb1 : Below W.heap.size W W.drew := Below.drew (.refl _ _)
      obtain ⟨Wd, hWd⟩ : ∃ Wd, W.drew = Wd := ⟨_, rfl⟩
      rw [hWd] at hb1
      have hvd : Boxed Wd w2.heap.size 28 vv := (hb1.block _ hvH.out.lt).trans hvH.out
      have hod := hoH.out.call hb1
      have hcl := Clone_any x.au x.cu x.u Wd (hx2H.out.below hb1) (by unfold lim; omega)
      have hpu := fun (W4 : World) (hb4 : Below Wd.heap.size Wd W4) (a4 : Option Addr) (c4 : Nat) (hI4 : Ints (fun b => Wd.heap.size ≤ b) W4 a4 c4 x.u) => box_push (P := Try.prog) (t := 28) (ty := 28) (x := x.u) (vs := [.slice a4 x.u.length c4]) hvd hod (by decide) (Nat.le_trans hBH.out.size hb1.size) (Nat.le_refl _) hb4 Try.underlying28 infoTerm rfl ⟨a4, c4, rfl, hI4.weak (fun b hb => ⟨fun e => by have := hvd.lt; omega, fun e => by have := (hod.lt b e.symm).2; omega⟩)⟩ (by omega) (by unfold big; omega)
      have hclH := Lib.hid hcl
      have hpuH := Lib.hid hpu
      have hb1H := Lib.hid hb1
      have hWdH := Lib.hid hWd
      have hc1 := hvd.cell
      have hltd := hvd.lt
      clear hcl hpu hb1 hvd hod hWd
      gi_wp2_with fail
      refine wpIn_region_any (by kernel_rfl) ?_
      show wpAnyIn _ _ _ _ _ _ _ _ _ (W.drew)
      rw [hWdH.out]
      refine region_in2 0 1 rfl rfl (by kernel_rfl) (fun K hK => ?_) (fun K hK => ?_)
      · refine NextIn.value (v := vv) (w' := Wd) rfl (fun c => by simp) rfl (by go_simp) ?_
        refine hK.out _ _ ?_
        clear hK
        simp only [Act.put, List.setIfInBounds_toArray, List.set_cons_zero, List.set_cons_succ]
        refine region_in1 1 rfl (by kernel_rfl) (fun K hK => ?_)
        refine NextIn.value (v := .slice x.au x.u.length x.cu) (w' := Wd) rfl (fun c => by simp) rfl (by go_simp) ?_
        refine hK.out _ _ ?_
        clear hK
        simp only [Act.put, List.setIfInBounds_toArray, List.set_cons_zero, List.set_cons_succ]
        refine region_in1 2 rfl (by kernel_rfl) (fun K hK => ?_)
        refine NextIn.call (f := 16) (args := #[.slice x.au x.u.length x.cu]) rfl (fun c => by simp) (fun _ => trivial) rfl (by go_simp) ?_
        refine (CallsIn.inRound l (callsIn_wide.2 hclH.out)).mono ?_
        rintro e W4 ⟨v4, rfl, ho4, hb4⟩
        refine ⟨v4, rfl, ?_⟩
        obtain ⟨a4, c4, rfl, hI4⟩ := OwnI.ints ho4
        obtain ⟨a5, cap5, W5, r5, q5, f5, s5, k5, l5, b5⟩ := hpuH.out W4 hb4 a4 c4 hI4
        have hc4 := cell_later hb4 hc1
        have hl4 := World.block_lt_of_cell? _ _ hc4
        refine hK.out _ _ ?_
        clear hK ho4 hI4
        simp only [Act.put, List.setIfInBounds_toArray, List.set_cons_zero, List.set_cons_succ]
        refine region_in1 3 rfl (by kernel_rfl) (fun K hK => ?_)
        refine NextIn.value (v := .slice (some ⟨W4.heap.size, 0, none⟩) 1 1) (w' := W4.alloc (.cells #[.slice a4 x.u.length c4] 25)) rfl (fun c => by simp) rfl (by go_simp) ?_
        refine hK.out _ _ ?_
        clear hK
        simp only [Act.put, List.setIfInBounds_toArray, List.set_cons_zero, List.set_cons_succ]
        refine region_in1 4 rfl (by kernel_rfl) (fun K hK => ?_)
        refine NextIn.append rfl (.tmp 18) (.tmp 21) 28 rfl rfl rfl r5.out ?_
        refine hK.out _ _ ?_
        clear hK
        simp only [Act.put, List.setIfInBounds_toArray, List.set_cons_zero, List.set_cons_succ]
        refine region_in1 5 rfl (by kernel_rfl) (fun K hK => ?_)
        have q5 := q5.out
        have f5 := f5.out
        refine NextIn.skip (w' := W5.setCell ⟨w2.heap.size, 0, none⟩ (.slice a5 ((fparts pre).length + 1) cap5)) rfl (fun c => by simp) rfl (by go_simp) ?_
        refine hK.out _ _ ?_
        clear hK
        simp only [Act.put]
        refine wpAnyIn_done (by kernel_rfl) ?_ _
        gi_wp2_with fail
        exact ⟨⟨((KeepsOthers.of_grownBy (row := none) (Below.grow hb1H.out) (fun j o e => by cases e)).trans k5.out).from _, (Leaves.of_below hvH.out.lt hb1H.out).trans l5.out⟩, by rw [hsnH.out]; exact s5.out, hBH.out.trans ((hb1H.out.mono hBH.out.size).trans b5.out)⟩
      · refine NextIn.value (v := .slice x.au x.u.length x.cu) (w' := Wd) rfl (fun c => by simp) rfl (by go_simp) ?_
        refine hK.out _ _ ?_
        clear hK
        simp only [Act.put, List.setIfInBounds_toArray, List.set_cons_zero, List.set_cons_succ]
        refine region_in2 0 2 rfl rfl (by kernel_rfl) (fun K hK => ?_) (fun K hK => ?_)
        · refine NextIn.value (v := vv) (w' := Wd) rfl (fun c => by simp) rfl (by go_simp) ?_
          refine hK.out _ _ ?_
          clear hK
          simp only [Act.put, List.setIfInBounds_toArray, List.set_cons_zero, List.set_cons_succ]
          refine region_in1 2 rfl (by kernel_rfl) (fun K hK => ?_)
          refine NextIn.call (f := 16) (args := #[.slice x.au x.u.length x.cu]) rfl (fun c => by simp) (fun _ => trivial) rfl (by go_simp) ?_
          refine (CallsIn.inRound l (callsIn_wide.2 hclH.out)).mono ?_
          rintro e W4 ⟨v4, rfl, ho4, hb4⟩
          refine ⟨v4, rfl, ?_⟩
          obtain ⟨a4, c4, rfl, hI4⟩ := OwnI.ints ho4
          obtain ⟨a5, cap5, W5, r5, q5, f5, s5, k5, l5, b5⟩ := hpuH.out W4 hb4 a4 c4 hI4
          have hc4 := cell_later hb4 hc1
          have hl4 := World.block_lt_of_cell? _ _ hc4
          refine hK.out _ _ ?_
          clear hK ho4 hI4
          simp only [Act.put, List.setIfInBounds_toArray, List.set_cons_zero, List.set_cons_succ]
          refine region_in1 3 rfl (by kernel_rfl) (fun K hK => ?_)
          refine NextIn.value (v := .slice (some ⟨W4.heap.size, 0, none⟩) 1 1) (w' := W4.alloc (.cells #[.slice a4 x.u.length c4] 25)) rfl (fun c => by simp) rfl (by go_simp) ?_
          refine hK.out _ _ ?_
          clear hK
          simp only [Act.put, List.setIfInBounds_toArray, List.set_cons_zero, List.set_cons_succ]
          refine region_in1 4 rfl (by kernel_rfl) (fun K hK => ?_)
          refine NextIn.append rfl (.tmp 18) (.tmp 21) 28 rfl rfl rfl r5.out ?_
          refine hK.out _ _ ?_
          clear hK
          simp only [Act.put, List.setIfInBounds_toArray, List.set_cons_zero, List.set_cons_succ]
          refine region_in1 5 rfl (by kernel_rfl) (fun K hK => ?_)
          have q5 := q5.out
          have f5 := f5.out
          refine NextIn.skip (w' := W5.setCell ⟨w2.heap.size, 0, none⟩ (.slice a5 ((fparts pre).length + 1) cap5)) rfl (fun c => by simp) rfl (by go_simp) ?_
          refine hK.out _ _ ?_
          clear hK
          simp only [Act.put]
          refine wpAnyIn_done (by kernel_rfl) ?_ _
          gi_wp2_with fail
          exact ⟨⟨((KeepsOthers.of_grownBy (row := none) (Below.grow hb1H.out) (fun j o e => by cases e)).trans k5.out).from _, (Leaves.of_below hvH.out.lt hb1H.out).trans l5.out⟩, by rw [hsnH.out]; exact s5.out, hBH.out.trans ((hb1H.out.mono hBH.out.size).trans b5.out)⟩
        · refine NextIn.call (f := 16) (args := #[.slice x.au x.u.length x.cu]) rfl (fun c => by simp) (fun _ => trivial) rfl (by go_simp) ?_
          refine (CallsIn.inRound l (callsIn_wide.2 hclH.out)).mono ?_
          rintro e W4 ⟨v4, rfl, ho4, hb4⟩
          refine ⟨v4, rfl, ?_⟩
          obtain ⟨a4, c4, rfl, hI4⟩ := OwnI.ints ho4
          obtain ⟨a5, cap5, W5, r5, q5, f5, s5, k5, l5, b5⟩ := hpuH.out W4 hb4 a4 c4 hI4
          have hc4 := cell_later hb4 hc1
          have hl4 := World.block_lt_of_cell? _ _ hc4
          refine hK.out _ _ ?_
          clear hK ho4 hI4
          simp only [Act.put, List.setIfInBounds_toArray, List.set_cons_zero, List.set_cons_succ]
          refine region_in2 0 3 rfl rfl (by kernel_rfl) (fun K hK => ?_) (fun K hK => ?_)
          · refine NextIn.value (v := vv) (w' := W4) rfl (fun c => by simp) rfl (by go_simp) ?_
            refine hK.out _ _ ?_
            clear hK
            simp only [Act.put, List.setIfInBounds_toArray, List.set_cons_zero, List.set_cons_succ]
            refine region_in1 3 rfl (by kernel_rfl) (fun K hK => ?_)
            refine NextIn.value (v := .slice (some ⟨W4.heap.size, 0, none⟩) 1 1) (w' := W4.alloc (.cells #[.slice a4 x.u.length c4] 25)) rfl (fun c => by simp) rfl (by go_simp) ?_
            refine hK.out _ _ ?_
            clear hK
            simp only [Act.put, List.setIfInBounds_toArray, List.set_cons_zero, List.set_cons_succ]
            refine region_in1 4 rfl (by kernel_rfl) (fun K hK => ?_)
            refine NextIn.append rfl (.tmp 18) (.tmp 21) 28 rfl rfl rfl r5.out ?_
            refine hK.out _ _ ?_
            clear hK
            simp only [Act.put, List.setIfInBounds_toArray, List.set_cons_zero, List.set_cons_succ]
            refine region_in1 5 rfl (by kernel_rfl) (fun K hK => ?_)
            have q5 := q5.out
            have f5 := f5.out
            refine NextIn.skip (w' := W5.setCell ⟨w2.heap.size, 0, none⟩ (.slice a5 ((fparts pre).length + 1) cap5)) rfl (fun c => by simp) rfl (by go_simp) ?_
            refine hK.out _ _ ?_
            clear hK
            simp only [Act.put]
            refine wpAnyIn_done (by kernel_rfl) ?_ _
            gi_wp2_with fail
            exact ⟨⟨((KeepsOthers.of_grownBy (row := none) (Below.grow hb1H.out) (fun j o e => by cases e)).trans k5.out).from _, (Leaves.of_below hvH.out.lt hb1H.out).trans l5.out⟩, by rw [hsnH.out]; exact s5.out, hBH.out.trans ((hb1H.out.mono hBH.out.size).trans b5.out)⟩
          · refine NextIn.value (v := .slice (some ⟨W4.heap.size, 0, none⟩) 1 1) (w' := W4.alloc (.cells #[.slice a4 x.u.length c4] 25)) rfl (fun c => by simp) rfl (by go_simp) ?_
            refine hK.out _ _ ?_
            clear hK
            simp only [Act.put, List.setIfInBounds_toArray, List.set_cons_zero, List.set_cons_succ]
            refine region_in1 0 rfl (by kernel_rfl) (fun K hK => ?_)
            refine NextIn.value (v := vv) (w' := W4.alloc (.cells #[.slice a4 x.u.length c4] 25)) rfl (fun c => by simp) rfl (by go_simp) ?_
            refine hK.out _ _ ?_
            clear hK
            simp only [Act.put, List.setIfInBounds_toArray, List.set_cons_zero, List.set_cons_succ]
            refine region_in1 4 rfl (by kernel_rfl) (fun K hK => ?_)
            refine NextIn.append rfl (.tmp 18) (.tmp 21) 28 rfl rfl rfl r5.out ?_
            refine hK.out _ _ ?_
            clear hK
            simp only [Act.put, List.setIfInBounds_toArray, List.set_cons_zero, List.set_cons_succ]
            refine region_in1 5 rfl (by kernel_rfl) (fun K hK => ?_)
            have q5 := q5.out
            have f5 := f5.out
            refine NextIn.skip (w' := W5.setCell ⟨w2.heap.size, 0, none⟩ (.slice a5 ((fparts pre).length + 1) cap5)) rfl (fun c => by simp) rfl (by go_simp) ?_
            refine hK.out _ _ ?_
            clear hK
            simp only [Act.put]
            refine wpAnyIn_done (by kernel_rfl) ?_ _
            gi_wp2_with fail
            exact ⟨⟨((KeepsOthers.of_grownBy (row := none) (Below.grow hb1H.out) (fun j o e => by cases e)).trans k5.out).from _, (Leaves.of_below hvH.out.lt hb1H.out).trans l5.out⟩, by rw [hsnH.out]; exact s5.out, hBH.out.trans ((hb1H.out.mono hBH.out.size).trans b5.out)⟩
    case done =>
      rintro D ys W hD hys ⟨⟨vv, hv, ho⟩, hB⟩ hK
      have hc := hv.cell
      rw [fparts_all hys] at ho
      have hpl := partsL_len hxH.out
      have hsort := fun l' => partsT_sorted (s := s) (t := t) (l := l')
      obtain ⟨L, hL⟩ : ∃ L, partsL s t = L := ⟨_, rfl⟩
      rw [hL] at ho hpl hsort
      have ht1 : 1 ≤ t.length := by
        have := okT_skip0 hxH.out
        rcases Nat.eq_zero_or_pos t.length with h0 | h0
        · rw [List.eq_nil_of_length_eq_zero h0] at this; simp [skip] at this
        · exact h0
      have hnb := OwnL.notBox ho hv (by decide)
      obtain ⟨g, cap, hvv, hg1, hg2⟩ := OwnL.form ho (by intro e; rw [e] at hpl; simp at hpl; omega)
      subst hvv
      have hgB : g ≠ w2.heap.size := fun e => hnb (by rw [e]; rfl)
      obtain ⟨cur, hcur⟩ := OwnL.rowCells ho g rfl
      have hgD : g ≠ D := fun e => by rw [e, hK] at hcur; cases hcur
      have hDl : D < W.heap.size := by
        rcases Nat.lt_or_ge D W.heap.size with h | h
        · exact h
        · rw [Array.getElem?_eq_none h] at hK; cases hK
      have cs := SortT_any (S := fun b => b ≠ w2.heap.size) ho (by omega) (by omega)
      have hcs := Lib.hid cs
      have hplH := Lib.hid hpl
      have hsortH := Lib.hid hsort
      have hLH := Lib.hid hL
      have hoH := Lib.hid ho
      have hvH := Lib.hid hv
      have hBH := Lib.hid hB
      have hKH := Lib.hid hK
      clear cs ho hv hB hcur hnb hpl hsort hL
      gi_wp2
      refine ⟨trivial, ?_⟩
      (with_reducible refine (callsIn_wide.2 hcs.out).mono ?_)
      rintro e W1 ⟨rfl, l', hp, hs, ho1, hg⟩
      have hv1 : Boxed W1 w2.heap.size 28 (.slice (some ⟨g, 0, none⟩) L.length cap) := (hg.block _ hvH.out.lt (fun e => hgB (by injection e with e; exact e.symm))).trans hvH.out
      have hK1 := (hg.block D hDl (fun e => hgD (by injection e with e; exact e.symm))).trans hKH.out
      have hc1 := hv1.cell
      have hpl := hplH.out
      have hpl1 : l'.length = L.length := hp.length_eq
      rw [← hpl1] at ho1
      have cc := Compact_any (S := fun b => b ≠ w2.heap.size) ho1 (by omega) (by omega)
      rw [hsortH.out l' hp hs, hpl1] at cc
      have hccH := Lib.hid cc
      have hgH := Lib.hid hg
      have hK1H := Lib.hid hK1
      clear cc ho1 hg hs hp hv1 hK1 hcs hpl1 hpl
      gi_wp2
      refine ⟨trivial, ?_⟩
      (with_reducible refine (callsIn_wide.2 hccH.out).mono ?_)
      rintro e W2 ⟨m, rfl, rfl, ho2, hgg⟩
      have hK2 := (hgg.block D (Nat.lt_of_lt_of_le hDl hgH.out.size) (fun e => hgD (by injection e with e; exact e.symm))).trans hK1H.out
      have hgT := grown_by hgH.out hgg
      have hB2 : Below w2.heap.size w2 W2 := hBH.out.grown hgT hBH.out.size (fun k e => by injection e with e; omega)
      gi_wp2
      refine ⟨by simp, .inl ⟨_, _, rfl, run_takeDeferred hK2, ?_⟩⟩
      exact ⟨_, results_tmp2 rfl _ _ _, _, rfl, OwnL.baseMono (OwnL.putObj ho2 hK2 rfl (celled_sl celled_int)) hWl, (hbbH.out.trans ((hB2.trans (belowK_b (w := w2) (Nat.le_refl _) W2 D _ _ (by omega) hK2 rfl rfl)).mono hWl))⟩
    case stop =>
      rintro D c pre W _ _ h _
      exact h.elim
end Go.Proofs.Ytjiffkpgadjodaa
