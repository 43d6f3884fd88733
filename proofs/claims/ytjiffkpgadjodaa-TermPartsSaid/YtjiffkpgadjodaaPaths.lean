/- Walks: Paths of the program. -/
import Derived.Test.YtjiffkpgadjodaaPartsSeq
import Derived.Test.YtjiffkpgadjodaaRPaths
import Derived.Test.YtjiffkpgadjodaaBoxList
import Derived.Test.YtjiffkpgadjodaaRegionIn
namespace Go.Proofs.Ytjiffkpgadjodaa
open Go Go.RowKit Go.Shelf

attribute [local go_sem] Oper.semAt_some

/-- the paths of the parts that are v -/
def fpaths (v : List Int) (pre : List El) : List (List Int) := (pre.filter (fun x => decide (x.u = v))).map El.p
theorem fpaths_snoc (v : List Int) (pre : List El) (x : El) : fpaths v (pre ++ [x]) = if x.u = v then fpaths v pre ++ [x.p] else fpaths v pre := by
  unfold fpaths
  rw [List.filter_append, List.map_append]
  by_cases h : x.u = v
  · rw [if_pos h, List.filter_cons_of_pos (by simpa using h)]; rfl
  · rw [if_neg h, List.filter_cons_of_neg (by simpa using h)]; simp
theorem fpaths_len (v : List Int) (pre : List El) : (fpaths v pre).length ≤ pre.length := by unfold fpaths; rw [List.length_map]; exact List.length_filter_le _ _
theorem fpaths_all {s : Sg} {t v : List Int} {ys : List El} (h : ys.map El.pt = PL s t.length t) : fpaths v ys = pathsT s t v := by
  unfold fpaths pathsT
  rw [← h, List.filter_map, List.map_map]; rfl

set_option maxHeartbeats 400000 in
theorem ClonePath_any {S : Nat → Prop} (a : Option Addr) (c : Nat) (l : List Int) (w : World) (h : Ints S w a c l) (hl : l.length ≤ lim) :
    Calls Try.prog 24 #[.slice a l.length c] w (retOwn w l) := by
  cases a with
  | none =>
    obtain ⟨rfl, rfl⟩ := h.nil rfl
    have hnl := fun W => Lib.run_eql_slice_nil (P := Try.prog) W 24 3 none 0 0 0 0 Try.underlying24
    go_enter Try.func24, Try.ntmps24
    go_wp2_with fail
    go_ret
    exact ⟨_, rfl, .nil _ _ _ _ _, .refl _ _⟩
  | some a =>
    have hnl := fun W => Lib.run_eql_slice_nil (P := Try.prog) W 24 3 (some a) l.length c 0 0 Try.underlying24
    obtain ⟨v', w', hrun, ho, hg, -, -⟩ := (OwnL.made intE (fun _ => False) w w.heap.size 3 (Nat.le_refl _)).append_run (P := Try.prog) (t := 24) (ty := 24) Try.underlying24 infoInt rfl (h.below (below1 w (.cells #[] 3))) (fun _ _ _ h => h) (by unfold lim at hl; simp; omega) (by unfold lim at hl; unfold big; simp; omega) (by simp)
    have hB : Below w.heap.size w w' := (below1 w (.cells #[] 3)).grown hg (by simp) (fun k e => by simp [Value.ownBlock] at e; omega)
    rw [List.nil_append] at ho
    clear hg
    have hrunH := Lib.hid hrun
    clear hrun
    go_enter Try.func24, Try.ntmps24
    go_wp2_with (at_builtin; refine wpList_append_run rfl _ _ _ rfl rfl rfl hrunH.out ?_)
    go_ret
    exact ⟨_, rfl, ho, hB⟩

theorem elR_own (B : Nat) (x : El) : OwnFrom B (fun (_ : Unit) W => ElR x W) :=
  OwnFrom.and (ints_own B) (OwnFrom.and (ints_own B) (ownFrom_pure B (fun (_ : Unit) => x.p.length ≤ 60 ∧ x.u.length ≤ 60)))
set_option maxRecDepth 100000 in
set_option maxHeartbeats 4000000 in
theorem Paths_any {S1 S2 S3 : Nat → Prop} (a1 a2 a3 : Option Addr) (c1 c2 c3 : Nat) (s : Sg) (t v : List Int) (w : World) (h1 : Sign S1 w a1 c1 s) (h2 : Ints S2 w a2 c2 t) (h3 : Ints S3 w a3 c3 v) :
    Calls Try.prog 9 #[.slice a1 s.length c1, .slice a2 t.length c2, .slice a3 v.length c3] w (retPE (pathsE s t v) w) := by
  have m2 := h2.le
  have m3 := h3.le
  obtain ⟨W, hW⟩ : ∃ W, w.alloc (.cells #[.slice a3 v.length c3] 25) = W := ⟨_, rfl⟩
  have hbW : Below w.heap.size w W := by rw [← hW]; exact below1 _ _
  have hcu : W.cell? ⟨w.heap.size, 0, none⟩ = some (.slice a3 v.length c3) := by rw [← hW]; clear hW; go_simp
  have v1 := Valid_any a1 a2 c1 c2 s t W (h1.below hbW) (h2.below hbW)
  have v2 := fun W' (hb : Below W.heap.size W W') => Valid_any a1 a3 c1 c3 s v W' ((h1.below hbW).below hb) ((h3.below hbW).below hb)
  obtain ⟨x, hx⟩ : ∃ x, okT s t = x := ⟨_, rfl⟩
  obtain ⟨x2, hx2⟩ : ∃ x, okT s v = x := ⟨_, rfl⟩
  rw [hx, ← hW] at v1
  rw [hx2] at v2
  have v1H := Lib.hid v1
  have v2H := Lib.hid v2
  clear v1 v2
  cases x with
  | false =>
    rw [show pathsE s t v = ([], 1) by rw [pathsE, hx, if_neg (by simp)]]
    have hWH := Lib.hid hW
    have hbWH := Lib.hid hbW
    clear hx hx2 hW hcu hbW h1 h2 h3
    refine (callsIn_wide (n := 6)).1 ?_
    refine callsIn_of_wp_marks Try.func9 rfl trivial ?_ rfl
    simp only [Try.ntmps9, List.size_toArray, List.length_cons, List.length_nil, Nat.reduceAdd, Nat.reduceSub, Array.replicate_succ, Array.replicate_zero, List.push_toArray, List.append_toArray, List.nil_append, List.cons_append]
    gi_wp2_with fail
    refine ⟨trivial, ?_⟩
    gi_at_call 14
    refine (callsIn_wide.2 v1H.out).mono ?_
    rintro e w1 ⟨rfl, hb⟩
    gi_wp2_with fail
    refine ⟨trivial, ?_⟩
    gi_wp2_with fail
    exact ⟨_, results_tmp2 rfl _ _ _, _, rfl, .nil _ _ _ _ _, hbWH.out.trans (by rw [← hWH.out]; exact hb.mono (by simp))⟩
  | true =>
  cases x2 with
  | false =>
    rw [show pathsE s t v = ([], 1) by rw [pathsE, hx2, if_neg (by simp)]]
    have hWH := Lib.hid hW
    have hbWH := Lib.hid hbW
    have hcuH := Lib.hid hcu
    clear hx hx2 hW hcu hbW h1 h2 h3
    refine (callsIn_wide (n := 6)).1 ?_
    refine callsIn_of_wp_marks Try.func9 rfl trivial ?_ rfl
    simp only [Try.ntmps9, List.size_toArray, List.length_cons, List.length_nil, Nat.reduceAdd, Nat.reduceSub, Array.replicate_succ, Array.replicate_zero, List.push_toArray, List.append_toArray, List.nil_append, List.cons_append]
    gi_wp2_with fail
    refine ⟨trivial, ?_⟩
    gi_at_call 14
    refine (callsIn_wide.2 v1H.out).mono ?_
    rintro e w1 ⟨rfl, hb⟩
    rw [hWH.out] at hb
    have hcu1 := cell_later hb hcuH.out
    gi_wp2_with fail
    refine ⟨trivial, ?_⟩
    gi_at_call 14
    refine (callsIn_wide.2 (v2H.out _ hb)).mono ?_
    rintro e w2 ⟨rfl, hb2⟩
    gi_wp2_with fail
    exact ⟨_, results_tmp2 rfl _ _ _, _, rfl, .nil _ _ _ _ _, hbWH.out.trans ((bcall hb hb2).mono hbWH.out.size)⟩
  | true =>
    rw [show pathsE s t v = (pathsT s t v, 0) by rw [pathsE, hx, hx2, if_pos ⟨rfl, rfl⟩]]
    have hxH := Lib.hid hx
    have hWH := Lib.hid hW
    have hbWH := Lib.hid hbW
    have hcuH := Lib.hid hcu
    have h1H := Lib.hid (h1.below hbW).lt
    have h2H := Lib.hid (h2.below hbW).lt
    have h3H := Lib.hid (h3.below hbW)
    clear hx hx2 hW hcu hbW h1 h2 h3
    refine (callsIn_wide (n := 6)).1 ?_
    refine callsIn_of_wp_marks Try.func9 rfl trivial ?_ rfl
    simp only [Try.ntmps9, List.size_toArray, List.length_cons, List.length_nil, Nat.reduceAdd, Nat.reduceSub, Array.replicate_succ, Array.replicate_zero, List.push_toArray, List.append_toArray, List.nil_append, List.cons_append]
    gi_wp2_with fail
    refine ⟨trivial, ?_⟩
    gi_at_call 14
    refine (callsIn_wide.2 v1H.out).mono ?_
    rintro e w1 ⟨rfl, hb⟩
    rw [hWH.out] at hb
    have hcu1 := cell_later hb hcuH.out
    gi_wp2_with fail
    refine ⟨trivial, ?_⟩
    gi_at_call 14
    refine (callsIn_wide.2 (v2H.out _ hb)).mono ?_
    rintro e w2 ⟨rfl, hb2⟩
    have hbb := bcall hb hb2
    clear hcu1 hb hb2 v1H v2H
    gi_wp2_with fail
    refine ⟨trivial, ?_⟩
    gi_at_call 15
    refine (parts_in _ _ _ _ _ _ _ _).mono ?_
    rintro e w' ⟨rfl, rfl⟩
    gi_wp2_with fail
    obtain ⟨W0, hW0⟩ : ∃ W0, ((w2.alloc (.cells #[.slice none 0 0] 33)).alloc (.cells #[.slice a1 s.length c1] 23)).alloc (.cells #[.slice a2 t.length c2] 25) = W0 := ⟨_, rfl⟩
    rw [hW0]
    have hb20 : Below w2.heap.size w2 W0 := by rw [← hW0]; exact below3 _ _ _ _
    have hbox : BoxL (slE intE) w2.heap.size 33 w2.heap.size 24 [] W0 := by
      rw [← hW0]
      exact (BoxL.new (E := slE intE) (T := 33) (base := w2.heap.size) (e := 24) w2).below (below2 _ _ _)
    have hrow := hbox.rowLt
    have hr0 : rowOf w2.heap.size W0 = none := by
      have hv0 : Boxed W0 w2.heap.size 33 (.slice none 0 0) := by rw [← hW0]; exact ((Boxed.new w2 33 _).alloc _).alloc _
      rw [rowOf_boxed hv0]; rfl
    have hsafe : ∀ b, b ≠ w2.heap.size → CellsAt W0 b → Safe w2.heap.size W0 b := fun b hb hc => ⟨hb, by rw [hr0]; simp, hc⟩
    have hz0 : W0.heap.size = w2.heap.size + 1 + 1 + 1 := by rw [← hW0]; simp
    have hcs : W0.cell? ⟨w2.heap.size + 1, 0, none⟩ = some (.slice a1 s.length c1) := by rw [← hW0]; clear hW0; go_simp
    have hct : W0.cell? ⟨w2.heap.size + 1 + 1, 0, none⟩ = some (.slice a2 t.length c2) := by rw [← hW0]; clear hW0; go_simp
    have hWl : W.heap.size ≤ w2.heap.size := hbb.size
    have hb0W : Below W.heap.size W W0 := hbb.trans (hb20.mono hWl)
    have hsg : Sign (Safe w2.heap.size W0) W0 a1 c1 s := (Sign.cellsAt (h1H.out.below hb0W)).weak (fun b hb => hsafe b (by have := hb.1.2; omega) hb.2)
    have hut : Ints (Safe w2.heap.size W0) W0 a2 c2 t := (Ints.cellsAt (h2H.out.below hb0W)).weak (fun b hb => hsafe b (by have := hb.1.2; omega) hb.2)
    have hcuW := cell_later hbb hcuH.out
    have hseq := parts_seq (6 - 1) (w2.heap.size + 1) (w2.heap.size + 1 + 1) w2.heap.size a1 a2 c1 c2 s t W0 hxH.out hrow hcs (hsafe _ (by omega) (.of_cell hcs)) hct (hsafe _ (by omega) (.of_cell hct)) hsg hut
    have h60 := (okT_parts hxH.out).2.2.1
    have hbox' := Lib.hid hbox
    have hb20H := Lib.hid hb20
    have hbbH := Lib.hid hbb
    have hcuWH := Lib.hid hcuW
    clear hbox hrow hr0 hsafe hcs hct hb0W hsg hut hW0 hbb hcuW
    refine range_rel rfl (by omega) (gf := 32) (lb := #[.pointer (some ⟨w2.heap.size + 1, 0, none⟩), .pointer (some ⟨w2.heap.size + 1 + 1, 0, none⟩)]) rfl trivial (enters_of Try.func32 (by kernel_rfl) rfl)
      hseq (fun h k => h.trans k) (fun W l o o' hl h hc _ => Leaves.putObj (by omega) h hc) (Below.refl _ _) El.size
      (fun pre W => BoxL (slE intE) w2.heap.size 33 w2.heap.size 24 (fpaths v pre) W ∧ Below w2.heap.size w2 W)
      (fun _ _ _ => False)
      (OwnFrom.and (boxL_own (celled_sl celled_int) _ _) (ownFrom_below (Nat.le_refl _) (by omega)))
      (fun _ _ _ _ _ hs _ _ => hs)
      ⟨hbox'.out, hb20H.out⟩
      (fun x a' W => a' = { tmps := #[.slice a1 s.length c1, .slice a2 t.length c2, .slice a3 v.length c3, undef, undef, .pointer (some ⟨w.heap.size, 0, none⟩), .slice none 0 0, .int .i64 0, .pointer (some ⟨w2.heap.size, 0, none⟩), .slice x.ap x.p.length x.cp, .slice x.au x.u.length x.cu,
          .slice a1 s.length c1, .slice a2 t.length c2, .bool true, .bool false, .bool false, .slice a1 s.length c1, .slice a3 v.length c3, .bool true, .bool false, .bool false, .slice a1 s.length c1, .slice a2 t.length c2,
          .func (.func 32) #[] #[.pointer (some ⟨w2.heap.size + 1, 0, none⟩), .pointer (some ⟨w2.heap.size + 1 + 1, 0, none⟩)], .slice x.ap x.p.length x.cp, .slice x.au x.u.length x.cu, undef, undef, undef, undef, undef, undef, undef, undef, undef], defers := [] } ∧ ElR x W)
      (fun x a' => OwnFrom.and (ownFrom_pure _ (fun _ => a' = _)) (elR_own _ x)) ?assign ?body ?done ?stop
    case assign =>
      intro l pre x W K hi hr hK
      dsimp only [El.enc]
      gi_wp2
      exact hK _ _ (KeepsFrom.refl _ _) (Leaves.refl _ _) hi ⟨rfl, hr⟩
    case body =>
      rintro l pre x a' W - - ⟨⟨vv, hv, ho⟩, hB⟩ ⟨rfl, hx1, hx2, hx3, hx4⟩ hlen
      have hcu := cell_later hB hcuWH.out
      have cc := Equal_any x.au a3 x.cu c3 x.u v W hx2 ((h3H.out.below (hbbH.out.trans (hB.mono hWl))))
      have hsn := fpaths_snoc v pre x
      have hpl := fpaths_len v pre
      have hoH := Lib.hid ho
      have hBH := Lib.hid hB
      have hvH := Lib.hid hv
      have hx1H := Lib.hid hx1
      clear ho hB hv hx1 hx2
      by_cases hm : x.u = v
      · rw [decide_eq_true hm] at cc
        rw [if_pos hm] at hsn
        have ccH := Lib.hid cc
        have hsnH := Lib.hid hsn
        clear cc hsn hm
        gi_wp2_with fail
        refine ⟨trivial, (CallsIn.inRound l (callsIn_wide.2 ccH.out)).mono ?_⟩
        rintro e W1 ⟨rfl, n1, rfl⟩
        have hb1 : Below W.heap.size W ((W.drewN n1).drew) := (below_drewN (.refl _ _) n1).drew
        obtain ⟨Wd, hWd⟩ : ∃ Wd, (W.drewN n1).drew = Wd := ⟨_, rfl⟩
        rw [hWd] at hb1
        have hvd : Boxed Wd w2.heap.size 33 vv := (hb1.block _ hvH.out.lt).trans hvH.out
        have hod := hoH.out.call hb1
        have hcl := ClonePath_any x.ap x.cp x.p Wd (hx1H.out.below hb1) (by unfold lim; omega)
        have hpu := fun (W4 : World) (hb4 : Below Wd.heap.size Wd W4) (a4 : Option Addr) (c4 : Nat) (hI4 : Ints (fun b => Wd.heap.size ≤ b) W4 a4 c4 x.p) => box_push (P := Try.prog) (t := 33) (ty := 33) (x := x.p) (vs := [.slice a4 x.p.length c4]) hvd hod (by decide) (Nat.le_trans hBH.out.size hb1.size) (Nat.le_refl _) hb4 Try.underlying33 infoPath rfl ⟨a4, c4, rfl, hI4.weak (fun b hb => ⟨fun e => by have := hvd.lt; omega, fun e => by have := (hod.lt b e.symm).2; omega⟩)⟩ (by omega) (by unfold big; omega)
        have hclH := Lib.hid hcl
        have hpuH := Lib.hid hpu
        have hb1H := Lib.hid hb1
        have hWdH := Lib.hid hWd
        have hc1 := hvd.cell
        have hltd := hvd.lt
        clear hcl hpu hb1 hvd hod hWd
        gi_wp2_with fail
        refine wpIn_region_any (by kernel_rfl) ?_
        show wpAnyIn _ _ _ _ _ _ _ _ _ ((W.drewN n1).drew)
        rw [hWdH.out]
        refine region_in2 0 1 rfl rfl (by kernel_rfl) (fun K hK => ?_) (fun K hK => ?_)
        · refine NextIn.value (v := vv) (w' := Wd) rfl (fun c => by simp) rfl (by go_simp) ?_
          refine hK.out _ _ ?_
          clear hK
          simp only [Act.put, List.setIfInBounds_toArray, List.set_cons_zero, List.set_cons_succ]
          refine region_in1 1 rfl (by kernel_rfl) (fun K hK => ?_)
          refine NextIn.value (v := .slice x.ap x.p.length x.cp) (w' := Wd) rfl (fun c => by simp) rfl (by go_simp) ?_
          refine hK.out _ _ ?_
          clear hK
          simp only [Act.put, List.setIfInBounds_toArray, List.set_cons_zero, List.set_cons_succ]
          refine region_in1 2 rfl (by kernel_rfl) (fun K hK => ?_)
          refine NextIn.call (f := 24) (args := #[.slice x.ap x.p.length x.cp]) rfl (fun c => by simp) (fun _ => trivial) rfl (by go_simp) ?_
          refine (CallsIn.inRound l (callsIn_wide.2 hclH.out)).mono ?_
          rintro e W4 ⟨v4, rfl, ho4, hb4⟩
          refine ⟨v4, rfl, ?_⟩
          obtain ⟨a4, c4, rfl, hI4⟩ := OwnI.ints ho4
          obtain ⟨a5, cap5, W5, r5, q5, f5, s5, k5, l5, b5⟩ := hpuH.out W4 hb4 a4 c4 hI4
          have hc4 := cell_later hb4 hc1
          have hl4 := World.block_lt_of_cell? _ _ hc4
          refine hK.out _ _ ?_
          clear hK ho4 hI4
          simp only [Act.put, List.setIfInBounds_toArray, List.set_cons_zero, List.set_cons_succ]
          refine region_in1 3 rfl (by kernel_rfl) (fun K hK => ?_)
          refine NextIn.value (v := .slice (some ⟨W4.heap.size, 0, none⟩) 1 1) (w' := W4.alloc (.cells #[.slice a4 x.p.length c4] 24)) rfl (fun c => by simp) rfl (by go_simp) ?_
          refine hK.out _ _ ?_
          clear hK
          simp only [Act.put, List.setIfInBounds_toArray, List.set_cons_zero, List.set_cons_succ]
          refine region_in1 4 rfl (by kernel_rfl) (fun K hK => ?_)
          refine NextIn.append rfl (.tmp 29) (.tmp 32) 33 rfl rfl rfl r5.out ?_
          refine hK.out _ _ ?_
          clear hK
          simp only [Act.put, List.setIfInBounds_toArray, List.set_cons_zero, List.set_cons_succ]
          refine region_in1 5 rfl (by kernel_rfl) (fun K hK => ?_)
          have q5 := q5.out
          have f5 := f5.out
          refine NextIn.skip (w' := W5.setCell ⟨w2.heap.size, 0, none⟩ (.slice a5 ((fpaths v pre).length + 1) cap5)) rfl (fun c => by simp) rfl (by go_simp) ?_
          refine hK.out _ _ ?_
          clear hK
          simp only [Act.put]
          refine wpAnyIn_done (by kernel_rfl) ?_ _
          gi_wp2_with fail
          exact ⟨⟨((KeepsOthers.of_grownBy (row := none) (Below.grow hb1H.out) (fun j o e => by cases e)).trans k5.out).from _, (Leaves.of_below hvH.out.lt hb1H.out).trans l5.out⟩, by rw [hsnH.out]; exact s5.out, hBH.out.trans ((hb1H.out.mono hBH.out.size).trans b5.out)⟩
        · refine NextIn.value (v := .slice x.ap x.p.length x.cp) (w' := Wd) rfl (fun c => by simp) rfl (by go_simp) ?_
          refine hK.out _ _ ?_
          clear hK
          simp only [Act.put, List.setIfInBounds_toArray, List.set_cons_zero, List.set_cons_succ]
          refine region_in2 0 2 rfl rfl (by kernel_rfl) (fun K hK => ?_) (fun K hK => ?_)
          · refine NextIn.value (v := vv) (w' := Wd) rfl (fun c => by simp) rfl (by go_simp) ?_
            refine hK.out _ _ ?_
            clear hK
            simp only [Act.put, List.setIfInBounds_toArray, List.set_cons_zero, List.set_cons_succ]
            refine region_in1 2 rfl (by kernel_rfl) (fun K hK => ?_)
            refine NextIn.call (f := 24) (args := #[.slice x.ap x.p.length x.cp]) rfl (fun c => by simp) (fun _ => trivial) rfl (by go_simp) ?_
            refine (CallsIn.inRound l (callsIn_wide.2 hclH.out)).mono ?_
            rintro e W4 ⟨v4, rfl, ho4, hb4⟩
            refine ⟨v4, rfl, ?_⟩
            obtain ⟨a4, c4, rfl, hI4⟩ := OwnI.ints ho4
            obtain ⟨a5, cap5, W5, r5, q5, f5, s5, k5, l5, b5⟩ := hpuH.out W4 hb4 a4 c4 hI4
            have hc4 := cell_later hb4 hc1
            have hl4 := World.block_lt_of_cell? _ _ hc4
            refine hK.out _ _ ?_
            clear hK ho4 hI4
            simp only [Act.put, List.setIfInBounds_toArray, List.set_cons_zero, List.set_cons_succ]
            refine region_in1 3 rfl (by kernel_rfl) (fun K hK => ?_)
            refine NextIn.value (v := .slice (some ⟨W4.heap.size, 0, none⟩) 1 1) (w' := W4.alloc (.cells #[.slice a4 x.p.length c4] 24)) rfl (fun c => by simp) rfl (by go_simp) ?_
            refine hK.out _ _ ?_
            clear hK
            simp only [Act.put, List.setIfInBounds_toArray, List.set_cons_zero, List.set_cons_succ]
            refine region_in1 4 rfl (by kernel_rfl) (fun K hK => ?_)
            refine NextIn.append rfl (.tmp 29) (.tmp 32) 33 rfl rfl rfl r5.out ?_
            refine hK.out _ _ ?_
            clear hK
            simp only [Act.put, List.setIfInBounds_toArray, List.set_cons_zero, List.set_cons_succ]
            refine region_in1 5 rfl (by kernel_rfl) (fun K hK => ?_)
            have q5 := q5.out
            have f5 := f5.out
            refine NextIn.skip (w' := W5.setCell ⟨w2.heap.size, 0, none⟩ (.slice a5 ((fpaths v pre).length + 1) cap5)) rfl (fun c => by simp) rfl (by go_simp) ?_
            refine hK.out _ _ ?_
            clear hK
            simp only [Act.put]
            refine wpAnyIn_done (by kernel_rfl) ?_ _
            gi_wp2_with fail
            exact ⟨⟨((KeepsOthers.of_grownBy (row := none) (Below.grow hb1H.out) (fun j o e => by cases e)).trans k5.out).from _, (Leaves.of_below hvH.out.lt hb1H.out).trans l5.out⟩, by rw [hsnH.out]; exact s5.out, hBH.out.trans ((hb1H.out.mono hBH.out.size).trans b5.out)⟩
          · refine NextIn.call (f := 24) (args := #[.slice x.ap x.p.length x.cp]) rfl (fun c => by simp) (fun _ => trivial) rfl (by go_simp) ?_
            refine (CallsIn.inRound l (callsIn_wide.2 hclH.out)).mono ?_
            rintro e W4 ⟨v4, rfl, ho4, hb4⟩
            refine ⟨v4, rfl, ?_⟩
            obtain ⟨a4, c4, rfl, hI4⟩ := OwnI.ints ho4
            obtain ⟨a5, cap5, W5, r5, q5, f5, s5, k5, l5, b5⟩ := hpuH.out W4 hb4 a4 c4 hI4
            have hc4 := cell_later hb4 hc1
            have hl4 := World.block_lt_of_cell? _ _ hc4
            refine hK.out _ _ ?_
            clear hK ho4 hI4
            simp only [Act.put, List.setIfInBounds_toArray, List.set_cons_zero, List.set_cons_succ]
            refine region_in2 0 3 rfl rfl (by kernel_rfl) (fun K hK => ?_) (fun K hK => ?_)
            · refine NextIn.value (v := vv) (w' := W4) rfl (fun c => by simp) rfl (by go_simp) ?_
              refine hK.out _ _ ?_
              clear hK
              simp only [Act.put, List.setIfInBounds_toArray, List.set_cons_zero, List.set_cons_succ]
              refine region_in1 3 rfl (by kernel_rfl) (fun K hK => ?_)
              refine NextIn.value (v := .slice (some ⟨W4.heap.size, 0, none⟩) 1 1) (w' := W4.alloc (.cells #[.slice a4 x.p.length c4] 24)) rfl (fun c => by simp) rfl (by go_simp) ?_
              refine hK.out _ _ ?_
              clear hK
              simp only [Act.put, List.setIfInBounds_toArray, List.set_cons_zero, List.set_cons_succ]
              refine region_in1 4 rfl (by kernel_rfl) (fun K hK => ?_)
              refine NextIn.append rfl (.tmp 29) (.tmp 32) 33 rfl rfl rfl r5.out ?_
              refine hK.out _ _ ?_
              clear hK
              simp only [Act.put, List.setIfInBounds_toArray, List.set_cons_zero, List.set_cons_succ]
              refine region_in1 5 rfl (by kernel_rfl) (fun K hK => ?_)
              have q5 := q5.out
              have f5 := f5.out
              refine NextIn.skip (w' := W5.setCell ⟨w2.heap.size, 0, none⟩ (.slice a5 ((fpaths v pre).length + 1) cap5)) rfl (fun c => by simp) rfl (by go_simp) ?_
              refine hK.out _ _ ?_
              clear hK
              simp only [Act.put]
              refine wpAnyIn_done (by kernel_rfl) ?_ _
              gi_wp2_with fail
              exact ⟨⟨((KeepsOthers.of_grownBy (row := none) (Below.grow hb1H.out) (fun j o e => by cases e)).trans k5.out).from _, (Leaves.of_below hvH.out.lt hb1H.out).trans l5.out⟩, by rw [hsnH.out]; exact s5.out, hBH.out.trans ((hb1H.out.mono hBH.out.size).trans b5.out)⟩
            · refine NextIn.value (v := .slice (some ⟨W4.heap.size, 0, none⟩) 1 1) (w' := W4.alloc (.cells #[.slice a4 x.p.length c4] 24)) rfl (fun c => by simp) rfl (by go_simp) ?_
              refine hK.out _ _ ?_
              clear hK
              simp only [Act.put, List.setIfInBounds_toArray, List.set_cons_zero, List.set_cons_succ]
              refine region_in1 0 rfl (by kernel_rfl) (fun K hK => ?_)
              refine NextIn.value (v := vv) (w' := W4.alloc (.cells #[.slice a4 x.p.length c4] 24)) rfl (fun c => by simp) rfl (by go_simp) ?_
              refine hK.out _ _ ?_
              clear hK
              simp only [Act.put, List.setIfInBounds_toArray, List.set_cons_zero, List.set_cons_succ]
              refine region_in1 4 rfl (by kernel_rfl) (fun K hK => ?_)
              refine NextIn.append rfl (.tmp 29) (.tmp 32) 33 rfl rfl rfl r5.out ?_
              refine hK.out _ _ ?_
              clear hK
              simp only [Act.put, List.setIfInBounds_toArray, List.set_cons_zero, List.set_cons_succ]
              refine region_in1 5 rfl (by kernel_rfl) (fun K hK => ?_)
              have q5 := q5.out
              have f5 := f5.out
              refine NextIn.skip (w' := W5.setCell ⟨w2.heap.size, 0, none⟩ (.slice a5 ((fpaths v pre).length + 1) cap5)) rfl (fun c => by simp) rfl (by go_simp) ?_
              refine hK.out _ _ ?_
              clear hK
              simp only [Act.put]
              refine wpAnyIn_done (by kernel_rfl) ?_ _
              gi_wp2_with fail
              exact ⟨⟨((KeepsOthers.of_grownBy (row := none) (Below.grow hb1H.out) (fun j o e => by cases e)).trans k5.out).from _, (Leaves.of_below hvH.out.lt hb1H.out).trans l5.out⟩, by rw [hsnH.out]; exact s5.out, hBH.out.trans ((hb1H.out.mono hBH.out.size).trans b5.out)⟩
      · rw [decide_eq_false hm] at cc
        rw [if_neg hm] at hsn
        have ccH := Lib.hid cc
        have hsnH := Lib.hid hsn
        clear cc hsn hm
        gi_wp2_with fail
        refine ⟨trivial, (CallsIn.inRound l (callsIn_wide.2 ccH.out)).mono ?_⟩
        rintro e W1 ⟨rfl, n1, rfl⟩
        have hb1 : Below W.heap.size W (W.drewN n1) := below_drewN (.refl _ _) n1
        have hb1H := Lib.hid hb1
        clear hb1
        gi_wp2_with fail
        exact ⟨⟨(KeepsOthers.of_grownBy (row := none) (Below.grow hb1H.out) (fun j o e => by cases e)).from _, .of_below hvH.out.lt hb1H.out⟩, by rw [hsnH.out]; exact BoxL.below ⟨vv, hvH.out, hoH.out⟩ hb1H.out, hBH.out.trans (hb1H.out.mono hBH.out.size)⟩
    case done =>
      rintro D ys W hD hys ⟨⟨vv, hv, ho⟩, hB⟩ hK
      have hc := hv.cell
      rw [fpaths_all hys] at ho
      gi_wp2
      refine ⟨by simp, .inl ⟨_, _, rfl, run_takeDeferred hK, ?_⟩⟩
      exact ⟨_, results_tmp2 rfl _ _ _, vv, rfl, OwnL.baseMono (OwnL.putObj ho hK rfl (celled_sl celled_int)) (Nat.le_trans hbWH.out.size hWl), hbWH.out.trans ((hbbH.out.trans ((hB.trans (belowK_b (w := w2) (Nat.le_refl _) W D _ _ (by omega) hK rfl rfl)).mono hWl)).mono hbWH.out.size)⟩
    case stop =>
      rintro D c pre W _ _ h _
      exact h.elim
end Go.Proofs.Ytjiffkpgadjodaa
