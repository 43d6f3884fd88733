/- The statement DepsBreaksSaid: for every input DepsBreaks returns true and leaves its arguments as they were. No condition. -/
import Derived.Test.YtpmnnoopoblpgaaGreatBase
import Derived.Test.YtpmnnoopoblpgaaGreatMtA
import Derived.ProofKit
import Derived.LaidMore
import Derived.OpenShut
import Derived.Stop.Joined
import Derived.ChangeMaps5
import Derived.Test.YtpmnnoopoblpgaaGreatMtD
import Derived.Test.YtpmnnoopoblpgaaGreatMtP
import Derived.Test.YtpmnnoopoblpgaaGreatMtW
import Derived.Test.YtpmnnoopoblpgaaGreatMtO
/- Facts of the program's types that the rows over the kernel want; the start of a row that lists variables. -/
namespace Go.Proofs.YtpmnnoopoblpgaaGreat
open Go Go.RowKit Go.ChangeShapes Go.WideShapes Go.ChangeAt Go.Deep

theorem gives3 {P : Program} {t : TypeId} {α β γ : Type} {E : Enc α} {F : Enc β} {G : Enc γ} {f0 f1 f2 : Field} (ht : P.underlying t = some (.struct #[f0, f1, f2])) (h0 : f0.offset = 0) (h1 : f1.offset = E.size) (h2 : f2.offset = E.size + F.size) (hc : P.cellsOf t = E.size + (F.size + G.size))
    (hc0 : P.cellsOf f0.type = E.size) (hc1 : P.cellsOf f1.type = F.size) (hc2 : P.cellsOf f2.type = G.size) (g0 : Gives P f0.type E) (g1 : Gives P f1.type F) (g2 : Gives P f2.type G) : Gives P t (pairE E (pairE F G)) := by
  intro H enc w base spare held n cs x h
  obtain ⟨y0, y1, y2, n', _, hl, r0, r1, r2⟩ := trod_struct3 ht h
  obtain ⟨a, ha⟩ := g0 H enc w base spare held n' _ _ r0
  obtain ⟨b, hb⟩ := g1 H enc w base spare held n' _ _ r1
  obtain ⟨c, hcc⟩ := g2 H enc w base spare held n' _ _ r2
  refine ⟨(a, b, c), _, _, ?_, ha, _, _, rfl, hb, hcc⟩
  rw [h0, h1, h2, hc0, hc1, hc2, List.drop_zero]
  have e1 : (cs.drop (E.size + F.size)).take G.size = cs.drop (E.size + F.size) := List.take_of_length_le (by simp; omega)
  rw [e1, ← List.drop_drop, List.take_append_drop, List.take_append_drop]
theorem gStp : Gives Tryz.prog 117 stpE := gives3 Tryz.underlying117 rfl rfl rfl (by kernel_rfl) (by kernel_rfl) (by kernel_rfl) (by kernel_rfl) gInt gInt gInt
theorem gSteps : Gives Tryz.prog 35 (slE stpE) := gives_slice Tryz.underlying35 (by kernel_rfl) gStp
end Go.Proofs.YtpmnnoopoblpgaaGreat

/- Facts of the program's types that the rows over libraries want. -/
namespace Go.Proofs.YtpmnnoopoblpgaaGreat
open Go Go.RowKit Go.ChangeShapes Go.WideShapes Go.ChangeAt Go.Deep

theorem gives5 {P : Program} {t : TypeId} {α β γ δ ε : Type} {E : Enc α} {F : Enc β} {G : Enc γ} {J : Enc δ} {K : Enc ε} {f0 f1 f2 f3 f4 : Field} (ht : P.underlying t = some (.struct #[f0, f1, f2, f3, f4])) (h0 : f0.offset = 0) (h1 : f1.offset = E.size) (h2 : f2.offset = E.size + F.size) (h3 : f3.offset = E.size + F.size + G.size) (h4 : f4.offset = E.size + F.size + G.size + J.size)
    (hc : P.cellsOf t = E.size + (F.size + (G.size + (J.size + K.size)))) (hc0 : P.cellsOf f0.type = E.size) (hc1 : P.cellsOf f1.type = F.size) (hc2 : P.cellsOf f2.type = G.size) (hc3 : P.cellsOf f3.type = J.size) (hc4 : P.cellsOf f4.type = K.size)
    (g0 : Gives P f0.type E) (g1 : Gives P f1.type F) (g2 : Gives P f2.type G) (g3 : Gives P f3.type J) (g4 : Gives P f4.type K) : Gives P t (pairE E (pairE F (pairE G (pairE J K)))) := by
  intro H enc w base spare held n cs x h
  obtain ⟨xs, n', _, rfl, hl, hlen, hf⟩ := DataW.trod_struct ht h
  match xs, hlen with
  | [y0, y1, y2, y3, y4], _ =>
    have r0 := hf 0 f0 rfl
    have r1 := hf 1 f1 rfl
    have r2 := hf 2 f2 rfl
    have r3 := hf 3 f3 rfl
    have r4 := hf 4 f4 rfl
    simp only [List.getElem?_cons_zero, List.getElem?_cons_succ] at r0 r1 r2 r3 r4
    obtain ⟨a, ha⟩ := g0 H enc w base spare held n' _ _ r0
    obtain ⟨b, hb⟩ := g1 H enc w base spare held n' _ _ r1
    obtain ⟨c, hcc⟩ := g2 H enc w base spare held n' _ _ r2
    obtain ⟨d, hd⟩ := g3 H enc w base spare held n' _ _ r3
    obtain ⟨e, he⟩ := g4 H enc w base spare held n' _ _ r4
    refine ⟨(a, b, c, d, e), _, _, ?_, ha, _, _, rfl, hb, _, _, rfl, hcc, _, _, rfl, hd, he⟩
    rw [h0, h1, h2, h3, h4, hc0, hc1, hc2, hc3, hc4, List.drop_zero]
    have e1 : (cs.drop (E.size + F.size + G.size + J.size)).take K.size = cs.drop (E.size + F.size + G.size + J.size) := List.take_of_length_le (by simp; omega)
    have e2 : cs.drop (E.size + F.size + G.size + J.size) = (cs.drop (E.size + F.size + G.size)).drop J.size := by rw [List.drop_drop]
    have e3 : cs.drop (E.size + F.size + G.size) = (cs.drop (E.size + F.size)).drop G.size := by rw [List.drop_drop]
    have e4 : cs.drop (E.size + F.size) = (cs.drop E.size).drop F.size := by rw [List.drop_drop]
    rw [e1, e2, List.take_append_drop, e3, List.take_append_drop, e4, List.take_append_drop, List.take_append_drop]
theorem gStrs : Gives Tryz.prog 29 (slE strE) := gives_slice Tryz.underlying29 (by kernel_rfl) gStr
theorem gEnt : Gives Tryz.prog 37 entE := gives5 Tryz.underlying37 rfl rfl rfl rfl rfl (by kernel_rfl) (by kernel_rfl) (by kernel_rfl) (by kernel_rfl) (by kernel_rfl) (by kernel_rfl) gStr gStr gTerm gStrs gSteps
theorem gLib : Gives Tryz.prog 24 (slE entE) := gives_slice Tryz.underlying24 (by kernel_rfl) gEnt
end Go.Proofs.YtpmnnoopoblpgaaGreat

/- The law DepsBreaks, walked. -/
namespace Go.Proofs.YtpmnnoopoblpgaaGreat
open Go Go.RowKit Go.Maps

theorem brk_more {s : Sg} {l : List Ent} {i : Nat} {t : List Int} (hok : okLib s l = true) (hi : i < l.length) (hcn : isCanonT s t = true) (x : ByteArray) :
    chB l (fun k => holdX s l k && !holdX s (setSays l i t) k) x = true ↔ (chB (setSays l i t) (fun k => !holdX s (setSays l i t) k) x = true ∧ ¬ chB l (fun k => !holdX s l k) x = true) := by
  have hd := (okLib_parts hok).2.2.2
  have hd2 := (okLib_parts (setSays_ok hok hi hcn)).2.2.2
  rw [chB_at hd, chB_at hd2, chB_at hd, atN_nms setSays_nms x]
  cases atN l x with
  | none => simp
  | some k => simp only [Bool.and_eq_true, Bool.not_eq_true', Bool.not_eq_false]; exact And.comm
def moreL (was is : List ByteArray) (k : Nat) : List ByteArray := (is.take k).filter (fun x => !memB was x)
theorem moreL_succ {was is : List ByteArray} {k : Nat} (hk : k < is.length) : moreL was is (k + 1) = if memB was is[k] = true then moreL was is k else moreL was is k ++ [is[k]] := by
  unfold moreL
  rw [List.take_succ_eq_append_getElem hk, List.filter_append]
  by_cases h : memB was is[k] = true
  · rw [if_pos h, List.filter_cons_of_neg (by rw [h]; simp)]; simp
  · have h' : memB was is[k] = false := by cases e : memB was is[k] with | true => exact (h e).elim | false => rfl
    rw [if_neg h, List.filter_cons_of_pos (by rw [h']; rfl)]; simp
theorem moreL_len (was is : List ByteArray) (k : Nat) : (moreL was is k).length ≤ k := by
  unfold moreL
  refine Nat.le_trans (List.length_filter_le _ _) ?_
  rw [List.length_take]; omega
def mrRel (was is : List ByteArray) (w : World) (i v : Value) (wr : World) : Prop := ∃ k : Nat, i = .int .i64 k ∧ k ≤ is.length ∧ OwnS wr w.heap.size v (moreL was is k) ∧ Below w.heap.size w wr
theorem asc_len {l : List Ent} {L : List ByteArray} {pd : Nat → Bool} (hA : AscN L) (h : ∀ x, x ∈ L ↔ chB l pd x = true) : L.length ≤ l.length := by
  have := nodupLe (m := l.map eNm) hA.nodup (fun x hx => by
    obtain ⟨k, hk, -, e⟩ := chB_iff.1 ((h x).1 hx)
    exact List.mem_map.2 ⟨l[k], List.getElem_mem hk, e⟩)
  rwa [List.length_map] at this
set_option maxRecDepth 100000 in
set_option maxHeartbeats 8000000 in
theorem DepsBreaks_walk {S1 S2 S3 : Nat → Prop} (sa : Option Addr) (sc : Nat) (s : Sg) (la : Option Addr) (lc : Nat) (l : List Ent) (n : ByteArray) (ta : Option Addr) (tc : Nat) (t : List Int) (w : World) (h1 : Sign S1 w sa sc s) (h2 : LibL S2 w la lc l) (hn : n.size ≤ big) (h3 : Ints S3 w ta tc t) :
    Calls Tryz.prog 6 #[.slice sa s.length sc, .slice la l.length lc, .string n, .slice ta t.length tc] w fun e w' => e = .returned (.bool true) ∧ Below w.heap.size w w' := by
  have m1 := h1.le
  have m2 := h2.le
  have m3 := h3.le
  have va := Lib.hid (awake6_any w)
  have vh := Lib.hid (fun W (hb : Below w.heap.size w W) => heavy_any sa la sc lc s l W (h1.below hb) (h2.below hb))
  have h1H := Lib.hid h1
  have h2H := Lib.hid h2
  have h3H := Lib.hid h3.lt
  have hnH := Lib.hid hn
  clear h1 h2 h3
  unfold big at hn
  go_enter Tryz.func6, Tryz.ntmps6
  go_wp2_with fail
  refine va.out.mono ?_
  rintro e w1 ⟨rfl, hb1⟩
  have vh1 := Lib.hid (vh.out w1 hb1)
  have hb1H := Lib.hid hb1
  clear hb1
  go_wp2_with fail
  refine vh1.out.mono ?_
  rintro e w2 ⟨r, rfl, hlen, hb2⟩
  have hb2H := Lib.hid (bcall hb1H.out hb2)
  clear hb2
  cases r with
  | true =>
    clear hlen
    go_wp2_with fail
    go_ret
    exact ⟨rfl, hb2H.out⟩
  | false =>
  have hl100 := Lib.hid (hlen rfl)
  clear hlen
  by_cases x1 : 100 < n.size
  · have y1 : ((100 : Int) < (n.size : Int)) = True := eq_true (by omega)
    go_wp2_with fail
    go_ret
    exact ⟨rfl, hb2H.out⟩
  have y1 : ((100 : Int) < (n.size : Int)) = False := eq_false (by omega)
  by_cases x2 : 100 < t.length
  · have y2 : ((100 : Int) < (t.length : Int)) = True := eq_true (by omega)
    go_wp2_with fail
    go_ret
    exact ⟨rfl, hb2H.out⟩
  have y2 : ((100 : Int) < (t.length : Int)) = False := eq_false (by omega)
  have hl1000 : l.length ≤ 1000 := by have := hl100.out; omega
  have vb := Breaks_any sa la ta sc lc tc s l n t hnH.out w2 (h1H.out.below hb2H.out) (h2H.out.below hb2H.out) (h3H.out.below hb2H.out) hl1000
  have vr := fun W (hb : Below w2.heap.size w2 W) => rBreaks_any sa la ta sc lc tc s l n t W ((h1H.out.below hb2H.out).below hb) ((h2H.out.below hb2H.out).below hb) ((h3H.out.below hb2H.out).below hb)
  have vl := fun W (hb : Below w2.heap.size w2 W) => Loses_any sa la sc lc s l n hnH.out W ((h1H.out.below hb2H.out).below hb) ((h2H.out.below hb2H.out).below hb) hl1000
  have vm := fun W (hb : Below w2.heap.size w2 W) => rLoses_any sa la sc lc s l n W ((h1H.out.below hb2H.out).below hb) ((h2H.out.below hb2H.out).below hb)
  obtain ⟨⟨f1, f2⟩, hfe⟩ : ∃ r, breaksE s l n t = r := ⟨_, rfl⟩
  obtain ⟨⟨g1, g2⟩, hge⟩ : ∃ r, losesE s l n = r := ⟨_, rfl⟩
  rw [hfe] at vb
  simp only [hfe] at vr
  simp only [hge] at vl vm
  have vbH := Lib.hid vb
  have vrH := Lib.hid vr
  have vlH := Lib.hid vl
  have vmH := Lib.hid vm
  have hfeH := Lib.hid hfe
  clear vb vr vl vm hfe hge x1 x2 hl1000
  go_wp2_with fail
  refine vbH.out.mono ?_
  rintro e w3 ⟨v3, L, rfl, hO, hA, hmem, hb⟩
  obtain ⟨a3, c3, rfl, hS3⟩ := OwnS.strs hO
  have vr1 := Lib.hid (vrH.out w3 hb)
  have mL := hS3.le
  have hb3H := Lib.hid hb
  have hS3H := Lib.hid hS3
  have hAH := Lib.hid hA
  have hmH := Lib.hid hmem
  clear hb hO hA hmem hS3
  go_wp2_with fail
  refine vr1.out.mono ?_
  rintro e w4 h4
  obtain ⟨a4, c4, rfl, hS4, hb⟩ := h4.is hAH.out (fun x => (hmH.out x).symm)
  have hb4 := bcall hb3H.out hb
  have hS34 := hS3H.out.below hb
  have v5 := SameTexts_any a3 a4 c3 c4 L L w4 hS34 hS4
  have v5H := Lib.hid v5
  have hb4H := Lib.hid hb4
  have hS34H := Lib.hid hS34
  clear hb hb4 h4 hS4 hS34 v5
  go_wp2_with fail
  refine v5H.out.mono ?_
  rintro e w5 ⟨rfl, hd⟩
  have hb5 := bcall hb4H.out (hd.below _)
  have hS35H := Lib.hid (hS34H.out.below (hd.below _))
  have vl1 := Lib.hid (vlH.out w5 hb5)
  have hLL : decide (L = L) = true := by simp
  have hb5H := Lib.hid hb5
  clear hd hb5
  go_wp2_with fail
  refine vl1.out.mono ?_
  rintro e w6 ⟨v6, M, rfl, hO, hA6, hmem6, hb⟩
  obtain ⟨a6, c6, rfl, hS6⟩ := OwnS.strs hO
  have hb6 := bcall hb5H.out hb
  have vm1 := Lib.hid (vmH.out w6 hb6)
  have mM := hS6.le
  have hb6H := Lib.hid hb6
  have hS6H := Lib.hid hS6
  have hS36H := Lib.hid (hS35H.out.below hb)
  have hA6H := Lib.hid hA6
  have hm6H := Lib.hid hmem6
  clear hb hb6 hO hA6 hmem6 hS6
  go_wp2_with fail
  refine vm1.out.mono ?_
  rintro e w7 h7
  obtain ⟨a7, c7, rfl, hS7, hb⟩ := h7.is hA6H.out (fun x => (hm6H.out x).symm)
  have hb7 := bcall hb6H.out hb
  have hS67 := hS6H.out.below hb
  have v8 := SameTexts_any a6 a7 c6 c7 M M w7 hS67 hS7
  have v8H := Lib.hid v8
  have hb7H := Lib.hid hb7
  have hS37H := Lib.hid (hS36H.out.below hb)
  have hMM : decide (M = M) = true := by simp
  clear hb hb7 h7 hS7 hS67 v8
  go_wp2_with fail
  refine v8H.out.mono ?_
  rintro e w8 ⟨rfl, hd⟩
  have hb8 := bcall hb7H.out (hd.below _)
  have hS38H := Lib.hid (hS37H.out.below (hd.below _))
  have hBw := bcall hb2H.out hb8
  clear hd hb8
  by_cases hf2 : f2 = 0
  · subst hf2
    have hoc : (okLib s l && isCanonT s t) = true := by
      cases e : (okLib s l && isCanonT s t) with
      | true => rfl
      | false => have := hfeH.out; unfold breaksE at this; rw [e] at this; injection this with _ e2; cases e2
    obtain ⟨i, hat⟩ : ∃ i, atN l n = some i := by
      cases e : atN l n with
      | some i => exact ⟨i, rfl⟩
      | none => have := hfeH.out; unfold breaksE at this; rw [if_pos hoc, e] at this; injection this with _ e2; cases e2
    have hf1 : f1 = chB l (fun k => holdX s l k && !holdX s (setSays l i t) k) := by
      have := hfeH.out
      unfold breaksE at this
      rw [if_pos hoc, hat] at this
      injection this with e1 _
      exact e1.symm
    rw [Bool.and_eq_true] at hoc
    obtain ⟨hi, -⟩ := atN_some hat
    have hne : l ≠ [] := fun e => by subst e; simp at hi
    obtain ⟨v', w9, hrun, ho, hb9⟩ := ents_copied (h2H.out.below hBw) (by have := hl100.out; omega)
    obtain ⟨g, cap, rfl, hg1, hg2⟩ := OwnL.form ho hne
    have hB9 := bcall hBw hb9
    have vi := rIndex_any la lc l n w9 (h2H.out.below hB9)
    rw [ixN_some' hat] at vi
    obtain ⟨vv, ec1, ec2⟩ := entSays_cell ho i hi
    have hszw := hBw.size
    obtain ⟨ho7, hg7⟩ := OwnE.setSays ho i hi (a := ta) (c := tc) (t := t) (((h3H.out.below hBw).below hb9).weak (fun b hb => ⟨Nat.lt_of_lt_of_le hb.2 hszw, fun e => by have := hb.2; omega⟩))
    obtain ⟨w10, hw10⟩ : ∃ w10, w9.setCell ⟨g, i * 5 + 2, none⟩ (.slice ta t.length tc) = w10 := ⟨_, rfl⟩
    rw [hw10] at ho7 hg7
    have hB10 : Below w.heap.size w w10 := hB9.grown hg7 hB9.size (fun k e => by injection e with e; omega)
    have hS310 := (hS38H.out.lt.below hb9).same (w' := w10) (fun b hb hlt => hg7.block b hlt (fun e => by injection e with e; have := hb.2; omega))
    obtain ⟨al, cl, e1, hlib⟩ := OwnL.sl ho7
    rw [setSays_len] at e1
    injection e1 with e1 _ e2
    subst e1 e2
    have hok7 := setSays_ok hoc.1 hi hoc.2
    have vfa := Failing_any sa la sc lc s l w10 (h1H.out.below hB10) (h2H.out.below hB10) (by have := hl100.out; omega)
    have vfb := fun W (hb : Below w10.heap.size w10 W) => Failing_any sa (some ⟨g, 0, none⟩) sc cap s (setSays l i t) W ((h1H.out.below hB10).below hb) (hlib.below hb) (by rw [setSays_len]; have := hl100.out; omega)
    have efa : failE s l = (chB l (fun k => !holdX s l k), 0) := by unfold failE; rw [if_pos hoc.1]
    have efb : failE s (setSays l i t) = (chB (setSays l i t) (fun k => !holdX s (setSays l i t) k), 0) := by unfold failE; rw [if_pos hok7]
    rw [efa] at vfa
    simp only [efb, setSays_len] at vfb
    have hbm := Lib.hid (fun x => brk_more (t := t) hoc.1 hi hoc.2 x)
    rw [hf1] at hmH
    have hii : (i : Int) < (l.length : Int) := by omega
    have viH := Lib.hid vi
    have vfaH := Lib.hid vfa
    have vfbH := Lib.hid vfb
    have hB10H := Lib.hid hB10
    have hrunH := Lib.hid hrun
    have hw10H := Lib.hid hw10
    have hS310H := Lib.hid hS310
    clear vi vfa vfb hB10 hrun hw10 hS310 ho ho7 hg7 hb9 hB9 hBw hszw hlib hok7 efa efb hoc hat hf1 hne hg1 hg2
    go_wp2_with (at_builtin; refine wpList_append_run rfl _ _ _ rfl rfl rfl hrunH.out ?_)
    refine viH.out.mono ?_
    rintro e w9' ⟨rfl, rfl⟩
    go_wp2_with fail
    rw [hw10H.out]
    refine vfaH.out.mono ?_
    rintro e w11 ⟨v11, Lw, rfl, hO, -, hmemW, hb⟩
    obtain ⟨a11, c11, rfl, hS11⟩ := OwnS.strs hO
    have vfb1 := Lib.hid (vfbH.out w11 hb)
    have hb11H := Lib.hid hb
    have hS11H := Lib.hid hS11
    have hS311H := Lib.hid (hS310H.out.below hb)
    have hmW := Lib.hid hmemW
    have mW := hS11.le
    clear hb hO hmemW hS11
    go_wp2_with fail
    refine vfb1.out.mono ?_
    rintro e w12 ⟨v12, Li, rfl, hO, hA12, hmemI, hb⟩
    obtain ⟨a12, c12, rfl, hS12⟩ := OwnS.strs hO
    have mI := hS12.le
    have hLi := asc_len hA12 hmemI
    rw [setSays_len] at hLi
    have hLi60 : Li.length ≤ 100 := by have := hl100.out; omega
    have hS12H := Lib.hid hS12
    have hS11I := Lib.hid (hS11H.out.below hb)
    have hS312H := Lib.hid (hS311H.out.below hb)
    have hB12H := Lib.hid (bcall hB10H.out (bcall hb11H.out hb))
    have hfinL := Lib.hid (show L = moreL Lw Li Li.length by
      unfold moreL
      rw [List.take_length]
      refine hAH.out.uniq (List.Pairwise.filter _ hA12) (fun x => ?_)
      rw [hmH.out x, hbm.out x, List.mem_filter, hmemI x]
      constructor
      · rintro ⟨q1, q2⟩
        refine ⟨q1, ?_⟩
        cases e : memB Lw x with
        | true => exact (q2 ((hmW.out x).1 (memB_iff.1 e))).elim
        | false => rfl
      · rintro ⟨q1, q2⟩
        refine ⟨q1, fun q3 => ?_⟩
        have := memB_iff.2 ((hmW.out x).2 q3)
        rw [this] at q2; simp at q2)
    clear hb hO hA12 hmemI hS12 hLi
    go_wp2_with fail
    go_loopw [23, 22] (fun kv v wr => mrRel Lw Li w12 kv v wr) (fun kv _ _ => Li.length - (intOf kv).toNat)
    case atStart => exact ⟨0, rfl, Nat.zero_le _, OwnL.nil _ _ _ _ _, .refl _ _⟩
    case round =>
      obtain ⟨k, rfl, hk, hO, hB⟩ := hrel
      by_cases hlt : k < Li.length
      · obtain ⟨b12, o12, rfl, -, q12, hz⟩ := (hS12H.out.below hB).str k hlt
        have vhs := rHas_any a11 c11 Lw Li[k] wr (hS11I.out.below hB)
        have hkk : (k : Int) < (Li.length : Int) := by omega
        have hsu := moreL_succ (was := Lw) hlt
        have hcl := moreL_len Lw Li k
        obtain ⟨v', W', hrun, ho, hg, -⟩ := OwnL.push (P := Tryz.prog) (t := 29) (ty := 29) hO Tryz.underlying29 infoStr rfl (vs := [.string Li[k]]) (x := Li[k]) ⟨rfl, hz⟩ (by omega) (by unfold big; omega) hB.size
        cases hmb : memB Lw Li[k] with
        | true =>
          rw [hmb] at vhs hsu
          rw [if_pos rfl] at hsu
          have vhsH := Lib.hid vhs
          have hfin := Lib.hid (fun v (hv : OwnS wr w12.heap.size v (moreL Lw Li k)) => (show mrRel Lw Li w12 (.int .i64 ((k : Int) + 1)) v wr from ⟨k + 1, by simp, hlt, by rw [hsu]; exact hv, hB⟩))
          have hOH := Lib.hid hO
          clear vhs hsu hrun ho hg hO hB hmb hcl
          generalize Li[k] = u at *
          go_wp2_with fail
          refine vhsH.out.mono ?_
          rintro e w13 ⟨rfl, rfl⟩
          go_wp2_with fail
          go_roundw
          case rel => exact hfin.out _ hOH.out
          case measure => simp [intOf]; omega
        | false =>
          rw [hmb] at vhs hsu
          rw [if_neg (by simp)] at hsu
          have vhsH := Lib.hid vhs
          rw [← hsu] at ho
          have hfin := Lib.hid (show mrRel Lw Li w12 (.int .i64 ((k : Int) + 1)) v' W' from ⟨k + 1, by simp, hlt, ho, hB.grown hg hB.size (fun q e => (OwnL.lt hO q e).1)⟩)
          clear vhs hsu ho hg hO hB hmb hcl
          generalize Li[k] = u at *
          go_wp2_with fail
          refine vhsH.out.mono ?_
          rintro e w13 ⟨rfl, rfl⟩
          go_wp2_with (at_builtin; refine wpList_append_run rfl _ _ _ rfl rfl rfl hrun ?_)
          go_roundw
          case rel => exact hfin.out
          case measure => simp [intOf]; omega
      · have hkk : ((k : Int) < (Li.length : Int)) = False := eq_false (by omega)
        have hkl : k = Li.length := by omega
        rw [hkl, ← hfinL.out] at hO
        obtain ⟨av, cv, rfl, hSv⟩ := OwnS.strs hO
        have v14 := SameTexts_any a3 av c3 cv L L wr (hS312H.out.below hB) hSv
        have v14H := Lib.hid v14
        have hBH := Lib.hid (bcall hB12H.out hB)
        clear v14 hSv hO hB hlt hk hkl
        go_wp2_with fail
        refine v14H.out.mono ?_
        rintro e w15 ⟨rfl, hd⟩
        have hfin := Lib.hid (bcall hBH.out (hd.below _))
        clear hd
        go_wp2_with fail
        go_ret
        exact ⟨ret_bool (by simp), hfin.out⟩
  · have hf2b : (f2 != 0) = true := by simp [bne_iff_ne]; exact hf2
    have hBwH := Lib.hid hBw
    clear hBw hf2
    go_wp2_with fail
    go_ret
    exact ⟨rfl, hBwH.out⟩
end Go.Proofs.YtpmnnoopoblpgaaGreat

/- The statement DepsBreaksSaid: for every input DepsBreaks returns true and leaves its arguments as they were. No condition. -/
namespace Go.Proofs.YtpmnnoopoblpgaaGreat
open Go Go.RowKit Go.ChangeShapes Go.WideShapes Go.ChangeAt

set_option maxRecDepth 100000 in
theorem depsBreaks_lifted (os : Os) (started : os.Started) (H : Type) (enc : TypeId × Value → H) :
    ReturnsInHanded {} Tryz.checked os 6 .any (Rows.depsBreaksSpec.pre6 enc Tryz.prog Tryz.f6 Rows.depsBreaksRow.domain false) (Rows.depsBreaksSpec.post enc Tryz.prog Tryz.f6 false true false false) := by
  refine returnsInHanded_of_change (C := Tryz.checked) Tryz.own started (by kernel_rfl) Tryz.func6
    (ChangeSpec.witness6 (enc := enc) (C := Tryz.checked) false ⟨#[], #[.slice none 0 0, .slice none 0 0, .string ByteArray.empty, .slice none 0 0], []⟩ 8 (by kernel_rfl) (by kernel_rfl) (by kernel_rfl) (by kernel_rfl)) ?_
  intro W base args ds gs before hval0 hW hcnd _
  have hval : ∀ (j : Nat) t v, Tryz.f6.params[j]? = some t → args[j]? = some v → Value.okWide Tryz.prog W .any base t v := hval0
  have hW' := hW
  obtain ⟨p, q, hA0, hV, rfl, hfz, hnd⟩ := hW
  have hA : DataW.TrodAll enc Tryz.prog W 0 (fun _ => true) true Tryz.f6.params.toList args.toList ds p := hA0
  rw [Tryz.params6] at hA hval
  obtain ⟨v0, v1, v2, v3, d0, d1, d2, d3, p0, p1, p2, p3, rfl, rfl, rfl, h0, h1, h2, h3⟩ := trodAll_four hA
  obtain ⟨rfl, rfl⟩ := trodVars_none hV
  clear hA0 hval0
  simp only [List.append_nil] at hW'
  have hlt : ∀ x ∈ p0 ++ (p1 ++ (p2 ++ p3)), x.block < W.heap.size := fun x hx => hW'.lt x (by simpa using hx)
  have keep0 := fun (W' : World) (hn : Below W.heap.size W W') => Below.trod Tryz.laidOut (by kernel_rfl) (of_decide_eq_true (by kernel_rfl)) h0 hn (fun x hx => hlt x (by simp [hx]))
  have keep1 := fun (W' : World) (hn : Below W.heap.size W W') => Below.trod Tryz.laidOut (by kernel_rfl) (of_decide_eq_true (by kernel_rfl)) h1 hn (fun x hx => hlt x (by simp [hx]))
  have keep2 := fun (W' : World) (hn : Below W.heap.size W W') => Below.trod Tryz.laidOut (by kernel_rfl) (of_decide_eq_true (by kernel_rfl)) h2 hn (fun x hx => hlt x (by simp [hx]))
  have keep3 := fun (W' : World) (hn : Below W.heap.size W W') => Below.trod Tryz.laidOut (by kernel_rfl) (of_decide_eq_true (by kernel_rfl)) h3 hn (fun x hx => hlt x (by simp [hx]))
  obtain ⟨l0, a0, c0, rfl, r0⟩ := gSign.arg h0 (okWide_slice Tryz.underlying23 (hval 0 23 v0 rfl rfl))
  obtain ⟨l1, a1, c1, rfl, r1⟩ := gLib.arg h1 (okWide_slice Tryz.underlying24 (hval 1 24 v1 rfl rfl))
  obtain ⟨s2, rfl, rfl, rfl, ws2⟩ := ChangeMaps.open_string Tryz.underlying9 (hval 2 9 v2 rfl rfl) h2
  obtain ⟨l3, a3, c3, rfl, r3⟩ := gTerm.arg h3 (okWide_slice Tryz.underlying26 (hval 3 26 v3 rfl rfl))
  refine (DepsBreaks_walk _ _ _ _ _ _ _ _ _ _ W r0 r1 (by unfold big; unfold maxLen at ws2; omega) r3).mono fun e W' ⟨he, hB⟩ => ?_
  subst he
  exact ⟨_, rfl, _, _, _, [], _, [], hW', trodAll_mk1 (shut_bool Tryz.underlying4 true), trodAll_mk4 (keep0 _ hB) (keep1 _ hB) (keep2 _ hB) (keep3 _ hB), rfl, hB.frame _, fun h => by cases h⟩

/-- DepsBreaks: for every input it returns true, and each argument reads as it did. -/
theorem depsBreaks_holds : Rows.DepsBreaksSaid :=
  OpenClaim.holds_of_wide 6 Tryz.f6 rfl rfl rfl rfl rfl rfl rfl ⟨rfl, rfl, rfl, rfl, rfl⟩ rfl rfl rfl rfl rfl (by kernel_rfl) Tryz.func6 (by kernel_rfl)
    (of_decide_eq_true (by kernel_rfl)) (by unfold Func.isWrapper; rw [if_neg (of_decide_eq_false (by kernel_rfl))]; exact ⟨rfl, rfl⟩)
    (fun os started H enc _ => depsBreaks_lifted os started H enc)
end Go.Proofs.YtpmnnoopoblpgaaGreat
