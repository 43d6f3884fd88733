/- The proof of a statement, some of its texts joined in build order: part R. -/
import Derived.Test.YtpmnnoopoblpgaaGreatMuB
import Derived.Test.YtpmnnoopoblpgaaGreatMuI
import Derived.RegionIn
import Derived.OwnWalkIn
import Derived.Test.YtpmnnoopoblpgaaGreatMuA
/- Walks of package unify: match and Instance, walked. -/
namespace Go.Proofs.YtpmnnoopoblpgaaGreat
open Go Go.RowKit Go.Maps

theorem ret_2 {v : Value} {b b' : Bool} (h : b = b') : Ending.returned (.tuple #[v, .bool b]) = .returned (.tuple #[v, .bool b']) := by rw [h]
def matRel (s : Sg) (a b : List Int) (w : World) (iv kv : Value) (wr : World) : Prop :=
 ∃ (i k n : Nat) (B : Bd), iv = .int .i64 i ∧ kv = .int .i64 k ∧ MRel s a b k i B ∧ n ≤ k ∧ BdMap w wr w.heap.size n B ∧ Below w.heap.size w wr
set_option maxRecDepth 20000 in
set_option maxHeartbeats 8000000 in
theorem match_any {S1 S2 S3 : Nat → Prop} (a1 a2 a3 : Option Addr) (c1 c2 c3 : Nat) (s : Sg) (a b : List Int) (w : World) (h1 : Sign S1 w a1 c1 s) (h2 : Ints S2 w a2 c2 a) (h3 : Ints S3 w a3 c3 b) (hok : okSign s = true) (ha : W1 s a) (hb : W1 s b) (la : a.length ≤ 1000) (lb : b.length ≤ 1000) :
  Calls Tryz.prog 167 #[.slice a1 s.length c1, .slice a2 a.length c2, .slice a3 b.length c3] w fun e w' => ∃ v, e = .returned (.tuple #[v, .bool (instB s a b)]) ∧ Below w.heap.size w w' := by
 have m2 := h2.le
 have m3 := h3.le
 have hmm := @run_makeMap Tryz.prog
 have hst := Lib.hid (MRel.start ha hb)
 have hokH := Lib.hid hok
 have h1H := Lib.hid h1.lt
 have h2H := Lib.hid h2.lt
 have h3H := Lib.hid h3.lt
 clear ha hb hok h1 h2 h3
 go_enter Tryz.func167, Tryz.ntmps167
 go_wp2_with fail
 go_loopw [9, 19] (fun iv kv wr => matRel s a b w iv kv wr) (fun iv kv _ => a.length - (intOf kv).toNat)
 case atStart => exact ⟨0, 0, 0, _, rfl, rfl, hst.out, Nat.le_refl _, BdMap.made _ _, below1 _ _⟩
 case round =>
  obtain ⟨i, k, n, B, rfl, rfl, hM, hn, hD, hB⟩ := hrel
  by_cases hk : k < a.length
  ·obtain ⟨hi, r, hr, hcw⟩ := hM.part hk
   obtain ⟨ba, oa, rfl, -, q1, r1⟩ := (h2H.out.below hB).int k hk
   obtain ⟨bb, ob, rfl, hbb, q2, -⟩ := (h3H.out.below hB).int i hi
   by_cases hneg : a[k] < 0
   ·have hBm := fun v => hM.var_no (u := v) hk hneg hr
    have hBv := hM.var hk hneg hr
    obtain ⟨e1, e2, -, -, e5, e6, e7⟩ := part_ends hi hr
    obtain ⟨u, hu⟩ : ∃ u, partW s (b.drop i) = u := ⟨_, rfl⟩
    obtain ⟨x, hx⟩ : ∃ x, a[k] = x := ⟨_, rfl⟩
    obtain ⟨to, hto⟩ : ∃ to, b.length - r.length = to := ⟨_, rfl⟩
    have caft := after_any a1 (some ⟨bb, ob, none⟩) c1 c3 s b i r wr (h1H.out.below hB) (h3H.out.below hB) hokH.out hr
    have hpart : Ints (fun x => x < w.heap.size) w (some ⟨bb, ob + i, none⟩) (to - i) u := by
     rw [← hu, e1, hto]
     exact (Ints.part h3H.out i to (to - i) (by omega) (by omega) (Nat.le_refl _) (by have := h3H.out.cap; omega)).weak (fun x hx => hx.2)
    rw [hto] at caft e2 e6 e7 hBv
    rw [hu] at hBm hBv e5 e6
    rw [hx] at q1 r1 hneg hBm hBv
    have hcapt : to ≤ c3 := by have := h3H.out.cap; omega
    have caftH := Lib.hid caft
    have hMH := Lib.hid hM
    have hBmH := Lib.hid hBm
    have hBvH := Lib.hid hBv
    have hpartH := Lib.hid hpart
    have hBH := Lib.hid hB
    have hDH := Lib.hid hD
    have e6H := Lib.hid e6
    have r1H := Lib.hid r1
    have htob : to ≤ b.length := by omega
    have hmb := hD.lt
    clear caft hM hBm hBv hpart hr hx hu e1 e6 e5 hcw hto r1
    cases hBx : B x with
    | none =>
     have hl := hDH.out.look_none x r1H.out hBx
     have hbvH := Lib.hid (hBvH.out (.inl hBx))
     clear hBvH hBmH hB hD hBx
     obtain ⟨w', n', hst2, hn', hD', hg, -⟩ := hDH.out.store (by unfold maxLen; omega) x r1H.out hpartH.out
     rw [e6H.out] at hst2
     have hst3 := hst2.out
     go_wp2_with (go_at_call 202; refine caftH.out.mono ?_; rintro e w9 ⟨rfl, rfl⟩)
     go_roundw
     case rel => exact ⟨to, k + 1, n', _, rfl, by go_num, hbvH.out, by have := hn'.out; omega, hD'.out, hBH.out.grown hg.out hBH.out.size (fun j e => by injection e with e; omega)⟩
     case measure => simp [intOf]; omega
    | some v =>
     obtain ⟨av, cv, hl, hIv⟩ := hDH.out.look_some x r1H.out hBx
     have ce := Equal_any av (some ⟨bb, ob + i, none⟩) cv (to - i) v u wr (hIv.below hB) (hpartH.out.below hB)
     rw [e6H.out] at ce
     by_cases hvu : v = u
     ·rw [decide_eq_true hvu] at ce
      have hbvH := Lib.hid (hBvH.out (.inr (by rw [hBx, hvu])))
      have hsomeH : RowKit.Hid ((B x).isSome = true) := Lib.hid (by rw [hBx]; rfl)
      have ceH := Lib.hid ce
      clear hBvH hBmH hB hD hBx hvu ce hIv
      go_wp2_with (first | (go_at_call 202; refine caftH.out.mono ?_; rintro e w9 ⟨rfl, rfl⟩) | (go_at_call 120; refine ceH.out.mono ?_; rintro e w9 ⟨rfl, hd9⟩; obtain ⟨w', n', hst2, hn', hD', hg, -⟩ := (hDH.out.below (hd9.below wr.heap.size) hmb).store (by unfold maxLen; omega) x r1H.out hpartH.out; rw [e6H.out] at hst2; have hst3 := hst2.out))
      go_roundw
      case rel =>
       have hB9 := bcall hBH.out (hd9.below _)
       exact ⟨to, k + 1, n', _, rfl, by go_num, hbvH.out, by have := hn'.out; omega, hD'.out, hB9.grown hg.out hB9.size (fun j e => by injection e with e; omega)⟩
      case measure => simp [intOf]; omega
     ·rw [decide_eq_false hvu] at ce
      have hfH := Lib.hid (hBmH.out v hBx hvu)
      have ceH := Lib.hid ce
      clear hBvH hBmH hB hD hBx hvu ce hIv
      go_wp2_with (first | (go_at_call 202; refine caftH.out.mono ?_; rintro e w9 ⟨rfl, rfl⟩) | (go_at_call 120; refine ceH.out.mono ?_; rintro e w9 ⟨rfl, hd9⟩))
      go_ret2
      exact ⟨_, ret_2 hfH.out.symm, bcall hBH.out (hd9.below _)⟩
   ·by_cases he : b[i] = a[k]
    ·have hsH := Lib.hid (hM.sym hk hi hneg he)
     rw [he] at q2
     obtain ⟨x, hx⟩ : ∃ x, a[k] = x := ⟨_, rfl⟩
     rw [hx] at q1 q2 hneg
     have hxx : (x != x) = false := by simp
     have hBH := Lib.hid hB
     have hDH := Lib.hid hD
     clear hM hr hcw he hx hB hD
     go_wp2_with fail
     go_roundw
     case rel => exact ⟨i + 1, k + 1, n, B, by go_num, by go_num, hsH.out, by omega, hDH.out, hBH.out⟩
     case measure => simp [intOf]; omega
    ·have hfH := Lib.hid (hM.sym_no hk hi hneg he)
     obtain ⟨x, hx⟩ : ∃ x, a[k] = x := ⟨_, rfl⟩
     obtain ⟨y, hy⟩ : ∃ y, b[i] = y := ⟨_, rfl⟩
     rw [hx] at q1 hneg he
     rw [hy] at q2 he
     have hxx : (y != x) = true := by simpa using he
     have hBH := Lib.hid hB
     clear hM hr hcw he hx hy hB hD
     go_wp2_with fail
     go_ret2
     first | exact ⟨_, ret_2 hfH.out.symm, hBH.out⟩ | exact ⟨⟨_, ret_2 hfH.out.symm⟩, hBH.out⟩
  ·obtain rfl : k = a.length := by have := hM.ka; omega
   have hfH := Lib.hid hM.done
   clear hM
   go_wp2_with fail
   go_ret2
   exact ⟨_, ret_2 hfH.out.symm, hB⟩

set_option maxHeartbeats 1000000 in
theorem Instance_any {S1 S2 S3 : Nat → Prop} (a1 a2 a3 : Option Addr) (c1 c2 c3 : Nat) (s : Sg) (a b : List Int) (w : World) (h1 : Sign S1 w a1 c1 s) (h2 : Ints S2 w a2 c2 a) (h3 : Ints S3 w a3 c3 b) :
  Calls Tryz.prog 123 #[.slice a1 s.length c1, .slice a2 a.length c2, .slice a3 b.length c3] w fun e w' => e = .returned (.bool (okT s a && okT s b && instB s a b)) ∧ Below w.heap.size w w' := by
 have m2 := h2.le
 have m3 := h3.le
 have v1 := Valid_any a1 a2 c1 c2 s a w h1 h2
 have v2 := fun W (hb : Below w.heap.size w W) => Valid_any a1 a3 c1 c3 s b W (h1.below hb) (h3.below hb)
 have v3 : okT s a = true → okT s b = true → ∀ W, Below w.heap.size w W → _ := fun e1 e2 W hb => match_any a1 a2 a3 c1 c2 c3 s a b W (h1.below hb) (h2.below hb) (h3.below hb) (okT_parts e1).1 (okT_w1 e1) (okT_w1 e2) (by have := (okT_parts e1).2.2.1; omega) (by have := (okT_parts e2).2.2.1; omega)
 generalize okT s a = x at *
 generalize okT s b = y at *
 generalize instB s a b = z at *
 have v1H := Lib.hid v1
 have v2H := Lib.hid v2
 have v3H := Lib.hid v3
 clear v1 v2 v3 h1 h2 h3
 cases x with
 | false =>
  go_enter Tryz.func123, Tryz.ntmps123
  go_wp2_with (go_at_call 119; refine v1H.out.mono ?_; rintro e w1 ⟨rfl, hb1⟩)
  go_ret
  exact ⟨rfl, hb1⟩
 | true =>
  cases y with
  | false =>
   go_enter Tryz.func123, Tryz.ntmps123
   go_wp2_with fail
   refine v1H.out.mono ?_
   rintro e w1 ⟨rfl, hb1⟩
   go_wp2_with fail
   refine (v2H.out _ hb1).mono ?_
   rintro e w2 ⟨rfl, hb2⟩
   go_wp2_with fail
   go_ret
   exact ⟨rfl, bcall hb1 hb2⟩
  | true =>
   go_enter Tryz.func123, Tryz.ntmps123
   go_wp2_with fail
   refine v1H.out.mono ?_
   rintro e w1 ⟨rfl, hb1⟩
   go_wp2_with fail
   refine (v2H.out _ hb1).mono ?_
   rintro e w2 ⟨rfl, hb2⟩
   have hbb := bcall hb1 hb2
   go_wp2_with fail
   refine (v3H.out trivial trivial _ hbb).mono ?_
   rintro e w3 ⟨v, rfl, hb3⟩
   go_wp2_with fail
   go_ret
   exact ⟨by simp, bcall hbb hb3⟩
end Go.Proofs.YtpmnnoopoblpgaaGreat

/- Walks of package kernel: run. -/
namespace Go.Proofs.YtpmnnoopoblpgaaGreat
open Go Go.RowKit Go.Maps Go.Shelf

attribute [local go_sem] Oper.semAt_some

theorem run_of_told {s : Sg} {g : List (List Int)} : ∀ (p : List Stp) (l : List (List Int)), (∀ y ∈ toldL s g p l, y.2 = 0) → runL s g p l = (l ++ (toldL s g p l).map Prod.fst, 0)
 | [], l, _ => by simp [runL, toldL]
 | x :: p, l, h => by
  rw [toldL] at h ⊢
  have hx := h (stepE s g l x) (by simp)
  rw [if_pos hx] at h ⊢
  rw [runL, if_pos hx, run_of_told p _ (fun y hy => h y (by simp [hy]))]
  simp
theorem run_of_stop {s : Sg} {g : List (List Int)} : ∀ (p : List Stp) (l : List (List Int)) (pre : List (List Int × Int)) (x : List Int × Int), pre ++ [x] <+: toldL s g p l → (∀ y ∈ pre, y.2 = 0) → x.2 ≠ 0 → runL s g p l = (l ++ pre.map Prod.fst, x.2)
 | [], l, pre, x, h, _, _ => by simp [toldL] at h
 | z :: p, l, [], x, h, _, hx => by
  rw [toldL, List.nil_append] at h
  have e := (List.cons_prefix_cons.1 h).1
  rw [runL, ← e, if_neg hx]
  simp
 | z :: p, l, y :: pre, x, h, hp, hx => by
  rw [toldL, List.cons_append] at h
  obtain ⟨e, h2⟩ := List.cons_prefix_cons.1 h
  have hy := hp y (by simp)
  rw [← e, if_pos hy] at h2
  rw [runL, ← e, if_pos hy, run_of_stop p _ pre x h2 (fun w hw => hp w (by simp [hw])) hx]
  simp

set_option maxHeartbeats 1000000 in
theorem steps_in (n : Nat) (a1 a2 a3 : Option Addr) (l1 l2 l3 c1 c2 c3 : Nat) (w : World) :
  CallsIn Fence.wide n Tryz.prog 171 #[.slice a1 l1 c1, .slice a2 l2 c2, .slice a3 l3 c3] w fun e w' => e = .returned (.func (.func 206) #[] #[.pointer (some ⟨w.heap.size, 0, none⟩), .pointer (some ⟨w.heap.size + 1, 0, none⟩), .pointer (some ⟨w.heap.size + 1 + 1, 0, none⟩)]) ∧
   w' = ((w.alloc (.cells #[.slice a1 l1 c1] 23)).alloc (.cells #[.slice a2 l2 c2] 77)).alloc (.cells #[.slice a3 l3 c3] 35) := by
 have hro : Fence.wide.round = none := rfl
 refine callsIn_of_wp Tryz.func171 rfl trivial ?_ hro
 simp only [Tryz.ntmps171, List.size_toArray, List.length_cons, List.length_nil, Nat.reduceAdd, Nat.reduceSub, Array.replicate_succ, Array.replicate_zero, List.push_toArray, List.append_toArray, List.nil_append, List.cons_append]
 gi_wp2
 go_ret
 exact ⟨rfl, rfl⟩
theorem steps_seq (n sb gb pb B0 : Nat) (a1 ag ap : Option Addr) (c1 cg cp : Nat) (s : Sg) (g : List (List Int)) (p : List Stp) (w : World) (hg : ∀ t ∈ g, okT s t = true) (hp : okSteps g.length 0 p = true) (hlp : p.length ≤ 60) (hrow : RowLt B0 w)
  (hcs : w.cell? ⟨sb, 0, none⟩ = some (.slice a1 s.length c1)) (hss : Safe B0 w sb) (hcg : w.cell? ⟨gb, 0, none⟩ = some (.slice ag g.length cg)) (hsg : Safe B0 w gb) (hcp : w.cell? ⟨pb, 0, none⟩ = some (.slice ap p.length cp)) (hsp : Safe B0 w pb)
  (hsig : Sign (Safe B0 w) w a1 c1 s) (hgiv : Terms (Safe B0 w) w ag cg g) (hprf : Steps (Safe B0 w) w ap cp p) :
  SeqRelG Fence.wide n Tryz.prog 206 #[.pointer (some ⟨sb, 0, none⟩), .pointer (some ⟨gb, 0, none⟩), .pointer (some ⟨pb, 0, none⟩)] Td.enc TdR (Kp B0) (Rw B0) (fun xs => xs.map Td.pt = toldL s g p []) (fun pre => pre.map Td.pt <+: toldL s g p []) p.length w := fun l J Jx W hW hJ _ hY h0 => by
 have hl := Leaves.of_below hrow.1 hW
 exact steps1_in n l sb gb pb B0 a1 ag ap c1 cg cp s g p J Jx W (fun pre A A' row h hg hr => hJ pre A A' row h hg (fun r e => by obtain ⟨g1, o, g2, g3⟩ := hr r e; exact ⟨g1, o, g2, .inr g3⟩))
  (fun m pre x A h1 h2 h3 => YieldAt.wideAny m (hY pre x A h1 h2 h3)) hg hp hlp (hl.lt hrow) (hl.cell hss hcs) (hl.safe hss) (hl.cell hsg hcg) (hl.safe hsg) (hl.cell hsp hcp) (hl.sl hsig) (hl.sl hgiv) (hl.sl hprf) h0

def runI (w : World) (R0 R1 B0 : Nat) (pre : List Td) (W : World) : Prop :=
 (∀ x ∈ pre, x.e = 0) ∧ TBox W B0 B0 (pre.map Td.t) ∧ Below w.heap.size w W ∧ Boxed W R0 77 (.slice none 0 0) ∧ Boxed W R1 30 (.int .i64 0)
def runX (w : World) (R0 R1 B0 : Nat) (pre : List Td) (W : World) : Prop :=
 ∃ pre0 x v, pre = pre0 ++ [x] ∧ (∀ y ∈ pre0, y.e = 0) ∧ x.e ≠ 0 ∧ Below w.heap.size w W ∧ Boxed W R0 77 v ∧ Boxed W R1 30 (.int .i64 x.e) ∧ Boxed W B0 77 v ∧ OwnTT W B0 v (pre0.map Td.t)
theorem keep_rows {B0 : Nat} {W W' : World} {row : Option Nat} {d : Nat} (hg : W.grownBy W' row) (hr : ∀ r, row = some r → d ≤ r ∧ ∃ o : Obj, W.heap[r]? = some o ∧ (o.isCells = false ∨ Rw B0 W r o)) :
  IntKeep W W' ∧ (∀ b, b < d → b < W.heap.size → W'.heap[b]? = W.heap[b]?) ∧ (CellsAt W B0 → W'.heap[B0]? = W.heap[B0]?) ∧ (∀ k, rowOf B0 W = some k → CellsAt W k → W'.heap[k]? = W.heap[k]?) := by
 refine ⟨.of_grown hg (fun r e hi => ?_), fun b hb hlt => hg.block b hlt (fun e => by have := (hr b e.symm).1; omega), fun hc => hg.block B0 hc.lt (fun e => ?_), fun k hk hc => hg.block k hc.lt (fun e => ?_)⟩
 ·obtain ⟨-, o, g2, g3⟩ := hr r e
  obtain ⟨cs, hi⟩ := hi
  rw [hi] at g2
  cases g2
  rcases g3 with g3 | ⟨cs', t, g4, g5, -⟩
  ·cases g3
  ·simp only [Obj.cells.injEq] at g4; exact g5 g4.2.1.symm
 ·obtain ⟨-, o, g2, g3⟩ := hr B0 e.symm
  obtain ⟨o', h1, h2⟩ := hc
  rw [g2] at h1
  cases h1
  rcases g3 with g3 | ⟨cs', t, g4, g5, g6, -⟩
  ·rw [h2] at g3; cases g3
  ·exact g6 rfl
 ·obtain ⟨-, o, g2, g3⟩ := hr k e.symm
  obtain ⟨o', h1, h2⟩ := hc
  rw [g2] at h1
  cases h1
  rcases g3 with g3 | ⟨cs', t, g4, g5, g6, g7⟩
  ·rw [h2] at g3; cases g3
  ·exact g7 hk.symm
theorem runI_own {w : World} {R0 R1 B0 d : Nat} (hB : w.heap.size ≤ d) (h0 : R0 < d) (h1 : R1 < d) : OwnRows (Rw B0) d (runI w R0 R1 B0) := by
 rintro pre W W' row ⟨i1, i2, i3, i4, i5⟩ hg hr
 obtain ⟨k1, k2, k3, k4⟩ := keep_rows hg hr
 refine ⟨i1, i2.keep (k3 ?_) (fun r e => k4 r e ?_) k1, i3.grown hg i3.size (fun j e => Nat.le_trans hB (hr j e).1), (k2 R0 h0 i4.lt).trans i4, (k2 R1 h1 i5.lt).trans i5⟩
 ·obtain ⟨cur, hc⟩ := i2.boxCells; exact ⟨_, hc, rfl⟩
 ·obtain ⟨-, -, cur, hc⟩ := i2.rowCells r e; exact ⟨_, hc, rfl⟩
theorem runX_own {w : World} {R0 R1 B0 d : Nat} (hB : w.heap.size ≤ d) (h0 : R0 < d) (h1 : R1 < d) : OwnRows (Rw B0) d (runX w R0 R1 B0) := by
 rintro pre W W' row ⟨pre0, x, v, i1, i2, i3, i4, i5, i6, i7, i8⟩ hg hr
 obtain ⟨k1, k2, k3, k4⟩ := keep_rows hg hr
 have hT : TBox W B0 B0 (pre0.map Td.t) := ⟨v, i7, i8⟩
 have hrw : ∀ k, v.ownBlock = some k → rowOf B0 W = some k := fun k hk => by rw [rowOf_boxed i7]; exact hk
 exact ⟨pre0, x, v, i1, i2, i3, i4.grown hg i4.size (fun j e => Nat.le_trans hB (hr j e).1), (k2 R0 h0 i5.lt).trans i5, (k2 R1 h1 i6.lt).trans i6, (k3 ⟨_, i7, rfl⟩).trans i7,
  OwnTT.keep i8 (fun k hk => k4 k (hrw k hk) (by obtain ⟨-, -, cur, hc⟩ := hT.rowCells k (hrw k hk); exact ⟨_, hc, rfl⟩)) k1⟩
theorem run_results {tmps : Array Value} {w : World} {b6 b7 : Nat} {v e : Value} (h6 : tmps.getD 6 undef = .pointer (some ⟨b6, 0, none⟩)) (h7 : tmps.getD 7 undef = .pointer (some ⟨b7, 0, none⟩)) (c6 : w.cell? ⟨b6, 0, none⟩ = some v) (c7 : w.cell? ⟨b7, 0, none⟩ = some e) :
  (results Tryz.f128 tmps).run Tryz.prog w = .ok (.tuple #[v, e]) w := by

 have h6' : tmps[6]?.getD undef = .pointer (some ⟨b6, 0, none⟩) := by simpa using h6
 have h7' : tmps[7]?.getD undef = .pointer (some ⟨b7, 0, none⟩) := by simpa using h7
 simp [results, h6', h7', loadVar, go_sem, c6, c7]
def retTB (r : List (List Int) × Int) (w : World) (e : Ending) (w' : World) : Prop := ∃ v, e = .returned (.tuple #[v, .int .i64 r.2]) ∧ OwnTT w' w.heap.size v r.1 ∧ Below w.heap.size w w'
theorem retTB.te {r : List (List Int) × Int} {w : World} {e : Ending} {w' : World} (h : retTB r w e w') : retTE r w e w' := by
 obtain ⟨v, h1, h2, h3⟩ := h
 exact ⟨v, h1, OwnL.weak h2 (fun _ _ _ => trivial), h3⟩
theorem run_fin {w W : World} {D : Nat} {v : Value} {L : List (List Int)} {e : Int} {tmps : Array Value} (hD : w.heap.size + 1 < D) (hK : W.heap[D]? = some (.deferred (some []))) (e0 : Boxed W w.heap.size 77 v) (e1 : Boxed W (w.heap.size + 1) 30 (.int .i64 e)) (ho : OwnTT W (w.heap.size + 1 + 1) v L) (hB : Below w.heap.size w W)
  (h6 : tmps.getD 6 undef = .pointer (some ⟨w.heap.size, 0, none⟩)) (h7 : tmps.getD 7 undef = .pointer (some ⟨w.heap.size + 1, 0, none⟩)) :
  ∃ x, (results Tryz.f128 tmps).run Tryz.prog (W.putObj D (.deferred none)) = .ok x (W.putObj D (.deferred none)) ∧ retTB (L, e) w (.returned x) (W.putObj D (.deferred none)) := by
 have hg := grownBy_putObj' W D (.deferred none)
 refine ⟨_, run_results h6 h7 (e0.kept hg (fun h => by injection h with h; omega)).cell (e1.kept hg (fun h => by injection h with h; omega)).cell, v, rfl, OwnL.baseMono (OwnTT.keep ho (fun k hk => World.putObj_heap_other (fun e => by obtain ⟨cur, hc⟩ := OwnL.rowCells ho k hk; rw [e, hK] at hc; cases hc)) (.putObj hK rfl)) (by omega), ?_⟩
 exact hB.trans (belowK_b (w := w) (Nat.le_refl _) W D _ _ (by omega) hK rfl rfl)
def Boxed2 (W : World) (tb : Nat) (x : Td) : Prop := W.heap[tb]? = some (.cells #[.slice x.ap x.t.length x.cp, .int .i64 x.e] 167 (0, 0))
set_option maxRecDepth 100000 in
set_option maxHeartbeats 1000000 in
theorem krunB_any {S1 S2 S3 : Nat → Prop} (a1 ag ap : Option Addr) (c1 cg cp : Nat) (s : Sg) (g : List (List Int)) (p : List Stp) (w : World) (h1 : Sign S1 w a1 c1 s) (h2 : Terms S2 w ag cg g) (h3 : Steps S3 w ap cp p) (hg : ∀ t ∈ g, okT s t = true) (hp : okSteps g.length 0 p = true) (hlp : p.length ≤ 60) :
  Calls Tryz.prog 128 #[.slice a1 s.length c1, .slice ag g.length cg, .slice ap p.length cp] w (retTB (runL s g p []) w) := by
 have m1 := h1.le
 have m2 := h2.le
 have m3 := h3.le
 have h1H := Lib.hid h1.lt
 have h2H := Lib.hid h2.lt
 have h3H := Lib.hid h3.lt
 have hgH := Lib.hid hg
 have hpH := Lib.hid hp
 clear h1 h2 h3 hg hp
 refine (callsIn_wide (n := 6)).1 ?_
 refine callsIn_of_wp_marks Tryz.func128 rfl trivial ?_ rfl
 simp only [Tryz.ntmps128, List.size_toArray, List.length_cons, List.length_nil, Nat.reduceAdd, Nat.reduceSub, Array.replicate_succ, Array.replicate_zero, List.push_toArray, List.append_toArray, List.nil_append, List.cons_append]
 gi_wp2_with fail
 refine ⟨trivial, ?_⟩
 gi_at_call 171
 refine (steps_in _ _ _ _ _ _ _ _ _ _ _).mono ?_
 rintro e w' ⟨rfl, rfl⟩
 gi_wp2_with fail
 obtain ⟨W0, hW0⟩ : ∃ W0, (((((w.alloc (.cells #[.slice none 0 0] 77)).alloc (.cells #[.int .i64 0] 30)).alloc (.cells #[.slice none 0 0] 77)).alloc (.cells #[.slice a1 s.length c1] 23)).alloc (.cells #[.slice ag g.length cg] 77)).alloc (.cells #[.slice ap p.length cp] 35) = W0 := ⟨_, rfl⟩
 obtain ⟨w2, hw2⟩ : ∃ w2, (w.alloc (.cells #[.slice none 0 0] 77)).alloc (.cells #[.int .i64 0] 30) = w2 := ⟨_, rfl⟩
 have hz2 : w2.heap.size = w.heap.size + 1 + 1 := by rw [← hw2]; simp
 have hb2 : Below w.heap.size w w2 := by rw [← hw2]; exact below2 _ _ _
 have hR0 : Boxed w2 w.heap.size 77 (.slice none 0 0) := by rw [← hw2]; exact (Boxed.new w 77 _).alloc _
 have hR1 : Boxed w2 (w.heap.size + 1) 30 (.int .i64 0) := by
  rw [← hw2]
  have := Boxed.new (w.alloc (.cells #[.slice none 0 0] 77)) 30 (.int .i64 0)
  rw [World.size_alloc] at this; exact this
 have hW0' : (((w2.alloc (.cells #[.slice none 0 0] 77)).alloc (.cells #[.slice a1 s.length c1] 23)).alloc (.cells #[.slice ag g.length cg] 77)).alloc (.cells #[.slice ap p.length cp] 35) = W0 := by rw [← hw2]; exact hW0
 have hb20 : Below w2.heap.size w2 W0 := by
  rw [← hW0']
  exact ((((Below.refl _ w2).alloc (by simp) _).alloc (by simp <;> omega) _).alloc (by simp <;> omega) _).alloc (by simp <;> omega) _
 have hbW : Below w.heap.size w W0 := bcall hb2 hb20
 have hbox : TBox W0 w2.heap.size w2.heap.size [] := by
  rw [← hW0']
  exact (TBox.new w2).below (below3 _ _ _ _)
 have cB : W0.cell? ⟨w2.heap.size, 0, none⟩ = some (.slice none 0 0) := by rw [← hW0']; clear hW0' hW0; go_simp
 have hcs : W0.cell? ⟨w2.heap.size + 1, 0, none⟩ = some (.slice a1 s.length c1) := by rw [← hW0']; clear hW0' hW0; go_simp
 have hcg : W0.cell? ⟨w2.heap.size + 1 + 1, 0, none⟩ = some (.slice ag g.length cg) := by rw [← hW0']; clear hW0' hW0; go_simp
 have hcp : W0.cell? ⟨w2.heap.size + 1 + 1 + 1, 0, none⟩ = some (.slice ap p.length cp) := by rw [← hW0']; clear hW0' hW0; go_simp
 have hz0 : W0.heap.size = w2.heap.size + 1 + 1 + 1 + 1 := by rw [← hW0']; simp
 have hr0 : rowOf w2.heap.size W0 = none := by unfold rowOf; rw [cB]; rfl
 have hsafe : ∀ b, b ≠ w2.heap.size → CellsAt W0 b → Safe w2.heap.size W0 b := fun b hb hc => ⟨hb, by rw [hr0]; simp, hc⟩
 have hsig : Sign (Safe w2.heap.size W0) W0 a1 c1 s := (Sign.cellsAt (h1H.out.below hbW)).weak (fun b hb => hsafe b (by have := hb.1.2; omega) hb.2)
 have hgiv : Terms (Safe w2.heap.size W0) W0 ag cg g := (Terms.cellsAt (h2H.out.below hbW)).weak (fun b hb => hsafe b (by have := hb.1.2; omega) hb.2)
 have hprf : Steps (Safe w2.heap.size W0) W0 ap cp p := (Sl.cellsAt (fun _ _ _ _ h => h) (h3H.out.below hbW)).weak (fun b hb => hsafe b (by have := hb.1.2; omega) hb.2)
 have hseq := steps_seq (6 - 1) (w2.heap.size + 1) (w2.heap.size + 1 + 1) (w2.heap.size + 1 + 1 + 1) w2.heap.size a1 ag ap c1 cg cp s g p W0 hgH.out hpH.out hlp hbox.rowLt hcs (hsafe _ (by omega) (.of_cell hcs)) hcg (hsafe _ (by omega) (.of_cell hcg)) hcp (hsafe _ (by omega) (.of_cell hcp)) hsig hgiv hprf
 have hI0 : runI w w.heap.size (w.heap.size + 1) w2.heap.size [] W0 := ⟨(fun x h => by cases h), hbox, hbW, (hb20.block _ hR0.lt).trans hR0, (hb20.block _ hR1.lt).trans hR1⟩
 rw [hz2] at hseq hI0 hz0
 have hI0H := Lib.hid hI0
 rw [hW0]
 clear hI0 hbox hsig hgiv hprf hsafe hr0 hcs hcg hcp cB hbW hb20 hR0 hR1 hb2 hW0 hW0' hw2 hz2
 refine range_relG rfl (by omega) (gf := 206) (lb := #[.pointer (some ⟨(w.heap.size + 1 + 1) + 1, 0, none⟩), .pointer (some ⟨(w.heap.size + 1 + 1) + 1 + 1, 0, none⟩), .pointer (some ⟨(w.heap.size + 1 + 1) + 1 + 1 + 1, 0, none⟩)]) rfl trivial (enters_of Tryz.func206 (by kernel_rfl) rfl)
  hseq (fun W r o h => by obtain ⟨cs, t, rfl, -⟩ := h; rfl) (fun h k => h.trans k) (fun W l o o' hl h hc _ => ⟨Leaves.putObj (by omega) h hc, IntKeep.putObj h hc⟩) (Below.refl _ _) Td.size
  (runI w w.heap.size (w.heap.size + 1) (w.heap.size + 1 + 1))
  (fun c pre W => c = .ret ∧ runX w w.heap.size (w.heap.size + 1) (w.heap.size + 1 + 1) pre W)
  (runI_own (by omega) (by omega) (by omega))
  (fun c pre W W' row hs hgr hr => ⟨hs.1, runX_own (by omega) (by omega) (by omega) pre W W' row hs.2 hgr hr⟩)
  hI0H.out
  (fun x a' W => ∃ tb, Boxed2 W tb x ∧ TdR x W ∧ a' = { tmps := #[.slice a1 s.length c1, .slice ag g.length cg, .slice ap p.length cp, undef, undef, undef, .pointer (some ⟨w.heap.size, 0, none⟩), .pointer (some ⟨w.heap.size + 1, 0, none⟩), .pointer (some ⟨(w.heap.size + 1 + 1), 0, none⟩), .pointer (some ⟨tb, 0, none⟩),
     .slice a1 s.length c1, .slice ag g.length cg, .slice ap p.length cp, .func (.func 206) #[] #[.pointer (some ⟨(w.heap.size + 1 + 1) + 1, 0, none⟩), .pointer (some ⟨(w.heap.size + 1 + 1) + 1 + 1, 0, none⟩), .pointer (some ⟨(w.heap.size + 1 + 1) + 1 + 1 + 1, 0, none⟩)], .agg #[.slice x.ap x.t.length x.cp, .int .i64 x.e], undef, undef, undef, undef, undef, undef, undef, undef, undef, undef, undef, undef], defers := [] })
  (fun x a' => ?hAx) ?assign ?body ?done ?stop
 case hAx =>
  rintro s' A A' row ⟨tb, h2, h3, h4⟩ hg hr
  have hk : IntKeep A A' := .of_grown hg (fun r e hi => by
   obtain ⟨-, o, g2, g3⟩ := hr r e
   obtain ⟨cs, hi⟩ := hi
   rw [hi] at g2; cases g2; cases g3)
  have htb : A'.heap[tb]? = A.heap[tb]? := hg.block tb (Array.getElem?_eq_some_iff.1 h2).1 (fun e => by
   obtain ⟨-, o, g2, g3⟩ := hr tb e.symm
   rw [show A.heap[tb]? = _ from h2] at g2; cases g2; cases g3)
  exact ⟨tb, htb.trans h2, ⟨h3.1.intKeep hk, h3.2⟩, h4⟩
 case assign =>
  intro l pre x W K hi hr hK
  dsimp only [Td.enc]
  gi_wp2
  refine hK _ _ ((KeepsOthers.alloc W _).from _) ⟨Leaves.of_below hi.2.1.lt (below1 W _), .of_below (below1 W _)⟩ (runI_own (d := W0.heap.size) (by omega) (by omega) (by omega) pre W _ none hi (World.grownBy_alloc W _ none) (fun r e => by cases e)) ⟨W.heap.size, World.alloc_heap_new W _, ⟨hr.1.intKeep (.of_below (below1 W _)), hr.2⟩, ?_⟩
  rfl
 case body =>
  rintro l pre x a' W - - ⟨i1, i2, i3, i4, i5⟩ ⟨tb, hb, hR, rfl⟩ hlen
  have c1 : W.cell? ⟨tb, 1, none⟩ = some (.int .i64 x.e) := by simp [World.cell?, show W.heap[tb]? = _ from hb]
  have c0 : W.cell? ⟨tb, 0, none⟩ = some (.slice x.ap x.t.length x.cp) := by simp [World.cell?, show W.heap[tb]? = _ from hb]
  obtain ⟨L, hL⟩ : ∃ L, pre.map Td.t = L := ⟨_, rfl⟩
  rw [hL] at i2
  have hLl : L.length = pre.length := by rw [← hL, List.length_map]
  have hLlH := Lib.hid hLl
  clear hLl
  by_cases he : x.e = 0
  ·have heb : (x.e != 0) = false := by simpa using he
   obtain ⟨vL, a', cap, W9, k1, k2, k3, k4, k5, k6, k7, k8, k9, k10, k11⟩ := i2.push (Nat.le_of_lt i2.lt) (.refl _ _) hR.1 (by rw [hLlH.out]; omega)
   have hnR : ∀ {r : Nat} {t : TypeId} {v : Value}, Boxed W r t v → t ≠ 26 → vL.ownBlock ≠ some r := fun hbx ht e => by
    obtain ⟨-, -, cur, hc⟩ := i2.rowCells _ (k8.out.trans e)
    rw [show W.heap[_]? = _ from hbx] at hc
    simp only [Option.some.injEq, Obj.cells.injEq] at hc
    exact ht hc.2.1
   have hrow : ∀ {r : Nat} {t : TypeId} {v : Value}, Boxed W r t v → t ≠ 26 → r ≠ (w.heap.size + 1 + 1) → Boxed (W9.setCell ⟨(w.heap.size + 1 + 1), 0, none⟩ (.slice a' (L.length + 1) cap)) r t v := fun hbx ht hne =>
    (k7.out.block _ (Nat.lt_of_lt_of_le hbx.lt k6.out.size) (fun e => hne (by injection e))).trans ((k6.out.block _ hbx.lt (fun e => hnR hbx ht e.symm)).trans hbx)
   have hfin : ∀ ac : Act, relPostG W0.heap.size (Kp (w.heap.size + 1 + 1)) (runI w w.heap.size (w.heap.size + 1) (w.heap.size + 1 + 1)) (fun c pre W => c = .ret ∧ runX w w.heap.size (w.heap.size + 1) (w.heap.size + 1 + 1) pre W) (pre ++ [x]) W .normal ac (W9.setCell ⟨(w.heap.size + 1 + 1), 0, none⟩ (.slice a' (L.length + 1) cap)) := by
    intro ac
    refine ⟨?_, ⟨⟨Nat.le_trans k6.out.size k7.out.size, fun b hb2 => ?_, ?_, fun _ => k5.out.rowLt⟩, k10.out⟩, ?_, ?_, ?_, hrow i4 (by decide) (by omega), hrow i5 (by decide) (by omega)⟩
    ·refine ((KeepsOthers.of_grownBy k6.out (fun j o e ho => ?_)).trans (KeepsOthers.setCell _ _ _)).from _
     obtain ⟨-, -, cur, hc⟩ := i2.rowCells j (k8.out.trans e)
     rw [hc] at ho; cases ho; rfl
    ·exact (k7.out.block b (Nat.lt_of_lt_of_le hb2.2.2.lt k6.out.size) (fun e => hb2.1 (by injection e))).trans (k6.out.block b hb2.2.2.lt (by rw [← k8.out]; exact hb2.2.1))
    ·rw [k8.out]; exact k11.out
    ·intro y hy
     rcases List.mem_append.1 hy with h | h
     ·exact i1 y h
     ·rw [List.mem_singleton] at h; rw [h]; exact he
    ·rw [List.map_append, hL]; exact k5.out
    ·exact (i3.grown k6.out i3.size (fun j e => by have := (i2.rowCells j (k8.out.trans e)).1; omega)).grown k7.out (Nat.le_trans i3.size k6.out.size) (fun j e => by cases e; omega)
   have hfinH := Lib.hid hfin
   have k1 := k1.out
   have k2 := k2.out
   have k3 := k3.out
   have k4 := k4.out
   clear hfin hrow hnR k5 k6 k7 k8 k9 k10 k11 i1 i2 i3 i4 i5 hb hL
   gi_wp2_with (gi_at_builtin; refine wpListIn_append_run rfl (.tmp 21) (.tmp 24) 77 rfl rfl rfl k2 ?_)
   exact hfinH.out _
  ·have heb : (x.e != 0) = true := by simpa using he
   obtain ⟨vL0, hvL, hoL⟩ := i2
   obtain ⟨aL, cL, hvE, -⟩ := OwnL.sl hoL
   subst hvE
   have cB := hvL.cell
   have q0 := i4.cell
   have q1 := i5.cell
   have f0 := i4.frozen
   have f1 := i5.frozen
   have hn0 : ¬ tb = w.heap.size := fun e => by
    rw [e] at hb
    have h := i4
    unfold Boxed at h
    rw [show W.heap[w.heap.size]? = _ from hb] at h
    simp at h
   have hn1 : ¬ tb = w.heap.size + 1 := fun e => by
    rw [e] at hb
    have h := i5
    unfold Boxed at h
    rw [show W.heap[w.heap.size + 1]? = _ from hb] at h
    simp at h
   have hT : TBox W (w.heap.size + 1 + 1) (w.heap.size + 1 + 1) L := ⟨_, hvL, hoL⟩
   have hnR : ∀ {r : Nat} {t : TypeId} {v : Value}, Boxed W r t v → t ≠ 26 → (Value.slice aL L.length cL).ownBlock ≠ some r := fun hbx ht e => by
    obtain ⟨cur, hc⟩ := OwnL.rowCells hoL _ e
    rw [show W.heap[_]? = _ from hbx] at hc
    simp only [Option.some.injEq, Obj.cells.injEq] at hc
    exact ht hc.2.1
   obtain ⟨Wd, hWd⟩ : ∃ Wd, W.drew = Wd := ⟨_, rfl⟩
   obtain ⟨W3, hW3⟩ : ∃ W3, Wd.setCell ⟨w.heap.size, 0, none⟩ (.slice aL L.length cL) = W3 := ⟨_, rfl⟩
   have hbd : Below W.heap.size W Wd := by rw [← hWd]; exact (Below.refl _ _).drew
   have hg3 : Wd.grownBy W3 (some w.heap.size) := by rw [← hW3]; exact grownBy_setCell' _ _ _
   have hg4 : W3.grownBy (W3.setCell ⟨w.heap.size + 1, 0, none⟩ (.int .i64 x.e)) (some (w.heap.size + 1)) := grownBy_setCell' _ _ _
   have d4 : Boxed Wd w.heap.size 77 (.slice none 0 0) := (hbd.block _ i4.lt).trans i4
   have d5 : Boxed Wd (w.heap.size + 1) 30 (.int .i64 0) := (hbd.block _ i5.lt).trans i5
   have dB : Boxed Wd (w.heap.size + 1 + 1) 77 (.slice aL L.length cL) := (hbd.block _ hvL.lt).trans hvL
   have dO := OwnTT.keep hoL (fun k hk => hbd.block k (OwnL.lt hoL k hk).2) (.of_below hbd)
   have e4 : Boxed W3 w.heap.size 77 (.slice aL L.length cL) := by rw [← hW3]; exact d4.set _
   have e5 : Boxed W3 (w.heap.size + 1) 30 (.int .i64 0) := d5.kept hg3 (fun e => by injection e with e; omega)
   have eB : Boxed W3 (w.heap.size + 1 + 1) 77 (.slice aL L.length cL) := dB.kept hg3 (fun e => by injection e with e; omega)
   have eO := OwnTT.keep dO (fun k hk => hg3.block k (OwnL.lt dO k hk).2 (fun e => hnR i4 (by decide) (by rw [hk, e]))) (.of_grown hg3 (fun r e => by cases e; exact not_intB d4 (by decide)))
   have hfin : ∀ ac : Act, relPostG W0.heap.size (Kp (w.heap.size + 1 + 1)) (runI w w.heap.size (w.heap.size + 1) (w.heap.size + 1 + 1)) (fun c pre W => c = .ret ∧ runX w w.heap.size (w.heap.size + 1) (w.heap.size + 1 + 1) pre W) (pre ++ [x]) W .ret ac (W3.setCell ⟨w.heap.size + 1, 0, none⟩ (.int .i64 x.e)) := by
    intro ac
    refine ⟨?_, rfl, pre, x, _, rfl, i1, he, ?_, e4.kept hg4 (fun e => by injection e with e; omega), e5.set _, eB.kept hg4 (fun e => by injection e with e; omega), ?_⟩
    ·refine ((KeepsOthers.of_grownBy (row := none) (Below.grow hbd) (fun j o e => by cases e)).trans (KeepsOthers.trans ?_ (KeepsOthers.setCell _ _ _))).from _
     rw [← hW3]; exact KeepsOthers.setCell _ _ _
    ·exact ((i3.trans (hbd.mono i3.size)).grown hg3 (Nat.le_trans i3.size hbd.size) (fun j e => by cases e; omega)).grown hg4 (Nat.le_trans (Nat.le_trans i3.size hbd.size) hg3.size) (fun j e => by cases e; omega)
    ·rw [hL]
     exact OwnTT.keep eO (fun k hk => hg4.block k (OwnL.lt eO k hk).2 (fun e => hnR i5 (by decide) (by rw [hk, e]))) (.of_grown hg4 (fun r e => by cases e; exact not_intB e5 (by decide)))
   have hfinH := Lib.hid hfin
   have hW3H := Lib.hid hW3
   have hWdH := Lib.hid hWd
   have cBd := dB.cell
   have q0d := d4.cell
   have f0d := d4.frozen
   have c1d : Wd.cell? ⟨tb, 1, none⟩ = some (.int .i64 x.e) := by rw [← hWd]; exact c1
   have cB3 := eB.cell
   have q13 := e5.cell
   have f13 := e5.frozen
   have c13 : W3.cell? ⟨tb, 1, none⟩ = some (.int .i64 x.e) := (World.cell?_of_block (w := Wd) (hg3.block tb (World.block_lt_of_cell? _ _ c1d) (fun e => hn0 (by injection e)))).trans c1d
   clear hfin hT hnR hbd hg3 hg4 d4 d5 dB dO e4 e5 eB eO hWd hW3 hvL hoL i1 i3 i4 i5 hL hn1
   gi_wp2
   refine wpIn_region_any (by kernel_rfl) ?_
   show wpAnyIn _ _ _ _ _ _ _ _ _ (W.drew)
   rw [hWdH.out]
   refine region_in2 0 1 rfl rfl (by kernel_rfl) (fun K hK => ?_) (fun K hK => ?_)
   ·refine NextIn.value (v := (.slice aL L.length cL)) (w' := Wd) rfl (fun c => by simp) rfl (by go_simp) ?_
    refine hK.out _ _ ?_
    clear hK
    simp only [Act.put, List.setIfInBounds_toArray, List.set_cons_zero, List.set_cons_succ]
    refine region_in2 1 3 rfl rfl (by kernel_rfl) (fun K hK => ?_) (fun K hK => ?_)
    ·refine NextIn.value (v := .pointer (some ⟨tb, 1, none⟩)) (w' := Wd) rfl (fun c => by simp) rfl (by go_simp) ?_
     refine hK.out _ _ ?_
     clear hK
     simp only [Act.put, List.setIfInBounds_toArray, List.set_cons_zero, List.set_cons_succ]
     refine region_in2 2 3 rfl rfl (by kernel_rfl) (fun K hK => ?_) (fun K hK => ?_)
     ·refine NextIn.value (v := .int .i64 x.e) (w' := Wd) rfl (fun c => by simp) rfl (by go_simp) ?_
      refine hK.out _ _ ?_
      clear hK
      simp only [Act.put, List.setIfInBounds_toArray, List.set_cons_zero, List.set_cons_succ]
      refine region_in1 3 rfl (by kernel_rfl) (fun K hK => ?_)
      refine NextIn.skip (w' := Wd.setCell ⟨w.heap.size, 0, none⟩ (.slice aL L.length cL)) rfl (fun c => by simp) rfl (by go_simp) ?_
      rw [hW3H.out]
      refine hK.out _ _ ?_
      clear hK
      simp only [Act.put]
      refine region_in1 4 rfl (by kernel_rfl) (fun K hK => ?_)
      refine NextIn.skip (w' := W3.setCell ⟨w.heap.size + 1, 0, none⟩ (.int .i64 x.e)) rfl (fun c => by simp) rfl (by go_simp) ?_
      refine hK.out _ _ ?_
      clear hK
      simp only [Act.put]
      refine wpAnyIn_done (by kernel_rfl) ?_ _
      gi_wp2_with fail
      exact hfinH.out _
     ·refine NextIn.skip (w' := Wd.setCell ⟨w.heap.size, 0, none⟩ (.slice aL L.length cL)) rfl (fun c => by simp) rfl (by go_simp) ?_
      rw [hW3H.out]
      refine hK.out _ _ ?_
      clear hK
      simp only [Act.put]
      refine region_in1 2 rfl (by kernel_rfl) (fun K hK => ?_)
      refine NextIn.value (v := .int .i64 x.e) (w' := W3) rfl (fun c => by simp) rfl (by go_simp) ?_
      refine hK.out _ _ ?_
      clear hK
      simp only [Act.put, List.setIfInBounds_toArray, List.set_cons_zero, List.set_cons_succ]
      refine region_in1 4 rfl (by kernel_rfl) (fun K hK => ?_)
      refine NextIn.skip (w' := W3.setCell ⟨w.heap.size + 1, 0, none⟩ (.int .i64 x.e)) rfl (fun c => by simp) rfl (by go_simp) ?_
      refine hK.out _ _ ?_
      clear hK
      simp only [Act.put]
      refine wpAnyIn_done (by kernel_rfl) ?_ _
      gi_wp2_with fail
      exact hfinH.out _
    ·refine NextIn.skip (w' := Wd.setCell ⟨w.heap.size, 0, none⟩ (.slice aL L.length cL)) rfl (fun c => by simp) rfl (by go_simp) ?_
     rw [hW3H.out]
     refine hK.out _ _ ?_
     clear hK
     simp only [Act.put]
     refine region_in1 1 rfl (by kernel_rfl) (fun K hK => ?_)
     refine NextIn.value (v := .pointer (some ⟨tb, 1, none⟩)) (w' := W3) rfl (fun c => by simp) rfl (by go_simp) ?_
     refine hK.out _ _ ?_
     clear hK
     simp only [Act.put, List.setIfInBounds_toArray, List.set_cons_zero, List.set_cons_succ]
     refine region_in1 2 rfl (by kernel_rfl) (fun K hK => ?_)
     refine NextIn.value (v := .int .i64 x.e) (w' := W3) rfl (fun c => by simp) rfl (by go_simp) ?_
     refine hK.out _ _ ?_
     clear hK
     simp only [Act.put, List.setIfInBounds_toArray, List.set_cons_zero, List.set_cons_succ]
     refine region_in1 4 rfl (by kernel_rfl) (fun K hK => ?_)
     refine NextIn.skip (w' := W3.setCell ⟨w.heap.size + 1, 0, none⟩ (.int .i64 x.e)) rfl (fun c => by simp) rfl (by go_simp) ?_
     refine hK.out _ _ ?_
     clear hK
     simp only [Act.put]
     refine wpAnyIn_done (by kernel_rfl) ?_ _
     gi_wp2_with fail
     exact hfinH.out _
   ·refine NextIn.value (v := .pointer (some ⟨tb, 1, none⟩)) (w' := Wd) rfl (fun c => by simp) rfl (by go_simp) ?_
    refine hK.out _ _ ?_
    clear hK
    simp only [Act.put, List.setIfInBounds_toArray, List.set_cons_zero, List.set_cons_succ]
    refine region_in2 0 2 rfl rfl (by kernel_rfl) (fun K hK => ?_) (fun K hK => ?_)
    ·refine NextIn.value (v := (.slice aL L.length cL)) (w' := Wd) rfl (fun c => by simp) rfl (by go_simp) ?_
     refine hK.out _ _ ?_
     clear hK
     simp only [Act.put, List.setIfInBounds_toArray, List.set_cons_zero, List.set_cons_succ]
     refine region_in2 2 3 rfl rfl (by kernel_rfl) (fun K hK => ?_) (fun K hK => ?_)
     ·refine NextIn.value (v := .int .i64 x.e) (w' := Wd) rfl (fun c => by simp) rfl (by go_simp) ?_
      refine hK.out _ _ ?_
      clear hK
      simp only [Act.put, List.setIfInBounds_toArray, List.set_cons_zero, List.set_cons_succ]
      refine region_in1 3 rfl (by kernel_rfl) (fun K hK => ?_)
      refine NextIn.skip (w' := Wd.setCell ⟨w.heap.size, 0, none⟩ (.slice aL L.length cL)) rfl (fun c => by simp) rfl (by go_simp) ?_
      rw [hW3H.out]
      refine hK.out _ _ ?_
      clear hK
      simp only [Act.put]
      refine region_in1 4 rfl (by kernel_rfl) (fun K hK => ?_)
      refine NextIn.skip (w' := W3.setCell ⟨w.heap.size + 1, 0, none⟩ (.int .i64 x.e)) rfl (fun c => by simp) rfl (by go_simp) ?_
      refine hK.out _ _ ?_
      clear hK
      simp only [Act.put]
      refine wpAnyIn_done (by kernel_rfl) ?_ _
      gi_wp2_with fail
      exact hfinH.out _
     ·refine NextIn.skip (w' := Wd.setCell ⟨w.heap.size, 0, none⟩ (.slice aL L.length cL)) rfl (fun c => by simp) rfl (by go_simp) ?_
      rw [hW3H.out]
      refine hK.out _ _ ?_
      clear hK
      simp only [Act.put]
      refine region_in1 2 rfl (by kernel_rfl) (fun K hK => ?_)
      refine NextIn.value (v := .int .i64 x.e) (w' := W3) rfl (fun c => by simp) rfl (by go_simp) ?_
      refine hK.out _ _ ?_
      clear hK
      simp only [Act.put, List.setIfInBounds_toArray, List.set_cons_zero, List.set_cons_succ]
      refine region_in1 4 rfl (by kernel_rfl) (fun K hK => ?_)
      refine NextIn.skip (w' := W3.setCell ⟨w.heap.size + 1, 0, none⟩ (.int .i64 x.e)) rfl (fun c => by simp) rfl (by go_simp) ?_
      refine hK.out _ _ ?_
      clear hK
      simp only [Act.put]
      refine wpAnyIn_done (by kernel_rfl) ?_ _
      gi_wp2_with fail
      exact hfinH.out _
    ·refine NextIn.value (v := .int .i64 x.e) (w' := Wd) rfl (fun c => by simp) rfl (by go_simp) ?_
     refine hK.out _ _ ?_
     clear hK
     simp only [Act.put, List.setIfInBounds_toArray, List.set_cons_zero, List.set_cons_succ]
     refine region_in1 0 rfl (by kernel_rfl) (fun K hK => ?_)
     refine NextIn.value (v := (.slice aL L.length cL)) (w' := Wd) rfl (fun c => by simp) rfl (by go_simp) ?_
     refine hK.out _ _ ?_
     clear hK
     simp only [Act.put, List.setIfInBounds_toArray, List.set_cons_zero, List.set_cons_succ]
     refine region_in1 3 rfl (by kernel_rfl) (fun K hK => ?_)
     refine NextIn.skip (w' := Wd.setCell ⟨w.heap.size, 0, none⟩ (.slice aL L.length cL)) rfl (fun c => by simp) rfl (by go_simp) ?_
     rw [hW3H.out]
     refine hK.out _ _ ?_
     clear hK
     simp only [Act.put]
     refine region_in1 4 rfl (by kernel_rfl) (fun K hK => ?_)
     refine NextIn.skip (w' := W3.setCell ⟨w.heap.size + 1, 0, none⟩ (.int .i64 x.e)) rfl (fun c => by simp) rfl (by go_simp) ?_
     refine hK.out _ _ ?_
     clear hK
     simp only [Act.put]
     refine wpAnyIn_done (by kernel_rfl) ?_ _
     gi_wp2_with fail
     exact hfinH.out _
 case done =>
  rintro D xs W hD hxs ⟨i1, ⟨vL, hvL, hoL⟩, i3, i4, i5⟩ hK
  obtain ⟨L, hL⟩ : ∃ L, xs.map Td.t = L := ⟨_, rfl⟩
  rw [hL] at hoL
  have hE : (L, (0 : Int)) = runL s g p [] := by
   rw [run_of_told p [] (fun y hy => ?_), ← hxs]
   ·rw [List.nil_append, ← hL, List.map_map]; rfl
   ·rw [← hxs] at hy
    obtain ⟨x, hx, rfl⟩ := List.mem_map.1 hy
    exact i1 x hx
  obtain ⟨aL, cL, hvE, -⟩ := OwnL.sl hoL
  subst hvE
  have cB := hvL.cell
  have q0 := i4.cell
  have q1 := i5.cell
  have f0 := i4.frozen
  have f1 := i5.frozen
  obtain ⟨W1, hW1⟩ : ∃ W1, W.setCell ⟨w.heap.size, 0, none⟩ (.slice aL L.length cL) = W1 := ⟨_, rfl⟩
  obtain ⟨W2, hW2⟩ : ∃ W2, W1.setCell ⟨w.heap.size + 1, 0, none⟩ (.int .i64 0) = W2 := ⟨_, rfl⟩
  have hnR : ∀ {r : Nat} {t : TypeId} {v : Value}, Boxed W r t v → t ≠ 26 → (Value.slice aL L.length cL).ownBlock ≠ some r := fun hbx ht e => by
   obtain ⟨cur, hc⟩ := OwnL.rowCells hoL _ e
   rw [show W.heap[_]? = _ from hbx] at hc
   simp only [Option.some.injEq, Obj.cells.injEq] at hc
   exact ht hc.2.1
  have hg1 : W.grownBy W1 (some w.heap.size) := by rw [← hW1]; exact grownBy_setCell' _ _ _
  have hg2 : W1.grownBy W2 (some (w.heap.size + 1)) := by rw [← hW2]; exact grownBy_setCell' _ _ _
  have d0 : Boxed W1 w.heap.size 77 (.slice aL L.length cL) := by rw [← hW1]; exact i4.set _
  have d1 : Boxed W1 (w.heap.size + 1) 30 (.int .i64 0) := i5.kept hg1 (fun e => by injection e with e; omega)
  have e0 : Boxed W2 w.heap.size 77 (.slice aL L.length cL) := d0.kept hg2 (fun e => by injection e with e; omega)
  have e1 : Boxed W2 (w.heap.size + 1) 30 (.int .i64 0) := by rw [← hW2]; exact d1.set _
  have dO := OwnTT.keep hoL (fun k hk => hg1.block k (OwnL.lt hoL k hk).2 (fun e => hnR i4 (by decide) (by rw [hk, e]))) (.of_grown hg1 (fun r e => by cases e; exact not_intB i4 (by decide)))
  have eO := OwnTT.keep dO (fun k hk => hg2.block k (OwnL.lt dO k hk).2 (fun e => hnR i5 (by decide) (by rw [hk, e]))) (.of_grown hg2 (fun r e => by cases e; exact not_intB d1 (by decide)))
  have hK2 : W2.heap[D]? = some (.deferred (some [])) := by
   have hl := (Array.getElem?_eq_some_iff.1 hK).1
   exact (hg2.block D (Nat.lt_of_lt_of_le hl hg1.size) (fun e => by injection e with e; omega)).trans ((hg1.block D hl (fun e => by injection e with e; omega)).trans hK)
  have eB : Below w.heap.size w W2 := (i3.grown hg1 i3.size (fun j e => by cases e; omega)).grown hg2 (Nat.le_trans i3.size hg1.size) (fun j e => by cases e; omega)
  have hfin : ∀ tmps : Array Value, tmps.getD 6 undef = .pointer (some ⟨w.heap.size, 0, none⟩) → tmps.getD 7 undef = .pointer (some ⟨w.heap.size + 1, 0, none⟩) → _ := fun tmps h6 h7 => run_fin (tmps := tmps) (by omega) hK2 e0 e1 eO eB h6 h7
  have hfinH := Lib.hid hfin
  have hK2H := Lib.hid hK2
  have hW1H := Lib.hid hW1
  have hW2H := Lib.hid hW2
  clear i1 i3 i4 i5 hoL hvL hxs hL hnR hg1 hg2 d0 d1 e0 e1 dO eO hK2 eB hfin hK hW1 hW2
  gi_wp2
  rw [hW1H.out, hW2H.out]
  refine ⟨by simp, .inl ⟨_, _, rfl, run_takeDeferred hK2H.out, ?_⟩⟩
  rw [← hE]
  exact hfinH.out _ rfl rfl
 case stop =>
  rintro D c pre W hD hSp ⟨rfl, pre0, x, v, rfl, j1, j2, j3, j4, j5, j6, j7⟩ hK
  have hE := run_of_stop p [] (pre0.map Td.pt) (Td.pt x) (by simpa using hSp) (fun y hy => by obtain ⟨z, hz, rfl⟩ := List.mem_map.1 hy; exact j1 z hz) j2
  have hL : pre0.map Td.t = [] ++ (pre0.map Td.pt).map Prod.fst := by rw [List.nil_append, List.map_map]; rfl
  rw [hL] at j7
  have hD' : w.heap.size + 1 < D := by omega
  have hfin : ∀ tmps : Array Value, tmps.getD 6 undef = .pointer (some ⟨w.heap.size, 0, none⟩) → tmps.getD 7 undef = .pointer (some ⟨w.heap.size + 1, 0, none⟩) → _ := fun tmps h6 h7 => run_fin (tmps := tmps) hD' hK j4 j5 j7 j3 h6 h7
  have hKH := Lib.hid hK
  have hfinH := Lib.hid hfin
  clear hfin hK j1 j2 j3 j4 j5 j6 j7 hSp
  gi_wp2
  refine ⟨by simp, .inl ⟨_, _, rfl, run_takeDeferred hKH.out, ?_⟩⟩
  rw [hE]
  exact hfinH.out _ rfl rfl
theorem krun_any {S1 S2 S3 : Nat → Prop} (a1 ag ap : Option Addr) (c1 cg cp : Nat) (s : Sg) (g : List (List Int)) (p : List Stp) (w : World) (h1 : Sign S1 w a1 c1 s) (h2 : Terms S2 w ag cg g) (h3 : Steps S3 w ap cp p) (hg : ∀ t ∈ g, okT s t = true) (hp : okSteps g.length 0 p = true) (hlp : p.length ≤ 60) :
  Calls Tryz.prog 128 #[.slice a1 s.length c1, .slice ag g.length cg, .slice ap p.length cp] w (retTE (runL s g p []) w) :=
 (krunB_any a1 ag ap c1 cg cp s g p w h1 h2 h3 hg hp hlp).mono fun _ _ h => h.te
end Go.Proofs.YtpmnnoopoblpgaaGreat

/- Walks of package kernel: Run, Says. -/
namespace Go.Proofs.YtpmnnoopoblpgaaGreat
open Go Go.RowKit Go.Maps

def retR (r : List (List Int) × Int × Int) (w : World) (e : Ending) (w' : World) : Prop := ∃ v, e = .returned (.tuple #[v, .int .i64 r.2.1, .int .i64 r.2.2]) ∧ OwnTs (fun _ => True) w' w.heap.size v r.1 ∧ Below w.heap.size w w'
def retS (r : List Int × Int) (w : World) (e : Ending) (w' : World) : Prop := ∃ a c, e = .returned (.tuple #[.slice a r.1.length c, .int .i64 r.2]) ∧ Ints (fun _ => True) w' a c r.1 ∧ Below w.heap.size w w'
theorem askedB_full {s : Sg} {g : List (List Int)} {p : List Stp} (h : askedB s g p = true) : (∀ t ∈ g, okT s t = true) ∧ okSteps g.length 0 p = true ∧ 1 ≤ p.length ∧ p.length ≤ 60 := by
 simp only [askedB, validP, Bool.and_eq_true, decide_eq_true_eq] at h
 exact ⟨(givensB_parts h.1).2.2, h.2.1, h.2.2.1, h.2.2.2⟩
set_option maxHeartbeats 1000000 in
theorem Run_any {S1 S2 S3 : Nat → Prop} (a1 ag ap : Option Addr) (c1 cg cp : Nat) (s : Sg) (g : List (List Int)) (p : List Stp) (w : World) (h1 : Sign S1 w a1 c1 s) (h2 : Terms S2 w ag cg g) (h3 : Steps S3 w ap cp p) :
  Calls Tryz.prog 73 #[.slice a1 s.length c1, .slice ag g.length cg, .slice ap p.length cp] w (retR (runR s g p) w) := by
 have m1 := h1.le
 have m2 := h2.le
 have m3 := h3.le
 have v1 := asked_any a1 ag ap c1 cg cp s g p w h1 h2 h3
 cases hx : askedB s g p with
 | false =>
  rw [hx] at v1
  have hrH := Lib.hid (show runR s g p = ([], 0, 1) by rw [runR, hx]; rfl)
  have v1H := Lib.hid v1
  clear v1 h1 h2 h3 hx
  go_enter Tryz.func73, Tryz.ntmps73
  go_wp2_with fail
  refine v1H.out.mono ?_
  rintro e w1 ⟨rfl, hb1⟩
  go_wp2_with fail
  go_ret3
  rw [hrH.out]
  exact ⟨_, rfl, .nil _ _ _ _ _, hb1⟩
 | true =>
  rw [hx] at v1
  obtain ⟨q1, q2, -, q3⟩ := askedB_full hx
  have v2 := fun W (hb : Below w.heap.size w W) => krun_any a1 ag ap c1 cg cp s g p W (h1.below hb) (h2.below hb) (h3.below hb) q1 q2 q3
  obtain ⟨L, E, hLE⟩ : ∃ L E, runL s g p [] = (L, E) := ⟨_, _, rfl⟩
  rw [hLE] at v2
  have hr : runR s g p = if E = 0 then (L, -1, 0) else (L, (L.length : Int), E) := by rw [runR, if_pos hx, hLE]
  have v1H := Lib.hid v1
  have v2H := Lib.hid v2
  clear v1 v2 h1 h2 h3 hx q1 q2 q3 hLE
  by_cases hE : E = 0
  ·rw [if_pos hE] at hr
   subst hE
   have hrH := Lib.hid hr
   clear hr
   go_enter Tryz.func73, Tryz.ntmps73
   go_wp2_with fail
   refine v1H.out.mono ?_
   rintro e w1 ⟨rfl, hb1⟩
   go_wp2_with fail
   refine (v2H.out _ hb1).mono ?_
   rintro e w2 ⟨v, rfl, ho, hb2⟩
   have hoH := Lib.hid (OwnL.baseMono (base' := w.heap.size) ho hb1.size)
   clear ho
   go_wp2_with fail
   go_ret3
   rw [hrH.out]
   exact ⟨_, rfl, hoH.out, bcall hb1 hb2⟩
  ·rw [if_neg hE] at hr
   have hne : (E != 0) = true := by simpa using hE
   have hrH := Lib.hid hr
   clear hr hE
   go_enter Tryz.func73, Tryz.ntmps73
   go_wp2_with fail
   refine v1H.out.mono ?_
   rintro e w1 ⟨rfl, hb1⟩
   go_wp2_with fail
   refine (v2H.out _ hb1).mono ?_
   rintro e w2 ⟨v, rfl, ho, hb2⟩
   obtain ⟨aL, cL, rfl, -⟩ := OwnL.sl ho
   have hoH := Lib.hid (OwnL.baseMono (base' := w.heap.size) ho hb1.size)
   clear ho
   go_wp2_with fail
   go_ret3
   rw [hrH.out]
   exact ⟨_, rfl, hoH.out, bcall hb1 hb2⟩
set_option maxHeartbeats 1000000 in
theorem Says_any {S1 S2 S3 : Nat → Prop} (a1 ag ap : Option Addr) (c1 cg cp : Nat) (s : Sg) (g : List (List Int)) (p : List Stp) (w : World) (h1 : Sign S1 w a1 c1 s) (h2 : Terms S2 w ag cg g) (h3 : Steps S3 w ap cp p) :
  Calls Tryz.prog 147 #[.slice a1 s.length c1, .slice ag g.length cg, .slice ap p.length cp] w (retS (saysE s g p) w) := by
 have m1 := h1.le
 have m2 := h2.le
 have m3 := h3.le
 have v1 := Run_any a1 ag ap c1 cg cp s g p w h1 h2 h3
 obtain ⟨L, N, E, hR⟩ : ∃ L N E, runR s g p = (L, N, E) := ⟨_, _, _, rfl⟩
 have hS : (E ≠ 0 ∧ saysE s g p = ([], E)) ∨ (E = 0 ∧ 1 ≤ L.length ∧ L.length ≤ 60 ∧ saysE s g p = (L.getLastD [], 0)) := by
  rw [runR] at hR
  rw [saysE]
  by_cases hx : askedB s g p = true
  ·rw [if_pos hx] at hR ⊢
   by_cases h0 : (runL s g p []).2 = 0
   ·rw [if_pos h0] at hR ⊢
    cases hR
    obtain ⟨q1, q2, q4, q3⟩ := askedB_full hx
    have := (runL_okT q1 p [] (fun t h => by cases h) q2).2.1 h0
    simp only [List.length_nil] at this
    exact .inr ⟨rfl, by omega, by omega, rfl⟩
   ·rw [if_neg h0] at hR ⊢
    cases hR
    exact .inl ⟨h0, rfl⟩
  ·rw [if_neg hx] at hR ⊢
   cases hR
   exact .inl ⟨by decide, rfl⟩
 rw [hR] at v1
 have v1H := Lib.hid v1
 clear v1 hR h1 h2 h3
 rcases hS with ⟨hE, hS⟩ | ⟨rfl, hl1, hl2, hS⟩
 ·have hne : (E != 0) = true := by simpa using hE
  have hSH := Lib.hid hS
  clear hS hE
  go_enter Tryz.func147, Tryz.ntmps147
  go_wp2_with fail
  refine v1H.out.mono ?_
  rintro e w1 ⟨v, rfl, ho, hb1⟩
  clear ho
  go_wp2_with fail
  go_ret2
  rw [hSH.out]
  exact ⟨_, _, rfl, Sl.empty, hb1⟩
 ·have hSH := Lib.hid hS
  have e1 : IntKind.i64.wrap ((L.length : Int) - 1) = ((L.length - 1 : Nat) : Int) := by rw [IntWalk.i64_in _ (by omega)]; omega
  clear hS
  go_enter Tryz.func147, Tryz.ntmps147
  go_wp2_with fail
  refine v1H.out.mono ?_
  rintro e w1 ⟨v, rfl, ho, hb1⟩
  obtain ⟨a, c, rfl, hT⟩ := OwnL.sl ho
  obtain ⟨b1, o1, a4, c4, rfl, -, q1, hA⟩ := hT.sub (L.length - 1) (by simp only; omega)
  dsimp only at q1 hA
  have hq : L[L.length - 1] = L.getLastD [] := by
   rw [List.getLastD_eq_getLast?, List.getLast?_eq_getElem?, List.getElem?_eq_getElem (by omega)]; rfl
  obtain ⟨z, hz⟩ : ∃ z, L.getLastD [] = z := ⟨_, rfl⟩
  rw [hq, hz] at q1 hA
  have hS := hSH.out
  rw [hz] at hS
  have hSK := Lib.hid hS
  have hAH := Lib.hid hA.any
  clear ho hT hA hq hS hSH hz
  go_wp2_with fail
  all_goals go_ret2
  all_goals rw [hSK.out]
  all_goals exact ⟨_, _, rfl, hAH.out, hb1⟩
end Go.Proofs.YtpmnnoopoblpgaaGreat
