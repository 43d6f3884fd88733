/- The proof of a statement, some of its texts joined in build order: part G. -/
import Derived.Test.YtnhaoalcpbefoaaDoorMsC
import Derived.Test.YtnhaoalcpbefoaaDoorMsB
import Derived.Test.YtnhaoalcpbefoaaDoorMathTok
import Derived.Test.YtnhaoalcpbefoaaDoorMsH
import Derived.Deep.Cut
import Derived.BigRegion
/- Walks: lemmaryref03.joined, told, tongues, Write. -/
namespace Go.Proofs.YtnhaoalcpbefoaaDoor
open Go Go.RowKit Go.Maps

theorem ba_ext3 {x y : ByteArray} (h : x.data.toList = y.data.toList) : x = y := by
  cases x; cases y
  exact congrArg ByteArray.mk (Array.toList_inj.1 h)
theorem toB_size (l : List UInt8) : (toB l).size = l.length := by simp [toB, ByteArray.size]
theorem jt_take {sep : List UInt8} {A : List (List UInt8)} {j : Nat} (hj : j < A.length) : Lib.joinTail sep (A.take (j + 1)) = Lib.joinTail sep (A.take j) ++ (sep ++ A[j]) := by
  rw [List.take_succ_eq_append_getElem hj]
  simp only [Lib.joinTail, List.map_append, List.flatten_append, List.map_cons, List.map_nil, List.flatten_cons, List.flatten_nil, List.append_nil]
theorem jt_part (sep : List UInt8) (A : List (List UInt8)) (j : Nat) (hs : sep.length ≤ 4) : (Lib.joinTail sep (A.take j)).length ≤ (A.map (fun x => x.length + 4)).sum := by
  refine Nat.le_trans (joinTail_le hs _) ?_
  rw [List.map_take]
  have := List.take_append_drop j (A.map (fun x => x.length + 4))
  have h2 := congrArg List.sum this
  rw [List.sum_append] at h2
  omega
theorem elt_le {A : List (List UInt8)} {j : Nat} (hj : j < A.length) : A[j].length ≤ (A.map (fun x => x.length + 4)).sum := by
  have h1 := jt_part [] A (j + 1) (by decide)
  rw [jt_take hj] at h1
  rw [List.length_append, List.nil_append] at h1
  omega
set_option maxHeartbeats 2000000 in
theorem rjoined_any {S : Nat → Prop} (a : Option Addr) (c : Nat) (A : List (List UInt8)) (mark : ByteArray) (w : World) (h : TArgs S w a c A) (hm : mark.size ≤ 4) :
    Calls Tryd.prog 56 #[.slice a A.length c, .string mark] w fun e w' => e = .returned (.string (toB (Lib.joinTail mark.data.toList A))) ∧ w = w' := by
  have m2 := h.sl.le
  rw [List.length_map] at m2
  have hmk : mark.data.toList.length = mark.size := by rw [Array.length_toList]; rfl
  have hH := Lib.hid h
  clear h
  go_enter Tryd.func56, Tryd.ntmps56
  go_wp2_with fail
  go_loopw [5, 6] (fun sv i wr => ∃ j : Nat, i = .int .i64 j ∧ j ≤ A.length ∧ sv = .string (toB (Lib.joinTail mark.data.toList (A.take j))) ∧ wr = w) (fun _ i _ => A.length - (intOf i).toNat)
  case atStart => exact ⟨0, rfl, Nat.zero_le _, rfl, rfl⟩
  case round =>
    obtain ⟨j, rfl, hj, rfl, rfl⟩ := hrel
    by_cases hlt : j < A.length
    · obtain ⟨b, o, rfl, -, -, vs, e1, e2, e3⟩ := hH.out.sl.at1 j (by rw [List.length_map]; exact hlt)
      obtain ⟨rfl, -⟩ := e3
      have q := e2 0 (by rw [e1]; exact Nat.one_pos)
      simp only [List.getElem_map, List.getElem_cons_zero, Nat.add_zero, show strE.size = 1 from rfl, Nat.mul_one] at q
      have hB := jt_part mark.data.toList A j (by omega)
      have hX := elt_le hlt
      have hsz := hH.out.sz
      have ht : (toB (Lib.joinTail mark.data.toList (A.take j)) ++ mark) ++ toB A[j] = toB (Lib.joinTail mark.data.toList (A.take (j + 1))) := by
        rw [jt_take hlt, ← toB_append, ← toB_append, toB_data]
        exact ByteArray.append_assoc
      have z1 := toB_size (Lib.joinTail mark.data.toList (A.take j))
      have z2 := toB_size A[j]
      obtain ⟨B, hBe⟩ : ∃ B, toB (Lib.joinTail mark.data.toList (A.take j)) = B := ⟨_, rfl⟩
      obtain ⟨X, hXe⟩ : ∃ X, toB A[j] = X := ⟨_, rfl⟩
      rw [hBe] at ht z1
      rw [hXe] at ht z2 q
      rw [hBe]
      have s1 : (9223372036854775807 < B.size + mark.size) = False := eq_false (by omega)
      have s2 : (9223372036854775807 < B.size + mark.size + X.size) = False := eq_false (by omega)
      have htH := Lib.hid ht
      clear ht e2 e1 hBe hXe z1 z2 hB hX hsz
      go_wp2_with fail
      go_roundw
      case rel => exact ⟨j + 1, by go_num, hlt, congrArg Value.string htH.out, by trivial⟩
      case measure => simp [intOf]; omega
    · have hjj : j = A.length := by omega
      subst hjj
      have hR := Lib.hid (show toB (Lib.joinTail mark.data.toList (A.take A.length)) = toB (Lib.joinTail mark.data.toList A) by rw [List.take_length])
      go_wp2_with fail
      go_ret
      exact ⟨congrArg (fun b => Ending.returned (.string b)) hR.out, rfl⟩
theorem rwithin3_any (n lo hi : Int) (w : World) :
    Calls Tryd.prog 54 #[.int .i64 n, .int .i64 lo, .int .i64 hi] w fun e w' => e = .returned (.bool (decide (lo ≤ n) && decide (n ≤ hi))) ∧ w = w' := by
  go_enter Tryd.func54, Tryd.ntmps54
  go_wp2
  all_goals go_ret
  all_goals exact ⟨ret_bool (by simp; omega), rfl⟩
theorem rtongues_any (n : Int) (w : World) :
    Calls Tryd.prog 27 #[.int .i64 n] w fun e w' => e = .returned (.bool (decide (1 ≤ n) && decide (n ≤ 3))) ∧ w = w' := by
  have hw := rwithin3_any n 1 3
  go_enter Tryd.func27, Tryd.ntmps27
  go_wp2_with fail
  refine (hw _).mono ?_
  rintro e w2 ⟨rfl, rfl⟩
  go_wp2_with fail
  go_ret
  exact ⟨rfl, rfl⟩
def toldRel (L : List (List UInt8)) (W5 : World) (out i : Value) (wr : World) : Prop :=
  ∃ q : Nat, i = .int .i64 q ∧ q ≤ L.length ∧ OwnSt3 wr W5.heap.size out ((L.take q).map toB) ∧ Below W5.heap.size W5 wr
def toldRet (w : World) (b : List UInt8) (e : Ending) (w' : World) : Prop := e = .returned (.string (toB b)) ∧ Below w.heap.size w w'
set_option maxRecDepth 20000 in
set_option maxHeartbeats 4000000 in
theorem rtold_any {S1 S2 : Nat → Prop} (k : Nat) (hk : k = 1 ∨ k = 2 ∨ k = 3) (a1 a2 : Option Addr) (c1 c2 : Nat) (s : Sg) (t : List Int) (hok : okSign s = true) (hl : t.length ≤ 60) :
    ∀ (N p : Nat) (r : List Int) (w : World), t.length - p ≤ N → skip s 1 (t.drop p) = some r → Sign S1 w a1 c1 s → Ints S2 w a2 c2 t →
      Calls Tryd.prog 28 #[.slice a1 s.length c1, .int .i64 k, .slice a2 t.length c2, .int .i64 p] w (toldRet w (txt k s (partAt s (t.drop p)))) := by
  intro N
  induction N with
  | zero =>
    intro p r w hN h
    obtain ⟨hp, -, -⟩ := skip_drop (k := 0) h
    omega
  | succ N ih =>
  intro p r w hN hsk h1 h2
  have m1 := h1.le
  have m2 := h2.le
  obtain ⟨hp, hc, hss⟩ := skip_drop (k := 0) hsk
  obtain ⟨b2, o2, ha2, -, q2, r2⟩ := h2.int p hp
  by_cases hn : t[p] < 0
  · rw [part_neg hsk hp hn, txt_neg hn]
    subst ha2
    obtain ⟨x, hx⟩ : ∃ x, t[p] = x := ⟨_, rfl⟩
    rw [hx] at q2 hn r2 hc ⊢
    obtain ⟨v, hv⟩ : ∃ v : Nat, x = -(v : Int) - 1 := ⟨(-x - 1).toNat, by omega⟩
    subst hv
    have hv12 : v < 12 := by simp [codeOk] at hc; omega
    have hdv : decide (-(v : Int) - 1 < 0) = true := by simp; omega
    have hw1 : IntKind.i64.wrap (-(-(v : Int) - 1)) = (v : Int) + 1 := by rw [IntWalk.i64_in _ (by omega)]; omega
    have hw2 : IntKind.i64.wrap ((v : Int) + 1 - 1) = (v : Int) := by rw [IntWalk.i64_in _ (by omega)]; omega
    have hd := digN_any v (by omega)
    have hlen := dec_len (v := v) (by omega)
    have hnv : (-(-(v : Int) - 1) - 1).toNat = v := by omega
    rw [hnv]
    obtain ⟨D, hD⟩ : ∃ D : ByteArray, (⟨(Lib.decDigits v).toArray⟩ : ByteArray) = D := ⟨_, rfl⟩
    have hDs : D.size ≤ 2 := by rw [← hD]; exact hlen
    have s1 : (9223372036854775807 < 1 + D.size) = False := eq_false (by omega)
    have hR := Lib.hid (show (⟨#[120]⟩ : ByteArray) ++ D = toB (120 :: Lib.decDigits v) by rw [← hD, show (120 :: Lib.decDigits v) = [120] ++ Lib.decDigits v from rfl, ← toB_append]; rfl)
    rw [hD] at hd
    clear hsk hc hss hx ih h1 h2 hn hok hlen hD hnv
    go_enter Tryd.func28, Tryd.ntmps28
    go_wp2_with (go_at_call 42; (with_reducible refine (hd _).mono ?_); rintro e w2 ⟨rfl, rfl⟩)
    go_ret
    exact ⟨congrArg (fun b => Ending.returned (.string b)) hR.out, .refl _ _⟩
  rw [Nat.zero_add] at hss
  have hArg := fun W (hb : Below w.heap.size w W) => rArguments_any a1 a2 c1 c2 s t p r W (h1.below hb) (h2.below hb) hok hsk hl
  obtain ⟨g1, -, -, -⟩ := part_args hsk
  have hpos := posK_at s t
  rw [List.getD_eq_getElem?_getD, List.getElem?_eq_getElem hp, Option.getD_some] at g1
  have hgp : t.getD p 0 = t[p] := by rw [List.getD_eq_getElem?_getD, List.getElem?_eq_getElem hp]; rfl
  simp only [hgp] at hArg
  obtain ⟨pr1, pr2, pr3⟩ := part_rest hsk (by omega)
  have hpe := partAt_eq hsk
  obtain ⟨u, hu⟩ : ∃ u, partAt s (t.drop p) = u := ⟨_, rfl⟩
  rw [hu] at g1 pr1 pr2 pr3 hpe ⊢
  have huok : okT s u = true := okT_of_skip hok hpe.2.1 (by omega)
  have hhead : u.headD 0 = t[p] := by
    have h1 := hpe.1
    rw [List.drop_eq_getElem_cons hp] at h1
    cases hu2 : u with
    | nil => rw [hu2] at pr3; simp at pr3
    | cons y z => rw [hu2, List.cons_append] at h1; rw [List.headD_cons]; exact (List.cons.inj h1).1.symm
  obtain ⟨x, hx⟩ : ∃ x, t[p] = x := ⟨_, rfl⟩
  rw [hx] at q2 hn hc hss g1 hhead
  simp only [hx] at hArg
  obtain ⟨n, rfl⟩ : ∃ n : Nat, x = (n : Int) := ⟨x.toNat, by omega⟩
  have hns : n < s.length := by
    simp only [codeOk, Bool.or_eq_true, decide_eq_true_eq] at hc
    omega
  have har3 := (arC_ok hok hc).2
  obtain ⟨m, hm⟩ : ∃ m, ar s (n : Int) = m := ⟨_, rfl⟩
  rw [hm] at hss g1 har3
  simp only [hm] at hArg
  have hpos2 := hpos m (p + 1) r (by omega) hss
  have hplen := posK_length s t.length m (t.drop (p + 1))
  have htx : txt k s u = comb k s (n : Int) ((splitK s m (t.drop (p + 1))).map (txt k s)) := by
    rw [txt_node huok (by rw [hhead]; omega), hhead, g1]
  have hspl : (splitK s m (t.drop (p + 1))).length = m := by
    obtain ⟨f1, -, -⟩ := argsT_spec huok
    rw [g1] at f1; rw [f1, hhead, hm]
  have hsz : (((splitK s m (t.drop (p + 1))).map (txt k s)).map (fun x => x.length + 4)).sum ≤ 10000 := by
    obtain ⟨f1, f2, f3⟩ := argsT_spec huok
    rw [g1] at f1 f2 f3
    have hfl := congrArg List.length f2
    rw [List.length_cons] at hfl
    have h2 := sum_le (L := (splitK s m (t.drop (p + 1))).map (txt k s)) (c := 4) (M := splitK s m (t.drop (p + 1))) (by simp) (fun i h3 h4 => by
      rw [List.getElem_map]
      exact txt_len _ (f3 _ (List.getElem_mem h4)) (Nat.le_refl _))
    omega
  have har2 : n = 0 → m = 2 := fun e => by subst e; rw [← hm]; exact ar0_two hok
  obtain ⟨bS, oS, ha1, -, y0, -, -, -⟩ := h1.sym n hns
  rw [nm_cell hns] at y0
  have hnl := nm_len hok (n : Int)
  have hNs := toB_size (nmL s (n : Int))
  obtain ⟨P, hP⟩ : ∃ P, posK s t.length m (t.drop (p + 1)) = P := ⟨_, rfl⟩
  rw [hP] at hpos2 hplen
  simp only [hP] at hArg
  obtain ⟨L, hL⟩ : ∃ L, (splitK s m (t.drop (p + 1))).map (txt k s) = L := ⟨_, rfl⟩
  have hLm : L.length = m := by rw [← hL, List.length_map, hspl]
  have hpos3 : ∀ j, j < m → ∃ z rest, P[j]? = some ((z : Nat) : Int) ∧ skip s 1 (t.drop z) = some rest ∧ L[j]? = some (txt k s (partAt s (t.drop z))) ∧ p < z := fun j hj => by
    obtain ⟨z, rest, e1, e2, e3, e4⟩ := hpos2 j hj
    exact ⟨z, rest, e1, e2, by rw [← hL, List.getElem?_map, e3]; rfl, by omega⟩
  rw [hL] at htx hsz
  have hrec := fun (W : World) (hb : Below w.heap.size w W) p' r' (hpp : p < p') (hs : skip s 1 (t.drop p') = some r') => ih p' r' W (by omega) hs (h1.below hb) (h2.below hb)
  have hArgH := Lib.hid hArg
  have hrecH := Lib.hid hrec
  have hposH := Lib.hid hpos3
  have htxH := Lib.hid htx
  have hszH := Lib.hid hsz
  have hLmH := Lib.hid hLm
  have hplH := Lib.hid hplen
  have har2H := Lib.hid har2
  have hdv : decide ((n : Int) < 0) = false := by simp
  have hNsH := Lib.hid hNs
  have hnlH := Lib.hid hnl
  have hq2 := Lib.hid (fun (W : World) (hb : Below w.heap.size w W) => cell_later hb q2)
  obtain ⟨NM, hNM⟩ : ∃ NM, toB (nmL s (n : Int)) = NM := ⟨_, rfl⟩
  rw [hNM] at y0
  have hNMH := Lib.hid hNM
  have mL : L.length ≤ 3 := by omega
  have mP : P.length ≤ 3 := by omega
  subst ha2 ha1
  clear hsk hc hss hx ih h1 h2 hn hArg g1 hpos hgp pr1 pr2 pr3 hpe hu huok hhead hm har3 hpos2 hplen htx hspl hsz hLm hP hrec r2 hpos3 hL har2 hNs hnl hNM
  have hd0 : Below w.heap.size w w.drew := Below.drew (.refl _ _)
  have q2d := cell_later hd0 q2
  have y0d := cell_later hd0 y0
  go_enter Tryd.func28, Tryd.ntmps28
  go_upto_region 3 with fail
  go_cut [9, 10] from 13 (fun s9 s10 wx => ∃ (aP : Option Addr) (cP : Nat), s9 = .string NM ∧ s10 = .slice aP P.length cP ∧ Ints (fun _ => True) wx aP cP P ∧ Below w.heap.size w wx)
  case first =>
    go_region_with ((go_at_call 55; (with_reducible refine (hArgH.out _ hd0).mono ?_); rintro e w2 ⟨v2, rfl, ho2, hb2⟩; obtain ⟨aP, cP, rfl, hI2⟩ := OwnI.ints ho2; have q2w := cell_later hb2 q2d; have y0w := cell_later hb2 y0d))
    all_goals go_simp
    all_goals go_wp2_with fail
    all_goals go_meet
    all_goals exact ⟨_, _, rfl, rfl, hI2.any, bcall hd0 hb2⟩
  case rest =>
    obtain ⟨aP, cP, rfl, rfl, hP, hBx⟩ := hcut
    have mPc := hP.le
    by_cases hm0 : m = 0
    · have hp0 : P.length = 0 := by have := hplH.out; omega
      have hL0 : L = [] := List.length_eq_zero_iff.1 (by have := hLmH.out; omega)
      have hR := Lib.hid (show NM = toB (txt k s u) by
        rw [htxH.out, hL0, ← hNMH.out]
        congr 1
        unfold comb
        have : ¬ n = 0 := fun e => by have := har2H.out e; omega
        rcases hk with rfl | rfl | rfl
        · rw [if_pos rfl]; simp [Lib.joinTail]
        · rw [if_neg (by decide), if_pos rfl, if_neg (by omega), if_pos rfl]
        · rw [if_neg (by decide), if_neg (by decide), if_pos rfl])
      have hBH := Lib.hid hBx
      clear hP hBx hL0 q2 q2d y0 y0d
      go_wp2_with fail
      go_ret
      exact ⟨congrArg (fun b => Ending.returned (.string b)) hR.out, hBH.out⟩
    have hp0 : ((P.length : Int) == 0) = false := by rw [beq_eq_false_iff_ne]; have := hplH.out; omega
    have hPH := Lib.hid (fun (W : World) (hb : Below wc.heap.size wc W) => hP.below hb)
    have hBxH := Lib.hid hBx
    clear hP hBx q2 q2d y0 y0d hd0
    go_wp2_with fail
    go_loopw [11, 12] (fun out i wr => toldRel L wc out i wr) (fun _ i _ => P.length - (intOf i).toNat)
    case atStart => exact ⟨0, rfl, Nat.zero_le _, OwnL.nil _ _ _ _ _, .refl _ _⟩
    case round =>
      obtain ⟨q, rfl, hq, hoq, hBq⟩ := hrel
      have hPL : P.length = L.length := by rw [hplH.out, hLmH.out]
      by_cases hlt : q < P.length
      · have hBB := bcall hBxH.out hBq
        obtain ⟨z, rest, e1, e2, e3, e4⟩ := hposH.out q (by have := hplH.out; omega)
        obtain ⟨bP, oP, rfl, -, y2, -⟩ := (hPH.out _ hBq).int q hlt
        rw [List.getElem?_eq_getElem hlt] at e1
        rw [Option.some.inj e1] at y2
        have hcall := hrecH.out _ hBB z rest (by omega) e2
        have hqL : q < L.length := by omega
        obtain ⟨X, hX⟩ : ∃ X, txt k s (partAt s (t.drop z)) = X := ⟨_, rfl⟩
        rw [hX] at hcall e3
        rw [List.getElem?_eq_getElem hqL] at e3
        have hXe : L[q] = X := Option.some.inj e3
        have hXs : (toB X).size ≤ big := by
          rw [toB_size, ← hXe]
          have h1 := elt_le hqL
          have h2 := hszH.out
          unfold big; omega
        have hpush : ∀ w1, Below wr.heap.size wr w1 → ∃ v' w', RowKit.Hid ((Builtin.append_ #[62, 62] 62 #[_, .slice (some ⟨w1.heap.size, 0, none⟩) 1 1]).run Tryd.prog (w1.alloc (.cells #[.string (toB X)] 9)) = .ok v' w') ∧ RowKit.Hid (toldRel L wc v' (.int .i64 ((q : Int) + 1)) w') := fun w1 h1 => by
          have ho1 : OwnSt3 w1 wc.heap.size _ ((L.take q).map toB) := OwnL.call hoq h1
          have hBw := bcall hBq h1
          obtain ⟨v', w', f1, f2, f3, -⟩ := ho1.push (P := Tryd.prog) (t := 62) (ty := 62) Tryd.underlying62 infoStr3 rfl (vs := [.string (toB X)]) (x := toB X) ⟨rfl, hXs⟩ (by rw [List.length_map, List.length_take]; omega) (by rw [List.length_map, List.length_take]; unfold big; omega) hBw.size
          have hlt1 := OwnL.lt ho1
          refine ⟨v', w', Lib.hid f1, Lib.hid ⟨q + 1, rfl, by omega, ?_, hBw.grown f3 hBw.size (fun i e => (hlt1 i e).1)⟩⟩
          rw [List.take_succ_eq_append_getElem hqL, hXe, List.map_append]
          exact f2
        have hpushH := Lib.hid hpush
        have hcH := Lib.hid hcall
        clear hBB e1 e2 e3 hcall hX hXe hXs hpush hoq hBq hqL hPL
        go_wp2_with (first
          | (go_at_call 28; (with_reducible refine hcH.out.mono ?_); rintro e w8 ⟨rfl, hb8⟩; obtain ⟨v', w', hrun', hrel'⟩ := hpushH.out w8 hb8)
          | (at_builtin; refine wpList_append_run rfl _ _ _ rfl rfl rfl hrun'.out ?_))
        go_roundw
        case rel =>
          exact hrel'.out
        case measure => simp [intOf]; omega
      · have hqq : q = L.length := by omega
        subst hqq
        rw [List.take_length] at hoq
        obtain ⟨aL, cL, rfl, hsl⟩ := OwnL.sl hoq
        have q2r := hq2.out _ (bcall hBxH.out hBq)
        have hBH := Lib.hid (bcall hBxH.out hBq)
        have hT : TArgs _ wr aL cL L := ⟨hsl, mL, hszH.out⟩
        have mA := hsl.le
        rw [List.length_map] at mA
        have hNM8 : NM.size ≤ 8 := by have := hnlH.out; have := hNsH.out; rw [← hNMH.out]; omega
        have hJs : ∀ sep : List UInt8, sep.length ≤ 4 → (toB (Lib.joinTail sep L)).size ≤ 10000 := fun sep h => by
          rw [toB_size]; exact Nat.le_trans (joinTail_le h L) hszH.out
        have hne : L ≠ [] := fun e => by have := hLmH.out; rw [e] at this; simp at this; omega
        rw [List.length_map]
        rcases hk with rfl | rfl | rfl
        · have cj := rjoined_any aL cL L ⟨#[32]⟩ wr hT (by decide)
          have hJ := hJs [32] (by decide)
          have hR0 : NM ++ toB (Lib.joinTail [32] L) = toB (txt 1 s u) := by
            rw [htxH.out, ← hNMH.out, toB_append]
            unfold comb; rw [if_pos rfl]
          obtain ⟨J, hJe⟩ : ∃ J, toB (Lib.joinTail [32] L) = J := ⟨_, rfl⟩
          rw [show (⟨#[32]⟩ : ByteArray).data.toList = [32] from rfl, hJe] at cj
          rw [hJe] at hJ hR0
          have s1 : (9223372036854775807 < NM.size + J.size) = False := eq_false (by omega)
          have hR := Lib.hid hR0
          have cjH := Lib.hid cj
          clear hT hsl hoq hBq hJs hne hR0 cj hJe
          go_wp2_with fail
          (with_reducible refine cjH.out.mono ?_)
          rintro e w9 ⟨rfl, rfl⟩
          go_wp2_with fail
          go_ret
          exact ⟨congrArg (fun b => Ending.returned (.string b)) hR.out, hBH.out⟩
        · by_cases hn0 : n = 0
          · subst hn0
            have hL2 : L.length = 2 := by rw [hLmH.out, har2H.out rfl]
            obtain ⟨x0, x1, hLe⟩ : ∃ x0 x1, L = [x0, x1] := by
              match L, hL2 with
              | [a, b], _ => exact ⟨a, b, rfl⟩
            have hz0 := elt_le (A := L) (j := 0) (by omega)
            have hz1 := elt_le (A := L) (j := 1) (by omega)
            have hzz := hszH.out
            subst hLe
            simp only [List.getElem_cons_zero, List.getElem_cons_succ] at hz0 hz1
            obtain ⟨bL, oL, rfl, -, -, vs, e1, e2, e3⟩ := hsl.at1 0 (by simp)
            obtain ⟨bL2, oL2, he, -, -, vs2, f1, f2, f3⟩ := hsl.at1 1 (by simp)
            cases he
            obtain ⟨rfl, -⟩ := e3
            obtain ⟨rfl, -⟩ := f3
            have z0 := e2 0 (by rw [e1]; exact Nat.one_pos)
            have z1 := f2 0 (by rw [f1]; exact Nat.one_pos)
            simp only [List.map_cons, List.getElem_cons_succ, List.getElem_cons_zero, Nat.add_zero, show strE.size = 1 from rfl, Nat.mul_one] at z0 z1
            have u0 := toB_size x0
            have u1 := toB_size x1
            have hR0 : ((((⟨#[40]⟩ : ByteArray) ++ toB x0) ++ ⟨#[32, 45, 62, 32]⟩) ++ toB x1) ++ ⟨#[41]⟩ = toB (txt 2 s u) := by
              rw [htxH.out]
              have : comb 2 s ((0 : Nat) : Int) [x0, x1] = [40] ++ x0 ++ [32, 45, 62, 32] ++ x1 ++ [41] := by
                simp [comb, Lib.join_cons, Lib.joinTail]
              rw [this, ← toB_append, ← toB_append, ← toB_append, ← toB_append]; rfl
            obtain ⟨X0, hX0⟩ : ∃ X0, toB x0 = X0 := ⟨_, rfl⟩
            obtain ⟨X1, hX1⟩ : ∃ X1, toB x1 = X1 := ⟨_, rfl⟩
            rw [hX0] at u0 z0 hR0
            rw [hX1] at u1 z1 hR0
            have s1 : (9223372036854775807 < 1 + X0.size) = False := eq_false (by omega)
            have s2 : (9223372036854775807 < 1 + X0.size + 4) = False := eq_false (by omega)
            have s3 : (9223372036854775807 < 1 + X0.size + 4 + X1.size) = False := eq_false (by omega)
            have s4 : (9223372036854775807 < 1 + X0.size + 4 + X1.size + 1) = False := eq_false (by omega)
            have hd := Below.drew (.refl wr.heap.size wr)
            have z0d := cell_later hd z0
            have z1d := cell_later hd z1
            have hR := Lib.hid hR0
            clear hT hsl hoq hBq hJs hne hR0 e1 e2 f1 f2 hX0 hX1 u0 u1 hz0 hz1 hzz hL2
            go_wp2_with fail
            go_region
            all_goals go_wp2_with fail
            all_goals go_ret
            all_goals exact ⟨congrArg (fun b => Ending.returned (.string b)) hR.out, bcall hBH.out hd⟩
          · have hn0i : ((n : Int) == 0) = false := by rw [beq_eq_false_iff_ne]; omega
            have cj := rjoined_any aL cL L ⟨#[44, 32]⟩ wr hT (by decide)
            have hJ := hJs [44, 32] (by decide)
            have hJ2 : Lib.joinTail [44, 32] L = [44, 32] ++ Lib.join L [44, 32] := by
              cases L with
              | nil => exact (hne rfl).elim
              | cons x L => rw [Lib.join_cons]; simp [Lib.joinTail]
            have hJz := toB_size (Lib.joinTail [44, 32] L)
            obtain ⟨J, hJe⟩ : ∃ J, toB (Lib.joinTail [44, 32] L) = J := ⟨_, rfl⟩
            have hJx : J.extract 2 J.size = toB (Lib.join L [44, 32]) := by
              rw [← hJe, hJ2]
              apply ba_ext3
              rw [ByteArray.data_extract, Array.toList_extract, List.extract_eq_take_drop, toB_list, toB_list, toB_size]
              simp
            have hR0 : ((NM ++ (⟨#[40]⟩ : ByteArray)) ++ J.extract 2 J.size) ++ ⟨#[41]⟩ = toB (txt 2 s u) := by
              rw [htxH.out, ← hNMH.out, hJx]
              have : comb 2 s (n : Int) L = nmL s (n : Int) ++ [40] ++ Lib.join L [44, 32] ++ [41] := by
                unfold comb
                rw [if_neg (by decide), if_pos rfl, if_neg (by omega), if_neg hne]
                simp
              rw [this, ← toB_append, ← toB_append, ← toB_append]; rfl
            rw [show (⟨#[44, 32]⟩ : ByteArray).data.toList = [44, 32] from rfl, hJe] at cj
            rw [hJe] at hJ hJz
            have hJge : 2 ≤ J.size := by rw [hJz, hJ2]; simp
            have hJi : (2 : Int) ≤ (J.size : Int) := by omega
            have s1 : (9223372036854775807 < NM.size + 1) = False := eq_false (by omega)
            have s2 : (9223372036854775807 < NM.size + 1 + (J.extract 2 J.size).size) = False := eq_false (by rw [ByteArray.size_extract]; omega)
            have s3 : (9223372036854775807 < NM.size + 1 + (J.extract 2 J.size).size + 1) = False := eq_false (by rw [ByteArray.size_extract]; omega)
            have s4 : (9223372036854775807 < NM.size + 1 + (J.size - 2)) = False := eq_false (by omega)
            have s5 : (9223372036854775807 < NM.size + 1 + (J.size - 2) + 1) = False := eq_false (by omega)
            have hR := Lib.hid hR0
            have cjH := Lib.hid cj
            clear hT hsl hoq hBq hJs hne hR0 cj hJe hJx hJ2 hJz
            go_wp2_with fail
            (with_reducible refine cjH.out.mono ?_)
            rintro e w9 ⟨rfl, rfl⟩
            go_wp2_with fail
            go_ret
            exact ⟨congrArg (fun b => Ending.returned (.string b)) hR.out, hBH.out⟩
        · have cj := rjoined_any aL cL L ⟨#[32]⟩ wr hT (by decide)
          have hJ := hJs [32] (by decide)
          have hR0 : (((⟨#[91]⟩ : ByteArray) ++ NM) ++ toB (Lib.joinTail [32] L)) ++ ⟨#[93]⟩ = toB (txt 3 s u) := by
            rw [htxH.out, ← hNMH.out]
            have : comb 3 s (n : Int) L = [91] ++ nmL s (n : Int) ++ Lib.joinTail [32] L ++ [93] := by
              unfold comb
              rw [if_neg (by decide), if_neg (by decide), if_neg hne]
              simp
            rw [this, ← toB_append, ← toB_append, ← toB_append]; rfl
          obtain ⟨J, hJe⟩ : ∃ J, toB (Lib.joinTail [32] L) = J := ⟨_, rfl⟩
          rw [show (⟨#[32]⟩ : ByteArray).data.toList = [32] from rfl, hJe] at cj
          rw [hJe] at hJ hR0
          have s1 : (9223372036854775807 < 1 + NM.size) = False := eq_false (by omega)
          have s2 : (9223372036854775807 < 1 + NM.size + J.size) = False := eq_false (by omega)
          have s3 : (9223372036854775807 < 1 + NM.size + J.size + 1) = False := eq_false (by omega)
          have hR := Lib.hid hR0
          have cjH := Lib.hid cj
          clear hT hsl hoq hBq hJs hne hR0 cj hJe
          go_wp2_with fail
          (with_reducible refine cjH.out.mono ?_)
          rintro e w9 ⟨rfl, rfl⟩
          go_wp2_with fail
          go_ret
          exact ⟨congrArg (fun b => Ending.returned (.string b)) hR.out, hBH.out⟩
set_option maxHeartbeats 1000000 in
theorem rTWrite_any {S1 S2 : Nat → Prop} (a1 a2 : Option Addr) (c1 c2 : Nat) (s : Sg) (k : Int) (t : List Int) (w : World) (h1 : Sign S1 w a1 c1 s) (h2 : Ints S2 w a2 c2 t) :
    Calls Tryd.prog 10 #[.slice a1 s.length c1, .int .i64 k, .slice a2 t.length c2] w fun e w' => e = .returned (.tuple #[.string (toB (writeE s k t).1), .int .i64 (writeE s k t).2]) ∧ Below w.heap.size w w' := by
  have m1 := h1.le
  have m2 := h2.le
  have v1 := Lib.hid (rValid_any a1 a2 c1 c2 s t w h1 h2)
  cases hx : okT s t with
  | false =>
    rw [hx] at v1
    have hR := Lib.hid (show writeE s k t = ([], 1) by rw [writeE, if_neg (by simp [hx])])
    clear h1 h2 hx
    go_enter Tryd.func10, Tryd.ntmps10
    go_wp2_with fail
    refine v1.out.mono ?_
    rintro e w1 ⟨rfl, hd1⟩
    have hb1 : Below w.heap.size w w1 := hd1.below _
    clear hd1
    go_wp2_with fail
    go_ret2
    rw [hR.out]
    exact ⟨rfl, hb1⟩
  | true =>
  rw [hx] at v1
  have v2 := Lib.hid (fun W => rtongues_any k W)
  cases hm : (decide (1 ≤ k) && decide (k ≤ 3)) with
  | false =>
    rw [hm] at v2
    have hR := Lib.hid (show writeE s k t = ([], 7) by rw [writeE, if_pos hx, if_neg (by simp [hm])])
    clear h1 h2 hx hm
    go_enter Tryd.func10, Tryd.ntmps10
    go_wp2_with fail
    refine v1.out.mono ?_
    rintro e w1 ⟨rfl, hd1⟩
    have hb1 : Below w.heap.size w w1 := hd1.below _
    clear hd1
    go_wp2_with fail
    refine (v2.out _).mono ?_
    rintro e w2 ⟨rfl, rfl⟩
    go_wp2_with fail
    go_ret2
    rw [hR.out]
    exact ⟨rfl, hb1⟩
  | true =>
  rw [hm] at v2
  have hR0 : writeE s k t = (txt k.toNat s t, 0) := by rw [writeE, if_pos hx, if_pos hm]
  have hR := Lib.hid hR0
  have hk : 1 ≤ k ∧ k ≤ 3 := by simpa using hm
  obtain ⟨hs, -, hl, hsk⟩ := okT_parts hx
  obtain ⟨n, rfl⟩ : ∃ n : Nat, k = (n : Int) := ⟨k.toNat, by omega⟩
  have hpt : partAt s (t.drop 0) = t := by
    rw [List.drop_zero]; unfold partAt; rw [hsk]; simp
  have cw := Lib.hid (fun W (hb : Below w.heap.size w W) => (show Calls Tryd.prog 28 #[.slice a1 s.length c1, .int .i64 n, .slice a2 t.length c2, .int .i64 0] W (toldRet W (txt n s t)) by
    have := rtold_any n (by omega) a1 a2 c1 c2 s t hs hl t.length 0 [] W (Nat.sub_le _ _) hsk (h1.below hb) (h2.below hb)
    rw [hpt] at this
    exact this))
  clear h1 h2 hx hm hk hs hl hsk hpt hR0
  go_enter Tryd.func10, Tryd.ntmps10
  go_wp2_with fail
  refine v1.out.mono ?_
  rintro e w1 ⟨rfl, hd1⟩
  have hb1 : Below w.heap.size w w1 := hd1.below _
  clear hd1
  have hb1H := Lib.hid hb1
  clear hb1
  go_wp2_with fail
  refine (v2.out _).mono ?_
  rintro e w2 ⟨rfl, rfl⟩
  go_wp2_with fail
  (with_reducible refine (cw.out _ hb1H.out).mono ?_)
  rintro e w3 ⟨rfl, hb3⟩
  go_wp2_with fail
  go_ret2
  rw [hR.out]
  exact ⟨rfl, bcall hb1H.out hb3⟩
end Go.Proofs.YtnhaoalcpbefoaaDoor
