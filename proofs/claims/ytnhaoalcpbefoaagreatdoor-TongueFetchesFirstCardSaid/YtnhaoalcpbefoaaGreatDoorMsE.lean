/- The proof of a statement, some of its texts joined in build order: part E. -/
import Derived.Test.YtnhaoalcpbefoaaGreatDoorMsD
import Derived.Test.YtnhaoalcpbefoaaGreatDoorWalkL
import Derived.Deep.CutRange
import Derived.BigRegion
/- Walks: lemmaryref03.carried, Carry, Carried. -/
namespace Go.Proofs.YtnhaoalcpbefoaaGreatDoor
open Go Go.RowKit Go.Maps

theorem WyBox.f0 {w : World} {b : Nat} {T : Int} {v : Value} (h : WyBox w b T v) : w.frozen? ⟨b, 0, none⟩ = false := by simp [World.frozen?, show w.heap[b]? = _ from h]
theorem WyBox.later {w w' : World} {b : Nat} {T : Int} {v : Value} (h : WyBox w b T v) (hb : Below w.heap.size w w') : WyBox w' b T v := (hb.block b h.lt).trans h
theorem WyBox.set2 {w : World} {b : Nat} {T T' : Int} {v v' : Value} (h : WyBox w b T v) : WyBox ((w.setCell ⟨b, 0, none⟩ (.int .i64 T')).setCell ⟨b, 1, none⟩ v') b T' v' := by
  have h1 : WyBox (w.setCell ⟨b, 0, none⟩ (.int .i64 T')) b T' v := by
    unfold WyBox
    simp [World.setCell, Array.getElem?_modify, show w.heap[b]? = _ from h]
  exact h1.set v'
theorem rc_endA {w w2 : World} {T : Int} {v : Value} {aP : Option Addr} {cP : Nat} {P : List Int} (hb : Below (w.alloc (.cells #[.int .i64 0, .slice none 0 0] 69)).drew.heap.size (w.alloc (.cells #[.int .i64 0, .slice none 0 0] 69)).drew w2) (hI : Ints (fun b => (w.alloc (.cells #[.int .i64 0, .slice none 0 0] 69)).drew.heap.size ≤ b) w2 aP cP P) (hz : WyBox w2 w.heap.size 0 (.slice none 0 0)) :
    WyBox ((w2.setCell ⟨w.heap.size, 0, none⟩ (.int .i64 T)).setCell ⟨w.heap.size, 1, none⟩ v) w.heap.size T v ∧ Ints (fun _ => True) ((w2.setCell ⟨w.heap.size, 0, none⟩ (.int .i64 T)).setCell ⟨w.heap.size, 1, none⟩ v) aP cP P ∧ Below w.heap.size w ((w2.setCell ⟨w.heap.size, 0, none⟩ (.int .i64 T)).setCell ⟨w.heap.size, 1, none⟩ v) := by
  have hg := gby_trans' (gby_setTo w2 w.heap.size 0 (.int .i64 T)) (gby_setTo (w2.setCell ⟨w.heap.size, 0, none⟩ (.int .i64 T)) w.heap.size 1 v)
  have hsz : (w.alloc (.cells #[.int .i64 0, .slice none 0 0] 69)).drew.heap.size = w.heap.size + 1 := by simp
  have hb1 : Below w.heap.size w (w.alloc (.cells #[.int .i64 0, .slice none 0 0] 69)).drew := Below.drew (below1 w _)
  refine ⟨hz.set2, (hI.same (.of_grown hg (fun b hb e => by injection e with e; omega))).any, (bcall hb1 hb).grown hg (Nat.le_of_lt hz.lt) (fun k e => by injection e with e; omega)⟩
theorem rc_endB {w w2 : World} {T : Int} {v : Value} {aP : Option Addr} {cP : Nat} {P : List Int} (hb : Below w.drew.heap.size w.drew w2) (hI : Ints (fun b => w.drew.heap.size ≤ b) w2 aP cP P) :
    WyBox (w2.alloc (.cells #[.int .i64 T, v] 69)) w2.heap.size T v ∧ Ints (fun _ => True) (w2.alloc (.cells #[.int .i64 T, v] 69)) aP cP P ∧ Below w.heap.size w (w2.alloc (.cells #[.int .i64 T, v] 69)) :=
  ⟨.new _ _ _, (hI.below (below1 _ _)).any, bcall (bcall (Below.drew (.refl _ _)) hb) (below1 _ _)⟩
def rcRel (a : Sg) (d : Ways) (t : List Int) (p m : Nat) (T : Int) (L : List Int) (W5 : World) (out i : Value) (wr : World) : Prop :=
  ∃ q : Nat, i = .int .i64 q ∧ q ≤ L.length ∧ OwnI wr W5.heap.size out (T :: ((L.take q).map (fun k => ((splitK a m (t.drop (p + 1))).map (carT a d)).getD k.toNat [])).flatten) ∧ Below W5.heap.size W5 wr
set_option maxRecDepth 20000 in
set_option maxHeartbeats 4000000 in
theorem rcarried_any {S1 S2 S3 : Nat → Prop} (a1 a2 a3 : Option Addr) (c1 c2 c3 : Nat) (a b : Sg) (d : Ways) (t : List Int) (hv : validD a b d = true) (hl : t.length ≤ 60) :
    ∀ (N p : Nat) (r : List Int) (w : World), t.length - p ≤ N → skip a 1 (t.drop p) = some r → Sign S1 w a1 c1 a → WaysL S3 w a3 c3 d → Ints S2 w a2 c2 t →
      Calls Tryz.prog 91 #[.slice a1 a.length c1, .slice a3 d.length c3, .slice a2 t.length c2, .int .i64 p] w (retOwn w (carT a d (partAt a (t.drop p)))) := by
  intro N
  induction N with
  | zero =>
    intro p r w hN h
    obtain ⟨hp, -, -⟩ := skip_drop (k := 0) h
    omega
  | succ N ih =>
  intro p r w hN hsk h1 h3 h2
  obtain ⟨hok, -, hdl, -⟩ := validD_parts hv
  have m1 := h1.le
  have m2 := h2.le
  have m3 := h3.le
  obtain ⟨hp, hc, hss⟩ := skip_drop (k := 0) hsk
  obtain ⟨b2, o2, ha2, -, q2, r2⟩ := h2.int p hp
  by_cases hn : t[p] < 0
  · rw [part_neg hsk hp hn, carT_neg hn]
    subst ha2
    obtain ⟨x, hx⟩ : ∃ x, t[p] = x := ⟨_, rfl⟩
    rw [hx] at q2 hn r2 ⊢
    have hdv : decide (x < 0) = true := by simpa using hn
    have hlit := Lib.hid (OwnL.lit (S := fun _ => False) w [x] 3 (by intro y hy; rw [List.mem_singleton] at hy; rw [hy]; exact r2) (by show 1 ≤ maxLen; decide))
    clear hsk hc hss hx ih h1 h2 h3 hn hv
    go_enter Tryz.func91, Tryz.ntmps91
    go_wp2_with fail
    go_ret
    exact ⟨_, rfl, hlit.out, below1 w _⟩
  rw [Nat.zero_add] at hss
  have hArg := fun W (hb : Below w.heap.size w W) => rArguments_any a1 a2 c1 c2 a t p r W (h1.below hb) (h2.below hb) hok hsk hl
  obtain ⟨g1, -, -, -⟩ := part_args hsk
  have hpos := posK_at a t
  rw [List.getD_eq_getElem?_getD, List.getElem?_eq_getElem hp, Option.getD_some] at g1
  have hgp : t.getD p 0 = t[p] := by rw [List.getD_eq_getElem?_getD, List.getElem?_eq_getElem hp]; rfl
  simp only [hgp] at hArg
  obtain ⟨pr1, pr2, pr3⟩ := part_rest hsk (by omega)
  have hpe := partAt_eq hsk
  obtain ⟨u, hu⟩ : ∃ u, partAt a (t.drop p) = u := ⟨_, rfl⟩
  rw [hu] at g1 pr1 pr2 pr3 hpe ⊢
  have huok : okT a u = true := okT_of_skip hok hpe.2.1 (by omega)
  have hhead : u.headD 0 = t[p] := by
    have h1 := hpe.1
    rw [List.drop_eq_getElem_cons hp] at h1
    cases hu2 : u with
    | nil => rw [hu2] at pr3; simp at pr3
    | cons y z => rw [hu2, List.cons_append] at h1; rw [List.headD_cons]; exact (List.cons.inj h1).1.symm
  obtain ⟨x, hx⟩ : ∃ x, t[p] = x := ⟨_, rfl⟩
  rw [hx] at q2 hn hc hss g1 hhead
  simp only [hx] at hArg
  obtain ⟨n, rfl⟩ : ∃ n : Nat, x = (n : Int) := ⟨x.toNat, by omega⟩
  have hns : n < a.length := by
    simp only [codeOk, Bool.or_eq_true, decide_eq_true_eq] at hc
    omega
  have har3 := (arC_ok hok hc).2
  have harA : (ar a (n : Int) : Int) = arAt a (n : Int) := (ar_at hok (by omega) (by omega)).1
  obtain ⟨m, hm⟩ : ∃ m, ar a (n : Int) = m := ⟨_, rfl⟩
  rw [hm] at hss g1 har3 harA
  simp only [hm] at hArg
  have hpos2 := hpos m (p + 1) r (by omega) hss
  have hplen := posK_length a t.length m (t.drop (p + 1))
  have hprg : ∀ y ∈ posK a t.length m (t.drop (p + 1)), inRange y := fun y hy => by
    obtain ⟨j, hj, rfl⟩ := List.getElem_of_mem hy
    obtain ⟨z, rest, e1, e2, e3, e4⟩ := hpos2 j (by omega)
    rw [List.getElem?_eq_getElem hj] at e1
    obtain ⟨f1, -, -⟩ := skip_drop (k := 0) e2
    rw [Option.some.inj e1]
    unfold inRange; omega
  have hnd : n < d.length := by omega
  have hdn : d.getD n (0, []) = d[n] := by rw [List.getD_eq_getElem?_getD, List.getElem?_eq_getElem hnd]; rfl
  obtain ⟨w1, w2, w3, w4, w5⟩ := validD_way hv (n := (n : Int)) (by omega) (by omega)
  rw [Int.toNat_natCast, hdn] at w1 w2 w3 w4 w5
  have htx : carT a d u = d[n].1 :: (d[n].2.map (fun k => ((splitK a m (t.drop (p + 1))).map (carT a d)).getD k.toNat [])).flatten := by
    rw [carT_node huok (by rw [hhead]; omega), hhead, g1]
    unfold carA
    rw [Int.toNat_natCast, hdn]
  have hspl : (splitK a m (t.drop (p + 1))).length = m := by
    obtain ⟨f1, -, -⟩ := argsT_spec huok
    rw [g1] at f1; rw [f1, hhead, hm]
  have hlen60 : ∀ y ∈ (splitK a m (t.drop (p + 1))).map (carT a d), y.length ≤ 60 := fun y hy => by
    obtain ⟨f1, f2, f3⟩ := argsT_spec huok
    rw [g1] at f1 f2 f3
    obtain ⟨z, hz, rfl⟩ := List.mem_map.1 hy
    rw [(carT_ok hv z.length (f3 z hz) (Nat.le_refl _)).2]
    exact (okT_parts (f3 z hz)).2.2.1
  have hLr : ∀ k ∈ d[n].2, 0 ≤ k ∧ k < m := fun k hk => by
    have := mem_ascL.1 (w5.mem_iff.1 hk)
    omega
  obtain ⟨bD, oD, aL, cL, rfl, -, t0, t1, rT, hL⟩ := h3.way n hnd
  obtain ⟨y, hy⟩ : ∃ y, d[n] = y := ⟨_, rfl⟩
  rw [hy] at t0 t1 rT hL htx hLr w4
  obtain ⟨T, L⟩ := y
  dsimp only at t0 t1 rT hL htx hLr w4
  have hLm : L.length = m := by omega
  obtain ⟨P, hP⟩ : ∃ P, posK a t.length m (t.drop (p + 1)) = P := ⟨_, rfl⟩
  rw [hP] at hpos2 hplen hprg
  simp only [hP] at hArg
  have hrec := fun (W : World) (hb : Below w.heap.size w W) p' r' (hpp : p < p') (hs : skip a 1 (t.drop p') = some r') => ih p' r' W (by omega) hs (h1.below hb) (h3.below hb) (h2.below hb)
  have hLH := Lib.hid (fun (W : World) (hb : Below w.heap.size w W) => hL.below hb)
  have hArgH := Lib.hid hArg
  have hrecH := Lib.hid hrec
  have hposH := Lib.hid hpos2
  have htxH := Lib.hid htx
  have h60H := Lib.hid hlen60
  have hLrH := Lib.hid hLr
  have hLmH := Lib.hid hLm
  have hplH := Lib.hid hplen
  have hsplH := Lib.hid hspl
  have hdv : decide ((n : Int) < 0) = false := by simp
  have m4 := hL.le
  have mj : L.length ≤ 3 := by omega
  subst ha2
  clear hsk hc hss hx ih h1 h2 h3 hn hv hArg g1 hpos hgp pr1 pr2 pr3 hpe hu huok hhead hm har3 harA hpos2 hplen hprg hdn w1 w2 w3 w4 w5 htx hspl hlen60 hLr hL hy hLm hP hrec r2
  have hd0 : Below w.heap.size w w.drew := Below.drew (.refl _ _)
  have q2d : w.drew.cell? ⟨b2, o2 + p, none⟩ = some (.int .i64 (n : Int)) := cell_later hd0 q2
  have t0d : w.drew.cell? ⟨bD, oD + n * 2, none⟩ = some (.int .i64 T) := cell_later hd0 t0
  have t1d : w.drew.cell? ⟨bD, oD + n * 2 + 1, none⟩ = some (.slice aL L.length cL) := cell_later hd0 t1
  have bz := below1 w (.cells #[.int .i64 0, .slice none 0 0] 69)
  have q2a := cell_later bz q2
  have t0a := cell_later bz t0
  have t1a := cell_later bz t1
  clear hdl
  go_enter Tryz.func91, Tryz.ntmps91
  go_upto_region 3 with fail
  go_cut [9, 10] from 23 to 33 (fun s9 s10 wx => ∃ (bx : Nat) (aP : Option Addr) (cP : Nat), s9 = .pointer (some ⟨bx, 0, none⟩) ∧ s10 = .slice aP P.length cP ∧ WyBox wx bx T (.slice aL L.length cL) ∧ Ints (fun _ => True) wx aP cP P ∧ Below w.heap.size w wx)
  case first =>
    go_region_with ((go_at_call 100; (with_reducible refine (hArgH.out _ ?_).mono ?_); (first | exact hd0 | exact bcall hd0 (below1 _ _)); rintro e w2 ⟨v2, rfl, ho2, hb2⟩; (try (have zz : WyBox w2 w.heap.size 0 (.slice none 0 0) := (WyBox.new w.drew 0 (.slice none 0 0)).later hb2; have z0 := zz.c0; have z1 := zz.c1; have y0 := zz.f0; have y1 := zz.f1)); obtain ⟨aP, cP, rfl, hI2⟩ := OwnI.ints ho2; (try (have q2w := cell_later hb2 q2d; have t0w := cell_later hb2 t0d; have t1w := cell_later hb2 t1d)); (try (have b1w := below1 w.drew (.cells #[.int .i64 0, .slice none 0 0] 69); have q2w := cell_later hb2 (cell_later b1w q2d); have t0w := cell_later hb2 (cell_later b1w t0d); have t1w := cell_later hb2 (cell_later b1w t1d))); have b3w := below1 w2 (.cells #[.int .i64 0, .slice none 0 0] 69); have q2x := cell_later b3w q2w; have t0x := cell_later b3w t0w; have t1x := cell_later b3w t1w))
    all_goals go_simp
    all_goals go_wp2_with fail
    all_goals go_meet
    all_goals first
      | exact ⟨_, _, _, rfl, rfl, rc_endB hb2 hI2⟩
      | exact ⟨_, _, _, rfl, rfl, rc_endA hb2 hI2 zz⟩
  case rest =>
    obtain ⟨bx, aP, cP, rfl, rfl, hbx, hP, hBx⟩ := hcut
    have c0 := hbx.c0
    have c1 := hbx.c1
    obtain ⟨W6, hW6⟩ : ∃ W6, wc.alloc (.cells #[.int .i64 T] 3) = W6 := ⟨_, rfl⟩
    have hb6 : Below wc.heap.size wc W6 := by rw [← hW6]; exact below1 _ _
    have hlit : OwnI W6 wc.heap.size (.slice (some ⟨wc.heap.size, 0, none⟩) 1 1) [T] := by rw [← hW6]; exact OwnL.lit wc [T] 3 (by intro y hy; rw [List.mem_singleton] at hy; rw [hy]; exact rT) (by show 1 ≤ maxLen; decide)
    have c06 := cell_later hb6 c0
    have c1L := Lib.hid (fun (W : World) (hb : Below wc.heap.size wc W) => cell_later hb c1)
    have hPH := Lib.hid (fun (W : World) (hb : Below wc.heap.size wc W) => hP.below hb)
    have hBxH := Lib.hid hBx
    have hb6H := Lib.hid hb6
    have hlitH := Lib.hid hlit
    clear hbx hP hBx hb6 hlit q2 q2d t0d t1d bz q2a t0a t1a t0 t1 hd0
    go_wp2_with fail
    clear hW6 c0 c1 c06
    go_loopw [11, 12] (fun out i wr => rcRel a d t p m T L wc out i wr) (fun _ i _ => L.length - (intOf i).toNat)
    case atStart => exact ⟨0, rfl, Nat.zero_le _, hlitH.out, hb6H.out⟩
    case round =>
      obtain ⟨q, rfl, hq, hoq, hBq⟩ := hrel
      have c1q := c1L.out _ hBq
      by_cases hlt : q < L.length
      · obtain ⟨w7, hw7⟩ : ∃ w7, w7 = wr := ⟨_, rfl⟩
        subst hw7
        have hBB := bcall hBxH.out hBq
        obtain ⟨bL, oL, rfl, -, y1, -⟩ := (hLH.out _ hBB).int q hlt
        obtain ⟨g0, g1⟩ := hLrH.out _ (List.getElem_mem hlt)
        have htk : (L.take (q + 1)).map (fun k => ((splitK a m (t.drop (p + 1))).map (carT a d)).getD k.toNat []) = (L.take q).map (fun k => ((splitK a m (t.drop (p + 1))).map (carT a d)).getD k.toNat []) ++ [((splitK a m (t.drop (p + 1))).map (carT a d)).getD (L[q]).toNat []] := by
          rw [List.take_succ_eq_append_getElem hlt, List.map_append]; rfl
        obtain ⟨x, hx⟩ : ∃ x, L[q] = x := ⟨_, rfl⟩
        rw [hx] at y1 g0 g1 htk
        obtain ⟨i, rfl⟩ : ∃ i : Nat, x = (i : Int) := ⟨x.toNat, by omega⟩
        rw [Int.toNat_natCast] at htk
        have him : i < m := by omega
        have hiP : i < P.length := by have := hplH.out; omega
        obtain ⟨z, rest, e1, e2, e3, e4⟩ := hposH.out i him
        obtain ⟨bP, oP, rfl, -, y2, -⟩ := (hPH.out _ hBq).int i hiP
        rw [List.getElem?_eq_getElem hiP] at e1
        rw [Option.some.inj e1] at y2
        have hcall := hrecH.out _ hBB z rest (by omega) e2
        have hgd2 : ((splitK a m (t.drop (p + 1))).map (carT a d)).getD i [] = carT a d (partAt a (t.drop z)) := by
          rw [List.getD_eq_getElem?_getD, List.getElem?_map, e3]; rfl
        have hX60 : (carT a d (partAt a (t.drop z))).length ≤ 60 := h60H.out _ (List.mem_map.2 ⟨_, List.mem_of_getElem? e3, rfl⟩)
        rw [hgd2] at htk
        have hfl : ((L.take q).map (fun k => ((splitK a m (t.drop (p + 1))).map (carT a d)).getD k.toNat [])).flatten.length ≤ 180 := by
          have := flat_le (A := (L.take q).map (fun k => ((splitK a m (t.drop (p + 1))).map (carT a d)).getD k.toNat [])) (n := 60) (fun u hu => by
            obtain ⟨k, -, rfl⟩ := List.mem_map.1 hu
            by_cases hk : k.toNat < ((splitK a m (t.drop (p + 1))).map (carT a d)).length
            · rw [List.getD_eq_getElem?_getD, List.getElem?_eq_getElem hk]; exact h60H.out _ (List.getElem_mem hk)
            · rw [List.getD_eq_getElem?_getD, List.getElem?_eq_none (by omega)]; simp)
          rw [List.length_map, List.length_take] at this
          omega
        obtain ⟨Y, hY⟩ : ∃ Y, carT a d (partAt a (t.drop z)) = Y := ⟨_, rfl⟩
        rw [hY] at hcall htk hX60
        have happ := fun (W : World) (hb : Below w7.heap.size w7 W) (S9 : Nat → Prop) (aX : Option Addr) (cX : Nat) (hX : Ints S9 W aX cX Y) => OwnI.appU (l' := T :: ((L.take (q + 1)).map (fun k => ((splitK a m (t.drop (p + 1))).map (carT a d)).getD k.toNat [])).flatten) hoq hBq hb hX (by rw [htk, List.flatten_append, List.flatten_cons, List.flatten_nil, List.append_nil]; rfl) (by rw [List.length_cons]; omega) (by omega)
        have happH := Lib.hid happ
        have hcH := Lib.hid hcall
        clear hBB htk hx e1 e2 e3 e4 hcall hgd2 hX60 hfl hY happ hoq hBq
        go_wp2_with (first
          | (go_at_call 91; (with_reducible refine hcH.out.mono ?_); rintro e w8 ⟨v8, rfl, ho8, hb8⟩; obtain ⟨aX, cX, rfl, hX⟩ := OwnI.ints ho8; obtain ⟨v', w', hrun', ho', hB'⟩ := happH.out w8 hb8 _ aX cX hX)
          | (at_builtin; refine wpList_append_run rfl _ _ _ rfl rfl rfl hrun'.out ?_))
        go_roundw
        case rel => exact ⟨q + 1, by go_num, hlt, ho'.out, hB'.out⟩
        case measure => simp [intOf]; omega
      · have hqq : q = L.length := by omega
        subst hqq
        rw [List.take_length] at hoq
        have hoH := Lib.hid hoq
        have hBH := Lib.hid hBq
        clear hoq hBq
        go_wp2_with fail
        go_ret
        exact ⟨_, rfl, by rw [htxH.out]; exact OwnL.baseMono hoH.out hBxH.out.size, bcall hBxH.out hBH.out⟩
theorem rCarry_any {S1 S2 S3 : Nat → Prop} (a1 a2 a3 : Option Addr) (c1 c2 c3 : Nat) (a b : Sg) (d : Ways) (t : List Int) (w : World) (h1 : Sign S1 w a1 c1 a) (h3 : WaysL S3 w a3 c3 d) (h2 : Ints S2 w a2 c2 t) (hv : validD a b d = true) (hok : okT a t = true) :
    Calls Tryz.prog 42 #[.slice a1 a.length c1, .slice a3 d.length c3, .slice a2 t.length c2] w (retOwn w (carT a d t)) := by
  obtain ⟨hs, -, hl, hsk⟩ := okT_parts hok
  have hc := rcarried_any a1 a2 a3 c1 c2 c3 a b d t hv hl t.length 0 [] w (Nat.sub_le _ _) hsk h1 h3 h2
  have hpt : partAt a (t.drop 0) = t := by
    rw [List.drop_zero]; unfold partAt; rw [hsk]; simp
  rw [hpt] at hc
  have hcH := Lib.hid (show Calls Tryz.prog 91 #[.slice a1 a.length c1, .slice a3 d.length c3, .slice a2 t.length c2, .int .i64 0] w (retOwn w (carT a d t)) from hc)
  have m1 := h1.le
  have m2 := h2.le
  have m3 := h3.le
  clear h1 h2 h3 hv hok hc hpt hsk hs
  go_enter Tryz.func42, Tryz.ntmps42
  go_wp2_with fail
  (with_reducible refine hcH.out.mono ?_)
  rintro e w2 ⟨v, rfl, hov, hb2⟩
  go_wp2_with fail
  go_ret
  exact ⟨_, rfl, hov, hb2⟩
set_option maxHeartbeats 1000000 in
theorem rCarried_any {S1 S2 S3 S4 : Nat → Prop} (a1 a2 a3 a4 : Option Addr) (c1 c2 c3 c4 : Nat) (a b : Sg) (d : Ways) (t : List Int) (w : World) (h1 : Sign S1 w a1 c1 a) (h2 : Sign S2 w a2 c2 b) (h3 : WaysL S3 w a3 c3 d) (h4 : Ints S4 w a4 c4 t) :
    Calls Tryz.prog 12 #[.slice a1 a.length c1, .slice a2 b.length c2, .slice a3 d.length c3, .slice a4 t.length c4] w (retIE (crdE a b d t) w) := by
  have m1 := h1.le
  have m2 := h2.le
  have m3 := h3.le
  have m4 := h4.le
  have v1 : Calls _ _ _ _ _ := (rValid3_any a1 a2 a3 c1 c2 c3 a b d w h1 h2 h3).mono (fun e w' h => And.intro h.1 (h.2.below w.heap.size))
  have v2 := fun W (hb : Below w.heap.size w W) => (rValid_any a1 a4 c1 c4 a t W (h1.below hb) (h4.below hb)).mono (fun e w' h => And.intro h.1 (h.2.below W.heap.size))
  unfold crdE
  cases hx : validD a b d with
  | false =>
    rw [hx] at v1
    have v1H := Lib.hid v1
    clear v1 v2 h1 h2 h3 h4 hx
    go_enter Tryz.func12, Tryz.ntmps12
    go_wp2_with fail
    refine v1H.out.mono ?_
    rintro e w1 ⟨rfl, hb1⟩
    go_wp2_with fail
    go_ret2
    exact ⟨_, _, rfl, Sl.empty, hb1⟩
  | true =>
  rw [hx] at v1
  cases hy : okT a t with
  | false =>
    simp only [hy] at v2
    have v1H := Lib.hid v1
    have v2H := Lib.hid v2
    clear v1 v2 h1 h2 h3 h4 hx hy
    go_enter Tryz.func12, Tryz.ntmps12
    go_wp2_with fail
    refine v1H.out.mono ?_
    rintro e w1 ⟨rfl, hb1⟩
    go_wp2_with fail
    refine (v2H.out _ hb1).mono ?_
    rintro e w2 ⟨rfl, hb2⟩
    go_wp2_with fail
    go_ret2
    exact ⟨_, _, rfl, Sl.empty, bcall hb1 hb2⟩
  | true =>
  simp only [hy] at v2
  have v1H := Lib.hid v1
  have v2H := Lib.hid v2
  have v3 := fun W (hb : Below w.heap.size w W) => rCarry_any a1 a4 a3 c1 c4 c3 a b d t W (h1.below hb) (h3.below hb) (h4.below hb) hx hy
  rw [show (true && true) = true from rfl, if_pos rfl]
  obtain ⟨R, hR⟩ : ∃ R, carT a d t = R := ⟨_, rfl⟩
  simp only [hR] at v3 ⊢
  have v3H := Lib.hid v3
  clear v1 v2 v3 h1 h2 h3 h4 hx hy hR
  go_enter Tryz.func12, Tryz.ntmps12
  go_wp2_with fail
  refine v1H.out.mono ?_
  rintro e w1 ⟨rfl, hb1⟩
  go_wp2_with fail
  refine (v2H.out _ hb1).mono ?_
  rintro e w2 ⟨rfl, hb2⟩
  have hB2 := bcall hb1 hb2
  go_wp2_with fail
  refine (v3H.out _ hB2).mono ?_
  rintro e w3 ⟨v3, rfl, ho3, hb3⟩
  obtain ⟨aZ, cZ, rfl, hI⟩ := OwnI.ints ho3
  go_wp2_with fail
  go_ret2
  exact ⟨_, _, rfl, hI.weak (fun b hb => Nat.le_trans hB2.size hb), bcall hB2 hb3⟩
end Go.Proofs.YtnhaoalcpbefoaaGreatDoor
