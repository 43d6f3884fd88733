/- The proof of a statement, some of its texts joined in build order: part V. -/
import Derived.Test.YtgkddhakhapjlaaDoorMsA
/- Walks: lemmaryref04.Untree. -/
namespace Go.Proofs.YtgkddhakhapjlaaDoor
open Go Go.RowKit Go.Maps Go.WideMaps

def opR : List (Option Nat) → List Int
  | [] => []
  | none :: st => opR st ++ [-1]
  | some m :: st => opR st ++ [(m : Int)]
theorem opR_len : ∀ st : List (Option Nat), (opR st).length = st.length
  | [] => rfl
  | none :: st => by rw [opR, List.length_append, opR_len st]; rfl
  | some _ :: st => by rw [opR, List.length_append, opR_len st]; rfl
/-- what Untree of the reference keeps: the steps (vP), where they stand (the map in block B), what is open (vO) -/
structure Vm (B : Nat) (W : World) (q p : List Stp) (op : List Int) (vP vO : Value) : Prop where
  p : OwnSt W (B + 1) vP p
  m : VMap KSt W B q.length (atF q)
  o : OwnI W (B + 1) vO op
  sz : B + 1 ≤ W.heap.size
section
variable {B : Nat} {W W' : World} {q p : List Stp} {op : List Int} {vP vO : Value}
theorem Vm.below (h : Vm B W q p op vP vO) (hb : Below W.heap.size W W') : Vm B W' q p op vP vO := ⟨OwnL.call h.p hb, h.m.below hb h.m.lt, OwnL.call h.o hb, Nat.le_trans h.sz hb.size⟩
theorem Vm.pushO (h : Vm B W q p op vP vO) (x : Int) (hx : inRange x) (hl : op.length ≤ 1000000) :
    ∃ v' W', RowKit.Hid ((Builtin.append_ #[34, 34] 34 #[vO, .slice (some ⟨W.heap.size, 0, none⟩) 1 1]).run Tryd.prog (W.alloc (.cells #[.int .i64 x] 3)) = .ok v' W') ∧ RowKit.Hid (Vm B W' q p (op ++ [x]) vP v') ∧ RowKit.Hid (Below B W W') := by
  obtain ⟨v', W', hrun, ho, hg, -⟩ := OwnL.push (P := Tryd.prog) (t := 34) (ty := 34) h.o Tryd.underlying34 infoInt rfl (vs := [.int .i64 x]) (x := x) ⟨rfl, hx⟩ (by omega) (by unfold big; omega) h.sz
  have hv := fun k hk => (OwnL.lt h.o k hk).1
  have t1 := own_types h.p h.o (by decide)
  have keep : ∀ k, k < W.heap.size → vO.ownBlock ≠ some k → W'.heap[k]? = W.heap[k]? := fun k hk hr => hg.block k hk (fun e => hr e.symm)
  exact ⟨v', W', Lib.hid hrun, Lib.hid ⟨OwnL.kept h.p (fun k hk => keep k (OwnL.lt h.p k hk).2 (t1 k hk)) (fun b hb _ => hb.1.elim), h.m.same (keep _ h.m.lt (fun e => by have := hv _ e; omega)), ho, Nat.le_trans h.sz hg.size⟩, Lib.hid ((Below.refl B W).grown hg (Nat.le_trans (by omega) h.sz) (fun k e => Nat.le_trans (by omega) (hv k e)))⟩
theorem Vm.store (h : Vm B W p p op vP vO) (x : StK) (hx : x.1 ∉ p) (hl : p.length ≤ 1000000) :
    ∃ W', RowKit.Hid ((Instr.mapUpdate 81 (.map (some B)) (stpV x.1) (.int .i64 (p.length : Nat))).run Tryd.prog W = .ok () W') ∧ RowKit.Hid (Vm B W' (p ++ [x.1]) p op vP vO) ∧ RowKit.Hid (W.grownBy W' (some B)) := by
  obtain ⟨W', hrun, hm, hg⟩ := h.m.store (tm := 81) Tryd.underlying81 (by unfold maxLen; omega) x trivial (.int .i64 (p.length : Nat))
  have hn : atF p x = none := by unfold atF; rw [if_neg hx]
  rw [hn, atF_new hx] at hm
  simp only [Option.isSome_none, Bool.false_eq_true, if_false] at hm
  exact ⟨W', Lib.hid hrun, Lib.hid ⟨OwnL.grown h.p hg (fun k hk e => by have := (OwnL.lt h.p k hk).1; injection e with e; omega) (fun b hb _ => hb.elim), by rw [List.length_append, List.length_singleton]; exact hm, OwnL.grown h.o hg (fun k hk e => by have := (OwnL.lt h.o k hk).1; injection e with e; omega) (fun b hb _ => hb.elim), Nat.le_trans h.sz hg.size⟩, Lib.hid hg⟩
theorem Vm.pushP (h : Vm B W q p op vP vO) (x : Stp) (hx : stpR x) (hl : p.length ≤ 1000000) :
    ∃ a' cap W', RowKit.Hid ((Builtin.append_ #[25, 25] 25 #[vP, .slice (some ⟨W.heap.size, 0, none⟩) 1 1]).run Tryd.prog (W.alloc (.cells #[.int .i64 x.1, .int .i64 x.2.1, .int .i64 x.2.2] 69)) = .ok (.slice a' (p.length + 1) cap) W') ∧ RowKit.Hid (Vm B W' q (p ++ [x]) op (.slice a' (p.length + 1) cap) vO) ∧ RowKit.Hid (Below B W W') ∧
      RowKit.Hid (∀ k, k < W.heap.size → vP.ownBlock ≠ some k → W'.heap[k]? = W.heap[k]?) ∧ RowKit.Hid (∀ j, (Value.slice a' (p.length + 1) cap).ownBlock = some j → vP.ownBlock = some j ∨ W.heap.size ≤ j) := by
  obtain ⟨v', W', hrun, ho, hg, hat⟩ := OwnL.push (P := Tryd.prog) (t := 25) (ty := 25) h.p Tryd.underlying25 infoStp rfl (vs := [.int .i64 x.1, .int .i64 x.2.1, .int .i64 x.2.2]) (stp_R hx) (by omega) (by unfold big; omega) h.sz
  obtain ⟨a', cap, rfl, -⟩ := OwnL.sl ho
  rw [List.length_append, List.length_singleton] at hrun ho hat
  have hv := fun k hk => (OwnL.lt h.p k hk).1
  have t1 := own_types h.o h.p (by decide)
  have keep : ∀ k, k < W.heap.size → vP.ownBlock ≠ some k → W'.heap[k]? = W.heap[k]? := fun k hk hr => hg.block k hk (fun e => hr e.symm)
  refine ⟨a', cap, W', Lib.hid hrun, Lib.hid ⟨ho, h.m.same (keep _ h.m.lt (fun e => by have := hv _ e; omega)), OwnL.kept h.o (fun k hk => keep k (OwnL.lt h.o k hk).2 (t1 k hk)) (fun b hb _ => hb.1.elim), Nat.le_trans h.sz hg.size⟩, Lib.hid ((Below.refl B W).grown hg (Nat.le_trans (by omega) h.sz) (fun k e => Nat.le_trans (by omega) (hv k e))), Lib.hid keep, Lib.hid (fun j hj => ?_)⟩
  rcases hat with g | ⟨j', g1, g2⟩
  · rw [g] at hj; exact .inl hj
  · rw [g1] at hj; injection hj with hj; exact .inr (by omega)
theorem Vm.setO {l : List Int} {x0 : Int} (h : Vm B W q p (l ++ [x0]) vP vO) (x : Int) (hx : inRange x) :
    ∃ g cap, vO = .slice (some ⟨g, 0, none⟩) (l.length + 1) cap ∧ l.length + 1 ≤ cap ∧ RowKit.Hid (W.cell? ⟨g, l.length, none⟩ = some (.int .i64 x0)) ∧ RowKit.Hid (W.frozen? ⟨g, l.length, none⟩ = false) ∧
      RowKit.Hid (Vm B (W.setCell ⟨g, l.length, none⟩ (.int .i64 x)) q p (l ++ [x]) vP vO) ∧ RowKit.Hid (Below B W (W.setCell ⟨g, l.length, none⟩ (.int .i64 x))) := by
  have ho := h.o
  obtain ⟨g, cap, hv, hb, hlt⟩ := OwnL.form ho (by simp)
  have hll : (l ++ [x0]).length = l.length + 1 := by simp
  rw [hll] at hv
  subst hv
  obtain ⟨c1, c2⟩ := OwnL.cellInt ho hll.symm l.length (by simp)
  obtain ⟨s1, s2⟩ := OwnL.setInt ho hll.symm l.length x hx
  have hc : l.length + 1 ≤ cap := by obtain ⟨a, c, e, hI⟩ := OwnI.ints ho; simp only [Value.slice.injEq] at e; obtain ⟨-, -, rfl⟩ := e; rw [← hll]; exact hI.cap
  rw [List.getElem_concat_length (by rfl)] at c1
  have hset : (l ++ [x0]).set l.length x = l ++ [x] := by simp
  rw [hset] at s1
  have t1 := own_types h.p ho (by decide)
  have keep : ∀ k, k < W.heap.size → g ≠ k → (W.setCell ⟨g, l.length, none⟩ (.int .i64 x)).heap[k]? = W.heap[k]? := fun k hk hr => s2.block k hk (fun e => hr (by injection e with e; exact e.symm))
  refine ⟨g, cap, rfl, hc, Lib.hid c1, Lib.hid c2, Lib.hid ⟨?_, h.m.same (keep _ h.m.lt (by omega)), s1, Nat.le_trans h.sz s2.size⟩, Lib.hid ?_⟩
  · exact OwnL.kept h.p (fun k hk => keep k (OwnL.lt h.p k hk).2 (fun e => t1 k hk (by rw [← e]; rfl))) (fun b hb _ => hb.1.elim)
  · exact (Below.refl B W).grown s2 (Nat.le_trans (by omega) h.sz) (fun k e => by injection e with e; omega)
theorem Vm.takeO {l : List Int} {x0 : Int} (h : Vm B W q p (l ++ [x0]) vP vO) :
    ∃ g cap, vO = .slice (some ⟨g, 0, none⟩) (l.length + 1) cap ∧ l.length + 1 ≤ cap ∧ RowKit.Hid (W.cell? ⟨g, l.length, none⟩ = some (.int .i64 x0)) ∧ RowKit.Hid (Vm B W q p l vP (.slice (some ⟨g, 0, none⟩) l.length cap)) := by
  have ho := h.o
  obtain ⟨g, cap, hv, hb, hlt⟩ := OwnL.form ho (by simp)
  have hll : (l ++ [x0]).length = l.length + 1 := by simp
  rw [hll] at hv
  subst hv
  obtain ⟨c1, -⟩ := OwnL.cellInt ho hll.symm l.length (by simp)
  rw [List.getElem_concat_length (by rfl)] at c1
  have hc : l.length + 1 ≤ cap := by obtain ⟨a, c, e, hI⟩ := OwnI.ints ho; simp only [Value.slice.injEq] at e; obtain ⟨-, -, rfl⟩ := e; rw [← hll]; exact hI.cap
  have hk := OwnI.takeN ho (k := l.length) hll.symm (by omega)
  rw [List.take_left' (by rfl)] at hk
  exact ⟨g, cap, rfl, hc, Lib.hid c1, Lib.hid ⟨h.p, h.m, hk, h.sz⟩⟩
theorem Vm.look_ok (h : Vm B W q p op vP vO) (x : StK) : (Instr.lookup 81 (.map (some B)) (stpV x.1) true).run Tryd.prog W = .ok (.tuple #[(atF q x).getD (.int .i64 0), .bool (atF q x).isSome]) W := h.m.look_ok (tm := 81) Tryd.underlying81 (zInt W) x trivial
end
theorem stp_cells {W : World} {b : Nat} {x1 x2 x3 : Int} (h : W.heap[b]? = some (.cells #[.int .i64 x1, .int .i64 x2, .int .i64 x3] 69 (0, 0))) : W.cell? ⟨b, 0, none⟩ = some (.int .i64 x1) ∧ W.cell? ⟨b, 1, none⟩ = some (.int .i64 x2) ∧ W.cell? ⟨b, 2, none⟩ = some (.int .i64 x3) := by simp [World.cell?, h]
theorem stp_frozen {W : World} {b : Nat} {x1 x2 x3 : Int} (h : W.heap[b]? = some (.cells #[.int .i64 x1, .int .i64 x2, .int .i64 x3] 69 (0, 0))) : W.frozen? ⟨b, 0, none⟩ = false ∧ W.frozen? ⟨b, 1, none⟩ = false ∧ W.frozen? ⟨b, 2, none⟩ = false := ⟨Lib.frozen_of_heap h 0, Lib.frozen_of_heap h 1, Lib.frozen_of_heap h 2⟩
def stpSet (W : World) (b : Nat) (x1 x2 x3 : Int) : World := ((W.setCell ⟨b, 0, none⟩ (.int .i64 x1)).setCell ⟨b, 1, none⟩ (.int .i64 x2)).setCell ⟨b, 2, none⟩ (.int .i64 x3)
theorem stpSet_eq (W : World) (b : Nat) (x1 x2 x3 : Int) : ((W.setCell ⟨b, 0, none⟩ (.int .i64 x1)).setCell ⟨b, 1, none⟩ (.int .i64 x2)).setCell ⟨b, 2, none⟩ (.int .i64 x3) = stpSet W b x1 x2 x3 := rfl
theorem stp_set {W : World} {b : Nat} {y1 y2 y3 x1 x2 x3 : Int} (h : W.heap[b]? = some (.cells #[.int .i64 y1, .int .i64 y2, .int .i64 y3] 69 (0, 0))) : (stpSet W b x1 x2 x3).heap[b]? = some (.cells #[.int .i64 x1, .int .i64 x2, .int .i64 x3] 69 (0, 0)) := by
  unfold stpSet World.setCell
  simp only [Array.getElem?_modify, if_true, h, Option.map_some]
  rfl
theorem stp_set_ne (W : World) (b k : Nat) (x1 x2 x3 : Int) (h : k ≠ b) : (stpSet W b x1 x2 x3).heap[k]? = W.heap[k]? := by
  unfold stpSet
  rw [Below.heap_setCell _ _ _ _ h, Below.heap_setCell _ _ _ _ h, Below.heap_setCell _ _ _ _ h]
theorem stp_set_below {W : World} {b B : Nat} {y1 y2 y3 x1 x2 x3 : Int} (_ : W.heap[b]? = some (.cells #[.int .i64 y1, .int .i64 y2, .int .i64 y3] 69 (0, 0))) (hb : B ≤ b) : Below B W (stpSet W b x1 x2 x3) :=
  (((Below.refl B W).setCell (p := ⟨b, 0, none⟩) hb _).setCell (p := ⟨b, 1, none⟩) hb _).setCell (p := ⟨b, 2, none⟩) hb _
theorem Vm.stp {B b : Nat} {W : World} {q p : List Stp} {op : List Int} {vP vO : Value} (h : Vm B W q p op vP vO) {y1 y2 y3 : Int} (hX : W.heap[b]? = some (.cells #[.int .i64 y1, .int .i64 y2, .int .i64 y3] 69 (0, 0))) (hb : B + 1 ≤ b) (hne : vP.ownBlock ≠ some b) (x1 x2 x3 : Int) : Vm B (stpSet W b x1 x2 x3) q p op vP vO := by
  have ho : vO.ownBlock ≠ some b := fun e => by
    obtain ⟨c, hc⟩ := OwnL.rowCells h.o b e
    rw [hX] at hc
    simp only [Option.some.injEq, Obj.cells.injEq] at hc
    exact absurd hc.2.1 (by decide)
  refine ⟨OwnL.kept h.p (fun k hk => stp_set_ne _ _ _ _ _ _ (fun e => hne (e ▸ hk))) (fun b hb _ => hb.1.elim), h.m.same (stp_set_ne _ _ _ _ _ _ (by omega)), OwnL.kept h.o (fun k hk => stp_set_ne _ _ _ _ _ _ (fun e => ho (e ▸ hk))) (fun b hb _ => hb.1.elim), ?_⟩
  exact Nat.le_trans h.sz (stp_set_below (B := B) hX (x1 := x1) (x2 := x2) (x3 := x3) (by omega)).size
theorem addP_le (p : List Stp) (x : Stp) : p.length ≤ (addP p x).1.length := by unfold addP; split <;> simp
def untJ (G : Int) (t : ByteArray) (w : World) (vP vO wV iV : Value) (wr : World) : Prop :=
  ∃ (k : Nat) (st : List (Option Nat)) (p : List Stp) (w0 : Option Nat), iV = .int .i64 k ∧ wV = .bool w0.isSome ∧ k ≤ t.size ∧ Jo G st p w0 (t.data.toList.take k) ∧ untR G (t.data.toList.drop k) st p w0 = untR G t.data.toList [] [] none ∧ Vm w.heap.size wr p p (opR st) vP vO ∧ Below w.heap.size w wr
def untD (G : Int) (t : ByteArray) (w : World) (k bx : Nat) (vP vO wV : Value) (wr : World) : Prop :=
  wV = .bool false ∧ ∃ (st : List (Option Nat)) (p : List Stp) (x : Stp), stpR x ∧ Jc G st (addP p x).1 (addP p x).2 k (t.data.toList.take (k + 3)) ∧ untR G (t.data.toList.drop (k + 3)) (closeP st (addP p x).1 (addP p x).2).1 (closeP st (addP p x).1 (addP p x).2).2.1 (closeP st (addP p x).1 (addP p x).2).2.2 = untR G t.data.toList [] [] none ∧
    Vm w.heap.size wr p p (opR st) vP vO ∧ Below w.heap.size w wr ∧ wr.heap[bx]? = some (.cells #[.int .i64 x.1, .int .i64 x.2.1, .int .i64 x.2.2] 69 (0, 0)) ∧ w.heap.size + 1 ≤ bx ∧ vP.ownBlock ≠ some bx
theorem vm_start (w : World) : Vm w.heap.size (w.alloc (.map #[] 0)) [] [] [] (.slice none 0 0) (.slice none 0 0) := by
  have h2 := VMap.made KSt w
  have he : atF [] = fun _ => none := by funext x; unfold atF; simp
  exact ⟨.nil _ _ _ _ _, by rw [he]; exact h2, .nil _ _ _ _ _, by simp⟩
theorem dig_within (b : UInt8) : (decide ((48 : Int) ≤ (b.toNat : Int)) && decide ((b.toNat : Int) ≤ 57)) = isDig b := by
  unfold isDig; rw [Bool.eq_iff_iff]; simp only [Bool.and_eq_true, decide_eq_true_eq]; omega
set_option maxRecDepth 100000 in
set_option maxHeartbeats 8000000 in
theorem rUntree_any (G : Int) (t : ByteArray) (w : World) :
    Calls Tryd.prog 23 #[.int .i64 G, .string t] w (retStE (untE G t) w) := by
  have v1 := isCount_any G w
  by_cases hG : 0 ≤ G ∧ G ≤ 60
  case neg =>
    have hx : (decide (0 ≤ G) && decide (G ≤ 60)) = false := by rw [Bool.eq_false_iff]; simpa using hG
    rw [hx] at v1
    have hrH := Lib.hid (show untE G t = ([], 1) by unfold untE; rw [if_neg hG])
    have v1H := Lib.hid v1
    clear v1 hx hG
    go_enter Tryd.func23, Tryd.ntmps23
    go_wp2_with fail
    refine v1H.out.mono ?_
    rintro e w1 ⟨rfl, rfl⟩
    go_wp2_with fail
    go_ret2
    rw [hrH.out]
    exact ⟨_, rfl, .nil _ _ _ _ _, .refl _ _⟩
  have hx : (decide (0 ≤ G) && decide (G ≤ 60)) = true := by simpa using hG
  rw [hx] at v1
  have v1H := Lib.hid v1
  clear v1 hx
  by_cases hs : t.size ≤ 65536
  case neg =>
    have hs' : (65536 : Int) < (t.size : Int) := by omega
    have hrH := Lib.hid (show untE G t = ([], 3) by unfold untE; rw [if_pos hG, if_neg hs])
    clear hs
    go_enter Tryd.func23, Tryd.ntmps23
    go_wp2_with fail
    refine v1H.out.mono ?_
    rintro e w1 ⟨rfl, rfl⟩
    go_wp2_with fail
    go_ret2
    rw [hrH.out]
    exact ⟨_, rfl, .nil _ _ _ _ _, .refl _ _⟩
  have hs' : ¬ (65536 : Int) < (t.size : Int) := by omega
  have hr : untE G t = untR G t.data.toList [] [] none := by unfold untE; rw [if_pos hG, if_pos hs]
  have hrH := Lib.hid hr
  have hGH := Lib.hid hG
  have hmm := @run_makeMap Tryd.prog
  clear hr hG
  go_enter Tryd.func23, Tryd.ntmps23
  go_wp2_with fail
  refine v1H.out.mono ?_
  rintro e w1 ⟨rfl, rfl⟩
  go_wp2_with fail
  go_loopw [6, 8, 9, 10] (fun vP vO wV iV wr => untJ G t w vP vO wV iV wr) (fun _ _ _ iV _ => t.size - (intOf iV).toNat)
  case atStart => exact ⟨0, [], [], none, rfl, rfl, Nat.zero_le _, by rw [List.take_zero]; exact .start G, by rw [List.drop_zero], vm_start w, below1 w _⟩
  case round =>
    obtain ⟨k, st, p, w0, rfl, rfl, hk, hJ, hR, hU, hB⟩ := hrel
    have holen := opR_len st
    have hst60 : p.length + st.length ≤ 65536 := Nat.le_trans hJ.cnt (Nat.le_trans (take_size_le t k) hs)
    by_cases hlt : k < t.size
    · have hd := drop_cons hlt
      have htk := take_cons hlt
      cases w0 with
      | some kk =>
        rw [hd, untR_over] at hR
        have hrr := hrH.out
        rw [← hR] at hrr
        have hrrH := Lib.hid hrr
        have hBH := Lib.hid hB
        clear hR hU hJ hB hrr hd htk
        simp only [Option.isSome_some]
        --{
        go_wp2_with fail
        all_goals go_ret2
        all_goals rw [hrrH.out]
        all_goals exact ⟨_, rfl, .nil _ _ _ _ _, hBH.out⟩
        --}
      | none =>
        simp only [Option.isSome_none]
        by_cases h68 : t[k] = 68
        · have h68b : (((t[k]'hlt).toNat : Int) == 68) = true := by rw [h68]; rfl
          rw [h68] at hd htk
          rw [hd, untR_D] at hR
          have hJ1 := hJ.d
          rw [← htk] at hJ1
          obtain ⟨v', W', r1, r2, r3⟩ := hU.pushO (-1) (by unfold inRange; omega) (by rw [holen]; omega)
          have rrun := r1.out
          have hrel : untJ G t w u6 v' (.bool false) (.int .i64 ((k : Int) + 1)) W' := ⟨k + 1, none :: st, p, none, by go_num, rfl, by omega, hJ1, hR, r2.out, hB.trans r3.out⟩
          have hrelH := Lib.hid hrel
          clear hR hU hJ hB hd htk hJ1 r1 r2 r3 hrel h68
          --{
          go_wp2_with (at_builtin; refine wpList_append_run rfl _ _ _ rfl rfl rfl rrun ?_)
          all_goals go_roundw
          all_goals first | exact hrelH.out | (simp [intOf]; omega)
          --}
        · have h68b : (((t[k]'hlt).toNat : Int) == 68) = false := by
            rw [beq_eq_false_iff_ne]; intro e; exact h68 (UInt8.toNat_inj.1 (by show t[k].toNat = 68; omega))
          by_cases h103 : t[k] = 103
          case neg =>
            have h103b : (((t[k]'hlt).toNat : Int) != 103) = true := by
              simp only [bne_iff_ne, ne_eq]; intro e; exact h103 (UInt8.toNat_inj.1 (by show t[k].toNat = 103; omega))
            rw [hd, untR_no _ _ _ _ _ h68 h103] at hR
            have hrr := hrH.out
            rw [← hR] at hrr
            have hrrH := Lib.hid hrr
            have hBH := Lib.hid hB
            clear hR hU hJ hB hrr hd htk h103 h68
            --{
            go_wp2_with fail
            all_goals go_ret2
            all_goals rw [hrrH.out]
            all_goals exact ⟨_, rfl, .nil _ _ _ _ _, hBH.out⟩
            --}
          have h103b : (((t[k]'hlt).toNat : Int) != 103) = false := by rw [h103]; rfl
          rw [h103] at hd htk
          have e1 : IntKind.i64.wrap ((k : Int) + 1) = ((k + 1 : Nat) : Int) := by rw [IntWalk.i64_in _ (by omega)]; omega
          have e2 : IntKind.i64.wrap ((k : Int) + 2) = ((k + 2 : Nat) : Int) := by rw [IntWalk.i64_in _ (by omega)]; omega
          have e3 : IntKind.i64.wrap ((k : Int) + 3) = ((k + 3 : Nat) : Int) := by rw [IntWalk.i64_in _ (by omega)]; omega
          by_cases h3 : k + 3 ≤ t.size
          case neg =>
            have h3b : (t.size : Int) < ((k + 3 : Nat) : Int) := by omega
            have hres : untR G (t.data.toList.drop k) st p none = ([], 2) := by
              rw [hd]
              have hl : (t.data.toList.drop (k + 1)).length ≤ 1 := by rw [List.length_drop, Array.length_toList]; have : t.size = t.data.size := rfl; omega
              match hm : t.data.toList.drop (k + 1), hl with
              | [], _ => rw [untR_g0]
              | [a], _ => rw [untR_g1]
            rw [hres] at hR
            have hrr := hrH.out
            rw [← hR] at hrr
            have hrrH := Lib.hid hrr
            have hBH := Lib.hid hB
            clear hR hU hJ hB hrr hd htk h103 h68 hres
            --{
            go_wp2_with fail
            all_goals go_ret2
            all_goals rw [hrrH.out]
            all_goals exact ⟨_, rfl, .nil _ _ _ _ _, hBH.out⟩
            --}
          have h4 : k + 1 < t.size := by omega
          have h5 : k + 2 < t.size := by omega
          have hd3 : t.data.toList.drop k = 103 :: t[k + 1] :: t[k + 2] :: t.data.toList.drop (k + 3) := by rw [hd, drop_cons h4, drop_cons h5]
          have ht3 : t.data.toList.take (k + 3) = t.data.toList.take k ++ [103, t[k + 1], t[k + 2]] := by
            rw [take_cons h5, take_cons h4, htk]; simp
          have h3b : ¬ (t.size : Int) < ((k + 3 : Nat) : Int) := by omega
          have u1 := t[k + 1].toNat_lt
          have u2 := t[k + 2].toNat_lt
          have cd1 := fun W => r4within_any (t[k + 1].toNat : Int) 48 57 W
          have cd2 := fun W => r4within_any (t[k + 2].toNat : Int) 48 57 W
          rw [dig_within] at cd1 cd2
          rw [hd3, untR_g] at hR
          have hend : ([], (2 : Int)) = untR G t.data.toList [] [] none → untE G t = ([], 2) := fun h => by rw [hrH.out, ← h]
          have hBH := Lib.hid hB
          cases hx1 : isDig t[k + 1] with
          | false =>
            rw [if_neg (by rw [hx1]; simp)] at hR
            rw [hx1] at cd1
            have hrrH := Lib.hid (hend hR)
            have cd1H := Lib.hid cd1
            clear hR hU hJ hB hd htk h103 h68 hd3 ht3 cd1 cd2 hend hx1
            --{
            go_wp2_with fail
            refine (cd1H.out _).mono ?_
            rintro e w1 ⟨rfl, rfl⟩
            go_wp2_with fail
            go_ret2
            rw [hrrH.out]
            exact ⟨_, rfl, .nil _ _ _ _ _, hBH.out⟩
            --}
          | true =>
            rw [hx1] at cd1
            cases hx2 : isDig t[k + 2] with
            | false =>
              rw [if_neg (by rw [hx2]; simp)] at hR
              rw [hx2] at cd2
              have hrrH := Lib.hid (hend hR)
              have cd1H := Lib.hid cd1
              have cd2H := Lib.hid cd2
              clear hR hU hJ hB hd htk h103 h68 hd3 ht3 cd1 cd2 hend hx1 hx2
              --{
              go_wp2_with fail
              refine (cd1H.out _).mono ?_
              rintro e w1 ⟨rfl, rfl⟩
              go_wp2_with fail
              refine (cd2H.out _).mono ?_
              rintro e w1 ⟨rfl, rfl⟩
              go_wp2_with fail
              go_ret2
              rw [hrrH.out]
              exact ⟨_, rfl, .nil _ _ _ _ _, hBH.out⟩
              --}
            | true =>
              rw [hx2] at cd2
              have hn := numOf_le hx1 hx2
              have hb1 : 48 ≤ t[k + 1].toNat ∧ t[k + 1].toNat ≤ 57 := by simpa only [isDig, Bool.and_eq_true, decide_eq_true_eq] using hx1
              have hb2 : 48 ≤ t[k + 2].toNat ∧ t[k + 2].toNat ≤ 57 := by simpa only [isDig, Bool.and_eq_true, decide_eq_true_eq] using hx2
              have hw8 : ∀ z : Int, 0 ≤ z → z < 256 → IntKind.u8.wrap z = z := fun z h0 h1 => by
                unfold IntKind.wrap
                simp [IntKind.signed, IntKind.bits]
                omega
              have f1 : IntKind.u8.wrap ((t[k + 1].toNat : Int) - 48) = ((t[k + 1].toNat - 48 : Nat) : Int) := by rw [hw8 _ (by omega) (by omega)]; omega
              have f2 : IntKind.u8.wrap ((t[k + 2].toNat : Int) - 48) = ((t[k + 2].toNat - 48 : Nat) : Int) := by rw [hw8 _ (by omega) (by omega)]; omega
              have f3 : IntKind.i64.wrap ((t[k + 1].toNat - 48 : Nat) : Int) = ((t[k + 1].toNat - 48 : Nat) : Int) := IntWalk.i64_in _ (by omega)
              have f4 : IntKind.i64.wrap ((t[k + 2].toNat - 48 : Nat) : Int) = ((t[k + 2].toNat - 48 : Nat) : Int) := IntWalk.i64_in _ (by omega)
              have f5 : IntKind.i64.wrap (10 * ((t[k + 1].toNat - 48 : Nat) : Int)) = ((10 * (t[k + 1].toNat - 48) : Nat) : Int) := by rw [IntWalk.i64_in _ (by omega)]; omega
              have f6 : IntKind.i64.wrap (((10 * (t[k + 1].toNat - 48) : Nat) : Int) + ((t[k + 2].toNat - 48 : Nat) : Int)) = ((numOf t[k + 1] t[k + 2] : Nat) : Int) := by unfold numOf; rw [IntWalk.i64_in _ (by omega)]; omega
              by_cases hnG : (numOf t[k + 1] t[k + 2] : Int) < G
              case neg =>
                rw [if_neg (fun h => hnG h.2.2)] at hR
                have hrrH := Lib.hid (hend hR)
                have cd1H := Lib.hid cd1
                have cd2H := Lib.hid cd2
                have hnGb : (G ≤ (numOf t[k + 1] t[k + 2] : Int)) := by omega
                obtain ⟨N, hN⟩ : ∃ N, numOf t[k + 1] t[k + 2] = N := ⟨_, rfl⟩
                have f7 : 10 * ((t[k + 1].toNat - 48 : Nat) : Int) + ((t[k + 2].toNat - 48 : Nat) : Int) = (N : Int) := by rw [← hN]; unfold numOf; omega
                have f7H := Lib.hid f7
                obtain ⟨W2, hW2⟩ : ∃ W, (wr.alloc (.cells #[.int .i64 1, .int .i64 (N : Int), .int .i64 0] 69)).drew = W := ⟨_, rfl⟩
                have hX : W2.heap[wr.heap.size]? = some (.cells #[.int .i64 1, .int .i64 (N : Int), .int .i64 0] 69 (0, 0)) := by rw [← hW2]; exact World.alloc_heap_new wr _
                obtain ⟨q1, q2, q3⟩ := stp_cells hX
                have hbW : Below wr.heap.size wr W2 := by rw [← hW2]; exact (below1 wr _).drew
                have hbW2 := Lib.hid hbW
                rw [hN] at hnGb
                clear hR hU hJ hB hd htk h103 h68 hd3 ht3 cd1 cd2 hend hx1 hx2 hnG hw8 hX hbW f7
                go_wp2_with fail
                refine (cd1H.out _).mono ?_
                rintro e w1 ⟨rfl, rfl⟩
                go_wp2_with fail
                refine (cd2H.out _).mono ?_
                rintro e w1 ⟨rfl, rfl⟩
                go_wp2_with fail
                go_region
                rw [f7H.out, hW2]
                go_wp2_with fail
                all_goals go_ret2
                all_goals rw [hrrH.out]
                all_goals exact ⟨_, rfl, .nil _ _ _ _ _, bcall hBH.out hbW2.out⟩
              rw [if_pos ⟨hx1, hx2, hnG⟩] at hR
              have hJg := hJ.g hx1 hx2 hnG
              rw [← ht3, List.length_take, Array.length_toList, Nat.min_eq_left (show k ≤ t.data.size from hk)] at hJg
              have hrt : stpR (1, (numOf t[k + 1] t[k + 2] : Int), 0) := ⟨(show inRange (1 : Int) by unfold inRange; omega), (show inRange (numOf t[k + 1] t[k + 2] : Int) by unfold inRange; omega), (show inRange (0 : Int) by unfold inRange; omega)⟩
              obtain ⟨N, hN⟩ : ∃ N, numOf t[k + 1] t[k + 2] = N := ⟨_, rfl⟩
              have f7 : 10 * ((t[k + 1].toNat - 48 : Nat) : Int) + ((t[k + 2].toNat - 48 : Nat) : Int) = (N : Int) := by rw [← hN]; unfold numOf; omega
              have f7H := Lib.hid f7
              rw [hN] at hn hnG hR hJg hrt
              have hnGb : ¬ (G ≤ (N : Int)) := by omega
              obtain ⟨W2, hW2⟩ : ∃ W, (wr.alloc (.cells #[.int .i64 1, .int .i64 (N : Int), .int .i64 0] 69)).drew = W := ⟨_, rfl⟩
              have hX : W2.heap[wr.heap.size]? = some (.cells #[.int .i64 1, .int .i64 (N : Int), .int .i64 0] 69 (0, 0)) := by rw [← hW2]; exact World.alloc_heap_new wr _
              obtain ⟨q1, q2, q3⟩ := stp_cells hX
              have hbW : Below wr.heap.size wr W2 := by rw [← hW2]; exact (below1 wr _).drew
              have hD0 : untD G t w k wr.heap.size u6 u8 (.bool false) W2 := ⟨rfl, st, p, _, hrt, hJg, hR, hU.below hbW, bcall hB hbW, hX, hU.sz, fun e => by have := (OwnL.lt hU.p _ e).2; omega⟩
              have hD0H := Lib.hid hD0
              have cd1H := Lib.hid cd1
              have cd2H := Lib.hid cd2
              clear hR hU hJ hB hd htk h103 h68 hd3 ht3 cd1 cd2 hend hx1 hx2 hnG hw8 hX hbW hD0 hJg hrt hN f7
              go_wp2_with fail
              refine (cd1H.out _).mono ?_
              rintro e w1 ⟨rfl, rfl⟩
              go_wp2_with fail
              refine (cd2H.out _).mono ?_
              rintro e w1 ⟨rfl, rfl⟩
              go_wp2_with fail
              go_region
              rw [f7H.out, hW2]
              obtain ⟨bx, hbxe⟩ : ∃ bx, wr.heap.size = bx := ⟨_, rfl⟩
              rw [hbxe] at hD0H q1 q2 q3 ⊢
              clear hW2 hbxe f1 f2 f3 f4 f5 f6 f7H cd1H cd2H
              go_wp2_with fail
              clear q1 q2 q3
              go_loopw [6, 8, 9] (fun vP vO wV wr => untD G t w k bx vP vO wV wr) (fun _ vO _ _ => lenV vO)
              case atStart => exact hD0H.out
              case round =>
                clear hD0H
                obtain ⟨rfl, st, p, ⟨x1, x2, x3⟩, hx, hJ, hR, hU, hB, hX, hbx, hne⟩ := hrel
                obtain ⟨q1, q2, q3⟩ := stp_cells hX
                have hst60 : (addP p (x1, x2, x3)).1.length + st.length ≤ 65536 := Nat.le_trans hJ.cnt (Nat.le_trans (take_size_le t (k + 3)) hs)
                have hbxl : bx < wr.heap.size := (Array.getElem?_eq_some_iff.1 hX).1
                have hpl := addP_le p (x1, x2, x3)
                obtain ⟨aP, cP, hvP, -⟩ := OwnL.sl hU.p
                subst hvP
                have hl1 := hU.look_ok ⟨(x1, x2, x3), hx⟩
                by_cases hm : (x1, x2, x3) ∈ p
                · have ha : addP p (x1, x2, x3) = (p, p.idxOf (x1, x2, x3)) := if_pos hm
                  rw [atF_old (x := ⟨(x1, x2, x3), hx⟩) hm] at hl1
                  obtain ⟨kk, hkk⟩ : ∃ kk, p.idxOf (x1, x2, x3) = kk := ⟨_, rfl⟩
                  rw [hkk] at ha
                  simp only [Option.getD_some, Option.isSome_some, hkk] at hl1
                  rw [ha] at hJ hR hst60
                  dsimp only at hJ hR hst60
                  have hkl := hJ.kl
                  clear ha hkk hm hpl
                  cases st with
                  | nil =>
                    obtain ⟨a1, c1, hv, -⟩ := OwnI.ints hU.o
                    have hv' : u8 = .slice a1 0 c1 := hv
                    subst hv'
                    have hrel : untJ G t w (.slice aP p.length cP) (.slice a1 0 c1) (.bool true) (.int .i64 ((k + 3 : Nat) : Int)) wr := ⟨k + 3, [], p, some kk, rfl, rfl, by omega, hJ.done, hR, hU, hB⟩
                    have hrelH := Lib.hid hrel
                    clear hrel hJ hR hU hX hB hne hv
                    go_wp2_with fail
                    all_goals go_roundw
                    all_goals first | exact hrelH.out | (simp [intOf]; omega)
                  | cons o st =>
                    rw [List.length_cons] at hst60
                    have hL := opR_len st
                    have eL : IntKind.i64.wrap (((st.length + 1 : Nat) : Int) - 1) = ((st.length : Nat) : Int) := by rw [IntWalk.i64_in _ (by omega)]; omega
                    cases o with
                    | none =>
                      obtain ⟨g, cap, hv, hcp, d1, d2, d3, d4⟩ := Vm.setO (l := opR st) (x0 := -1) hU (kk : Int) (by unfold inRange; omega)
                      rw [hL] at hv hcp d1 d2 d3 d4
                      subst hv
                      have c1 := d1.out
                      have c2 := d2.out
                      have hrel : untJ G t w (.slice aP p.length cP) (.slice (some ⟨g, 0, none⟩) (st.length + 1) cap) (.bool false) (.int .i64 ((k + 3 : Nat) : Int)) (wr.setCell ⟨g, st.length, none⟩ (.int .i64 (kk : Int))) := ⟨k + 3, some kk :: st, p, none, rfl, rfl, by omega, hJ.wait, hR, d3.out, hB.trans d4.out⟩
                      have hrelH := Lib.hid hrel
                      clear hrel hJ hR hU hX hB hne d1 d2 d3 d4 hL
                      go_wp2_with fail
                      all_goals go_roundw
                      all_goals first | exact hrelH.out | (simp [intOf]; omega)
                    | some m =>
                      have hml := hJ.stl m (by simp)
                      have hJc := hJ.close
                      obtain ⟨g, cap, hv, hcp, d1, d2⟩ := Vm.takeO (l := opR st) (x0 := (m : Int)) hU
                      rw [hL] at hv hcp d1 d2
                      subst hv
                      have c1 := d1.out
                      have hX4 := stp_set (x1 := 2) (x2 := (m : Int)) (x3 := (kk : Int)) hX
                      obtain ⟨W4, hW4⟩ : ∃ W, stpSet wr bx 2 (m : Int) (kk : Int) = W := ⟨_, rfl⟩
                      rw [hW4] at hX4
                      have hb4 : Below w.heap.size wr W4 := by rw [← hW4]; exact stp_set_below hX (by omega)
                      have hU4 := d2.out.stp hX hbx hne 2 (m : Int) (kk : Int)
                      rw [hW4] at hU4
                      have hrel : untD G t w k bx (.slice aP p.length cP) (.slice (some ⟨g, 0, none⟩) st.length cap) (.bool false) W4 := ⟨rfl, st, p, (2, (m : Int), (kk : Int)), ⟨(show inRange (2 : Int) by unfold inRange; omega), (show inRange (m : Int) by unfold inRange; omega), (show inRange (kk : Int) by unfold inRange; omega)⟩, hJc, hR, hU4, hB.trans hb4, hX4, hbx, hne⟩
                      have hrelH := Lib.hid hrel
                      have fz := stp_frozen hX
                      obtain ⟨fz1, fz2, fz3⟩ := fz
                      have hlt0 : ¬ ((m : Int) < 0) := by omega
                      clear hrel hJ hR hU hX hB hne d1 d2 hL hU4 hb4 hJc hX4
                      go_wp2_with fail
                      try rw [stpSet_eq, hW4]
                      all_goals first | exact ⟨hrelH.out, by simp only [lenV]; omega⟩ | (go_roundw <;> first | exact hrelH.out | (simp only [lenV]; omega))
                · have ha : addP p (x1, x2, x3) = (p ++ [(x1, x2, x3)], p.length) := if_neg hm
                  have hno : atF p ⟨(x1, x2, x3), hx⟩ = none := by unfold atF; rw [if_neg hm]
                  rw [hno] at hl1
                  simp only [Option.getD_none, Option.isSome_none] at hl1
                  obtain ⟨W1, s1, s2, s3⟩ := hU.store ⟨(x1, x2, x3), hx⟩ hm (by omega)
                  have hU1 := s2.out
                  have hg1 := s3.out
                  have hX1 : W1.heap[bx]? = some (.cells #[.int .i64 x1, .int .i64 x2, .int .i64 x3] 69 (0, 0)) := (hg1.block _ hbxl (fun e => by injection e with e; omega)).trans hX
                  obtain ⟨y1, y2, y3⟩ := stp_cells hX1
                  have hbxl1 : bx < W1.heap.size := (Array.getElem?_eq_some_iff.1 hX1).1
                  obtain ⟨a', cap', W3, t1, t2, t3, t4, t5⟩ := hU1.pushP (x1, x2, x3) hx (by omega)
                  have hU3 := t2.out
                  have hX3 : W3.heap[bx]? = some (.cells #[.int .i64 x1, .int .i64 x2, .int .i64 x3] 69 (0, 0)) := (t4.out _ hbxl1 hne).trans hX1
                  have hB3 : Below w.heap.size w W3 := (hB.grown hg1 hB.size (fun j e => by injection e with e; omega)).trans t3.out
                  have hne3 : (Value.slice a' (p.length + 1) cap').ownBlock ≠ some bx := fun e => by
                    rcases t5.out _ e with h | h
                    · exact hne h
                    · omega
                  obtain ⟨z1, z2, z3⟩ := stp_cells hX3
                  have srun := s1.out
                  have rrun := t1.out
                  rw [ha] at hJ hR hst60
                  dsimp only at hJ hR hst60
                  have hkl : p.length < (p ++ [(x1, x2, x3)]).length := by simp
                  have hpl1 : (p ++ [(x1, x2, x3)]).length = p.length + 1 := by simp
                  clear ha hm hpl hno hU hU1 hB hX hX1 s1 s2 s3 t1 t2 t3 t4 t5
                  cases st with
                  | nil =>
                    obtain ⟨a1, c1, hv, -⟩ := OwnI.ints hU3.o
                    have hv' : u8 = .slice a1 0 c1 := hv
                    subst hv'
                    have hrel : untJ G t w (.slice a' (p.length + 1) cap') (.slice a1 0 c1) (.bool true) (.int .i64 ((k + 3 : Nat) : Int)) W3 := ⟨k + 3, [], (p ++ [(x1, x2, x3)]), some p.length, rfl, rfl, by omega, hJ.done, hR, hU3, hB3⟩
                    have hrelH := Lib.hid hrel
                    clear hrel hJ hR hU3 hX3 hB3 hne3 hpl1 hv
                    go_wp2_with (at_builtin; refine wpList_append_run rfl _ _ _ rfl rfl rfl rrun ?_)
                    all_goals go_roundw
                    all_goals first | exact hrelH.out | (simp [intOf]; omega)
                  | cons o st =>
                    rw [List.length_cons] at hst60
                    have hL := opR_len st
                    have eL : IntKind.i64.wrap (((st.length + 1 : Nat) : Int) - 1) = ((st.length : Nat) : Int) := by rw [IntWalk.i64_in _ (by omega)]; omega
                    cases o with
                    | none =>
                      obtain ⟨g, cap, hv, hcp, d1, d2, d3, d4⟩ := Vm.setO (l := opR st) (x0 := -1) hU3 (p.length : Int) (by unfold inRange; omega)
                      rw [hL] at hv hcp d1 d2 d3 d4
                      subst hv
                      have c1 := d1.out
                      have c2 := d2.out
                      have hrel : untJ G t w (.slice a' (p.length + 1) cap') (.slice (some ⟨g, 0, none⟩) (st.length + 1) cap) (.bool false) (.int .i64 ((k + 3 : Nat) : Int)) (W3.setCell ⟨g, st.length, none⟩ (.int .i64 (p.length : Int))) := ⟨k + 3, some p.length :: st, (p ++ [(x1, x2, x3)]), none, rfl, rfl, by omega, hJ.wait, hR, d3.out, hB3.trans d4.out⟩
                      have hrelH := Lib.hid hrel
                      clear hrel hJ hR hU3 hX3 hB3 hne3 hpl1 d1 d2 d3 d4 hL
                      go_wp2_with (at_builtin; refine wpList_append_run rfl _ _ _ rfl rfl rfl rrun ?_)
                      all_goals go_roundw
                      all_goals first | exact hrelH.out | (simp [intOf]; omega)
                    | some m =>
                      have hml := hJ.stl m (by simp)
                      have hJc := hJ.close
                      obtain ⟨g, cap, hv, hcp, d1, d2⟩ := Vm.takeO (l := opR st) (x0 := (m : Int)) hU3
                      rw [hL] at hv hcp d1 d2
                      subst hv
                      have c1 := d1.out
                      have hX4 := stp_set (x1 := 2) (x2 := (m : Int)) (x3 := (p.length : Int)) hX3
                      obtain ⟨W4, hW4⟩ : ∃ W, stpSet W3 bx 2 (m : Int) (p.length : Int) = W := ⟨_, rfl⟩
                      rw [hW4] at hX4
                      have hb4 : Below w.heap.size W3 W4 := by rw [← hW4]; exact stp_set_below hX3 (by omega)
                      have hU4 := d2.out.stp hX3 hbx hne3 2 (m : Int) (p.length : Int)
                      rw [hW4] at hU4
                      have hrel : untD G t w k bx (.slice a' (p.length + 1) cap') (.slice (some ⟨g, 0, none⟩) st.length cap) (.bool false) W4 := ⟨rfl, st, (p ++ [(x1, x2, x3)]), (2, (m : Int), (p.length : Int)), ⟨(show inRange (2 : Int) by unfold inRange; omega), (show inRange (m : Int) by unfold inRange; omega), (show inRange (p.length : Int) by unfold inRange; omega)⟩, hJc, hR, hU4, hB3.trans hb4, hX4, hbx, hne3⟩
                      have hrelH := Lib.hid hrel
                      have fz := stp_frozen hX3
                      obtain ⟨fz1, fz2, fz3⟩ := fz
                      have hlt0 : ¬ ((m : Int) < 0) := by omega
                      clear hrel hJ hR hU3 hX3 hB3 hne3 hpl1 d1 d2 hL hU4 hb4 hJc hX4
                      go_wp2_with (at_builtin; refine wpList_append_run rfl _ _ _ rfl rfl rfl rrun ?_)
                      try rw [stpSet_eq, hW4]
                      all_goals first | exact ⟨hrelH.out, by simp only [lenV]; omega⟩ | (go_roundw <;> first | exact hrelH.out | (simp only [lenV]; omega))
    · obtain rfl : k = t.size := by omega
      rw [List.drop_of_length_le (by rw [Array.length_toList]; exact Nat.le_refl _)] at hR
      cases w0 with
      | none =>
        rw [untR_short] at hR
        have hrr := hrH.out
        rw [← hR] at hrr
        have hrrH := Lib.hid hrr
        have hBH := Lib.hid hB
        clear hR hU hJ hB hrr
        simp only [Option.isSome_none]
        go_wp2_with fail
        all_goals go_ret2
        all_goals rw [hrrH.out]
        all_goals exact ⟨_, rfl, .nil _ _ _ _ _, hBH.out⟩
      | some kk =>
        rw [untR_end] at hR
        have hBH := Lib.hid hB
        have hoP := hU.p
        obtain ⟨aP, cP', hvP, -⟩ := OwnL.sl hoP
        subst hvP
        have hoH := Lib.hid (OwnL.baseMono (base' := w.heap.size) hoP (by omega))
        have hrr := hrH.out
        rw [← hR] at hrr
        simp only [Option.isSome_some]
        by_cases h60 : p.length ≤ 60
        · rw [if_pos h60] at hrr
          have hrrH := Lib.hid hrr
          have h60b : ¬ (60 : Int) < (p.length : Int) := by omega
          clear hR hU hJ hB hrr hoP h60
          go_wp2_with fail
          all_goals go_ret2
          all_goals rw [hrrH.out]
          all_goals exact ⟨_, rfl, hoH.out, hBH.out⟩
        · rw [if_neg h60] at hrr
          have hrrH := Lib.hid hrr
          have h60b : (60 : Int) < (p.length : Int) := by omega
          clear hR hU hJ hB hrr hoP h60
          go_wp2_with fail
          all_goals go_ret2
          all_goals rw [hrrH.out]
          all_goals exact ⟨_, rfl, .nil _ _ _ _ _, hBH.out⟩
end Go.Proofs.YtgkddhakhapjlaaDoor
