/- The card of TongueFirst: for every input TongueFirst returns true and leaves its arguments as they were; the listed variables are tied to the program's text. No condition. -/
import Derived.Test.YtfjodhgbbefkjaaGreatDoorWalkM
import Derived.Lib.AppendZeros
import Derived.Test.YtfjodhgbbefkjaaGreatDoorWalkJ
import Derived.Test.YtfjodhgbbefkjaaGreatDoorMsC
import Derived.Test.YtfjodhgbbefkjaaGreatDoorUniStep
import Derived.Deep.LoopGhost
import Derived.Test.YtfjodhgbbefkjaaGreatDoorWalkD
import Derived.Test.YtfjodhgbbefkjaaGreatDoorUSt
import Derived.Test.YtfjodhgbbefkjaaGreatDoorRegion
import Derived.Test.YtfjodhgbbefkjaaGreatDoorWalkG
import Derived.Test.YtfjodhgbbefkjaaGreatDoorBoxList
import Derived.Test.YtfjodhgbbefkjaaGreatDoorBase
import Derived.ProofKit
import Derived.LaidMore
import Derived.OpenShut
import Derived.Stop.Joined
import Derived.Test.YtfjodhgbbefkjaaGreatDoorMathComp
import Derived.Test.YtfjodhgbbefkjaaGreatDoorMsB
import Derived.Test.YtfjodhgbbefkjaaGreatDoorCards
import Derived.Test.YtfjodhgbbefkjaaGreatDoorTie
/- Walks: slices.Grow, slices.Concat, of terms. -/
namespace Go.Proofs.YtfjodhgbbefkjaaGreatDoor
open Go Go.RowKit Go.Maps

theorem wpList_append_run2 {P : Program} {w : World} {ops : Array Oper} {rest : List Oper} {o : Oper} {a : Act} {Q : Exit → Act → World → Prop} (hgd : o.guard = none) (s x : Operand) (t t2 : TypeId)
    (ho : o.op = .call { callee := .builtin .append, args := #[s, x], argTypes := #[t, t2] }) {vs vx : Value} (hs : a.eval s = vs) (hx : a.eval x = vx) {v' : Value} {w' : World}
    (hr : (Builtin.append_ #[t, t2] o.type #[vs, vx]).run P w = .ok v' w') (h : wpList P ops Q rest (a.put o.dst v') w') : wpList P ops Q (o :: rest) a w := by
  refine wpList_plain hgd fun K hK => ?_
  unfold Oper.wp execOp
  simp only [ho, resolve, invoke, builtin, Sem.run_bind, Sem.run_pure, Result.andThen_ok, List.map_toArray, List.map_cons, List.map_nil, hs, hx, hr]
  exact hK _ _ h
theorem infoInt2 : ∃ i, Tryz.prog.info? 3 = some i ∧ i.zero = some (.int .i64 0) ∧ i.size = 1 ∧ i.bytes = 8 := by
  obtain ⟨i, h, h1, h2, h3⟩ := info_parts infoInt
  exact ⟨i, h, h1, h2, h3⟩
set_option maxRecDepth 20000 in
set_option maxHeartbeats 1000000 in
theorem Grow_any (n : Nat) (w : World) (hn : n ≤ lim) :
    Calls Tryz.prog 118 #[.slice none 0 0, .int .i64 n] w (retOwn w []) := by
  unfold lim at hn
  by_cases h0 : n = 0
  · subst h0
    go_enter Tryz.func118, Tryz.ntmps118
    go_wp2_with fail
    go_ret
    exact ⟨_, rfl, .nil _ _ _ _ _, .refl _ _⟩
  · obtain ⟨i, hi, hz, hsz, hby⟩ := infoInt2
    have hrun := Lib.run_append_nil_zeros (P := Tryz.prog) w 41 3 41 3 i (.int .i64 0) .i64 .i64 Tryz.underlying41 Tryz.underlying3 hi hz n (by omega) (by omega) (by omega) (by rw [hby]; omega)
    obtain ⟨cap, hcap⟩ : ∃ cap, grownCap w n 0 3 = cap := ⟨_, rfl⟩
    have hc1 := grownCap_ge w n 0 3
    have hc2 := grownCap_le_maxLen w n 0 3 (by unfold maxLen; omega)
    rw [hcap] at hrun hc1 hc2
    unfold maxLen at hc2
    have hz1 : ∀ k, (Builtin.zeroCells (Value.cells (.int .i64 0)) k).size = k := fun k => by simp [Builtin.zeroCells, Value.cells]
    obtain ⟨cs, hcs⟩ : ∃ cs, Builtin.zeroCells (Value.cells (.int .i64 0)) n ++ Builtin.zeroCells (Value.cells (.int .i64 0)) (cap - n) = cs := ⟨_, rfl⟩
    have hcn : cs.size = cap * 1 := by rw [← hcs, Array.size_append, hz1, hz1]; omega
    rw [hcs] at hrun
    have ho : OwnI (w.drew.alloc (.cells cs 3)) w.heap.size (.slice (some ⟨w.heap.size, 0, none⟩) 0 cap) [] :=
      ⟨[], World.ownsRow_made w.drew cs cap (Nat.le_refl _) (by unfold maxLen; omega) hcn, rfl, fun i h => by simp at h⟩
    have hB : Below w.heap.size w (w.drew.alloc (.cells cs 3)) := (Below.refl _ _).drew.alloc (Nat.le_refl _) _
    have hrunH := Lib.hid hrun
    have hoH := Lib.hid ho
    have hBH := Lib.hid hB
    clear hrun ho hB hcs hcap hz1 hi hz hsz hby hcn
    go_enter Tryz.func118, Tryz.ntmps118
    go_wp2_with (at_builtin; refine wpList_append_run2 rfl (.tmp 20) (.tmp 21) _ _ rfl rfl rfl hrunH.out ?_)
    go_ret
    exact ⟨_, rfl, hoH.out, hBH.out⟩

theorem ints_append {S2 : Nat → Prop} {w : World} {base : Nat} {v : Value} {l l2 : List Int} {a : Option Addr} {c : Nat} (ho : OwnI w base v l) (h2 : Ints S2 w a c l2) (hl : l.length + l2.length ≤ 10000000) (hb : base ≤ w.heap.size) :
    ∃ v' w', RowKit.Hid ((Builtin.append_ #[41, 41] 41 #[v, .slice a l2.length c]).run Tryz.prog w = .ok v' w') ∧ RowKit.Hid (OwnI w' base v' (l ++ l2)) ∧ RowKit.Hid (Below base w w') := by
  obtain ⟨v', w', hrun, ho', hg, -, -⟩ := ho.append_run (P := Tryz.prog) (t := 41) (ty := 41) Tryz.underlying41 infoInt rfl h2 (fun _ _ _ h => h) (by omega) (by unfold big; omega) hb
  exact ⟨v', w', Lib.hid hrun, Lib.hid ho', Lib.hid ((Below.refl _ _).grown hg hb (fun k e => (ho.lt k e).1))⟩

def cat1Rel (L : List (List Int)) (w : World) (size i : Value) (wr : World) : Prop := ∃ k : Nat, i = .int .i64 k ∧ k ≤ L.length ∧ size = .int .i64 ((L.take k).flatten.length : Nat) ∧ wr = w
def cat2Rel (L : List (List Int)) (w : World) (out i : Value) (wr : World) : Prop := ∃ k : Nat, i = .int .i64 k ∧ k ≤ L.length ∧ OwnI wr w.heap.size out (L.take k).flatten ∧ Below w.heap.size w wr
theorem flat_take_le {L : List (List Int)} {q : Nat} : (L.take q).flatten.length ≤ L.flatten.length := by
  have : L.flatten.length = (L.take q).flatten.length + (L.drop q).flatten.length := by rw [← List.length_append, ← List.flatten_append, List.take_append_drop]
  omega
theorem flat_take_succ {L : List (List Int)} {q : Nat} (h : q < L.length) : (L.take (q + 1)).flatten = (L.take q).flatten ++ L[q] := by
  rw [List.take_succ_eq_append_getElem h, List.flatten_append]; simp
set_option maxHeartbeats 2000000 in
theorem Concat_any {S : Nat → Prop} (a : Option Addr) (c : Nat) (L : List (List Int)) (w : World) (h : Terms S w a c L) (hl : L.flatten.length ≤ lim) :
    Calls Tryz.prog 84 #[.slice a L.length c] w (retOwn w L.flatten) := by
  have m := h.le
  unfold lim at hl
  go_enter Tryz.func84, Tryz.ntmps84
  go_wp2_with fail
  go_loopw [3, 11] (fun size i wr => cat1Rel L w size i wr) (fun _ i _ => L.length - (intOf i).toNat)
  case atStart => exact ⟨0, rfl, Nat.zero_le _, rfl, rfl⟩
  case round =>
    obtain ⟨k, rfl, hk, rfl, rfl⟩ := hrel
    by_cases hlt : k < L.length
    · obtain ⟨b, o, a', c', rfl, -, q, -⟩ := h.sub k hlt
      have hs := congrArg List.length (flat_take_succ hlt)
      rw [List.length_append] at hs
      have hle := flat_take_le (L := L) (q := k + 1)
      obtain ⟨M, hM⟩ : ∃ M : Nat, (L.take k).flatten.length = M := ⟨_, rfl⟩
      rw [hM] at hs ⊢
      rw [hs] at hle
      have hsH := Lib.hid hs
      clear hs hM h
      go_wp2_with fail
      go_roundw
      case rel => exact ⟨k + 1, by go_num, by omega, by rw [hsH.out]; go_num, rfl⟩
      case measure => simp [intOf]; omega
    · have hkn : L.take k = L := List.take_of_length_le (by omega)
      rw [hkn]
      obtain ⟨N, hN⟩ : ∃ N : Nat, L.flatten.length = N := ⟨_, rfl⟩
      rw [hN]
      have cg := Grow_any N wr (by unfold lim; omega)
      have cgH := Lib.hid cg
      clear cg hkn hN
      go_wp2_with (go_at_call 118; refine cgH.out.mono ?_; rintro e w1 ⟨v, rfl, ho, hb⟩; have hoH := Lib.hid ho; have hbH := Lib.hid hb; clear ho hb)
      go_loopw [6, 27] (fun out i wr2 => cat2Rel L wr out i wr2) (fun _ i _ => L.length - (intOf i).toNat)
      case atStart => exact ⟨0, rfl, Nat.zero_le _, hoH.out, hbH.out⟩
      case round =>
        obtain ⟨k, rfl, hk, ho, hB⟩ := hrel
        by_cases hlt : k < L.length
        · obtain ⟨b, o, a', c', rfl, -, q, hI⟩ := h.sub k hlt
          have q' := (hB.cell (p := ⟨b, o + k, none⟩) (World.block_lt_of_cell? _ _ q)).trans q
          have hs := flat_take_succ hlt
          have hle := flat_take_le (L := L) (q := k + 1)
          rw [hs, List.length_append] at hle
          obtain ⟨v', w', hrunH, ho', hb'⟩ := ints_append ho (hI.below hB) (by omega) hB.size
          have hsH := Lib.hid hs
          have hBH := Lib.hid (hB.trans hb'.out)
          clear hs ho hI hB h q hb'
          go_wp2_with (at_builtin; refine wpList_append_run rfl _ _ _ rfl rfl rfl hrunH.out ?_)
          go_roundw
          case rel => exact ⟨k + 1, by go_num, by omega, by rw [hsH.out]; exact ho'.out, hBH.out⟩
          case measure => simp [intOf]; omega
        · have hkn : L.take k = L := List.take_of_length_le (by omega)
          rw [hkn] at ho
          have hoH := Lib.hid ho
          have hBH := Lib.hid hB
          clear ho hB hkn h
          go_wp2_with fail
          go_ret
          exact ⟨_, rfl, hoH.out, hBH.out⟩
end Go.Proofs.YtfjodhgbbefkjaaGreatDoor

/- Walks: Built, of both. -/
namespace Go.Proofs.YtfjodhgbbefkjaaGreatDoor
open Go Go.RowKit Go.Maps

theorem Drew.trans {a b c : World} (h : Drew a b) (h2 : Drew b c) : Drew a c := by obtain ⟨n, rfl⟩ := h2; exact drew_more h n
def idxTPost (s : Sg) (L : List (List Int)) (w : World) (e : Ending) (w' : World) : Prop := ∃ n : Int, e = .returned (.int .i64 n) ∧ -1 ≤ n ∧ decide (0 ≤ n) = !(L.all (okT s)) ∧ Below w.heap.size w w'
def builtE (s : Sg) (y : Int) (L : List (List Int)) : List Int × Int :=
  if okSign s = true ∧ L.all (okT s) = true then
    (if 0 ≤ y ∧ y < s.length then (if (L.length : Int) = (s.getD y.toNat default).2 then (if 1 + L.flatten.length ≤ 60 then (y :: L.flatten, 0) else ([], 4)) else ([], 9)) else ([], 5))
  else ([], 1)
theorem builtE_1 {s : Sg} {y : Int} {L : List (List Int)} (h : ¬ (okSign s = true ∧ L.all (okT s) = true)) : builtE s y L = ([], 1) := by rw [builtE, if_neg h]
theorem builtE_5 {s : Sg} {y : Int} {L : List (List Int)} (h : okSign s = true ∧ L.all (okT s) = true) (h1 : ¬ (0 ≤ y ∧ y < s.length)) : builtE s y L = ([], 5) := by rw [builtE, if_pos h, if_neg h1]
theorem builtE_9 {s : Sg} {y : Int} {L : List (List Int)} (h : okSign s = true ∧ L.all (okT s) = true) (h1 : 0 ≤ y ∧ y < s.length) (h2 : ¬ (L.length : Int) = (s.getD y.toNat default).2) : builtE s y L = ([], 9) := by rw [builtE, if_pos h, if_pos h1, if_neg h2]
theorem builtE_4 {s : Sg} {y : Int} {L : List (List Int)} (h : okSign s = true ∧ L.all (okT s) = true) (h1 : 0 ≤ y ∧ y < s.length) (h2 : (L.length : Int) = (s.getD y.toNat default).2) (h3 : ¬ (1 + L.flatten.length ≤ 60)) : builtE s y L = ([], 4) := by rw [builtE, if_pos h, if_pos h1, if_pos h2, if_neg h3]
theorem builtE_0 {s : Sg} {y : Int} {L : List (List Int)} (h : okSign s = true ∧ L.all (okT s) = true) (h1 : 0 ≤ y ∧ y < s.length) (h2 : (L.length : Int) = (s.getD y.toNat default).2) (h3 : 1 + L.flatten.length ≤ 60) : builtE s y L = (y :: L.flatten, 0) := by rw [builtE, if_pos h, if_pos h1, if_pos h2, if_pos h3]
theorem rbelow {W W' : World} {l : List Int × Int} {e : Ending} (h : retE l W e W') : Below W.heap.size W W' := by obtain ⟨_, _, _, h⟩ := h; exact h

def brRel (y : Int) (L : List (List Int)) (w : World) (B : Nat) (out i : Value) (wr : World) : Prop := ∃ k : Nat, i = .int .i64 k ∧ k ≤ L.length ∧ OwnI wr B out (y :: (L.take k).flatten) ∧ Below B w wr
end Go.Proofs.YtfjodhgbbefkjaaGreatDoor

/- Walks: Built. -/
namespace Go.Proofs.YtfjodhgbbefkjaaGreatDoor
open Go Go.RowKit Go.Maps

theorem OwnTs.lit1 {w : World} {a : Option Addr} {c : Nat} {u : List Int} {T : Nat → Prop} (h : Ints T w a c u) :
    OwnTs (fun _ => True) (w.alloc (.cells #[.slice a u.length c] 41)) w.heap.size (.slice (some ⟨w.heap.size, 0, none⟩) 1 1) [u] := by
  have hr := World.ownsRow_lit (base := w.heap.size) (e := 41) (size := 1) w #[.slice a u.length c] 1 (Nat.le_refl _) (by unfold maxLen; omega) (by simp)
  refine ⟨[[.slice a u.length c]], hr, rfl, fun i h1 h2 => ?_⟩
  match i, h1 with
  | 0, _ => exact ⟨a, c, rfl, (h.lt.weak (S' := Off (fun _ => True) (.slice (some ⟨w.heap.size, 0, none⟩) 1 1)) (fun b hb => ⟨trivial, fun e => by simp [Value.ownBlock] at e; omega⟩)).below (below1 _ _)⟩

theorem lit_append {S2 : Nat → Prop} {w w2 : World} {a2 : Option Addr} {c2 : Nat} {L : List (List Int)} (n : Int) (hn : inRange n) (h2 : Terms S2 w a2 c2 L) (hB : Below w.heap.size w w2) (hl : L.length ≤ 1000000) :
    ∃ a c w', RowKit.Hid ((Builtin.append_ #[68, 68] 68 #[.slice (some ⟨w2.heap.size + 1, 0, none⟩) 1 1, .slice a2 L.length c2]).run Tryz.prog ((w2.alloc (.cells #[.int .i64 n] 3)).alloc (.cells #[.slice (some ⟨w2.heap.size, 0, none⟩) 1 1] 41)) = .ok (.slice a (L.length + 1) c) w') ∧
      RowKit.Hid (Terms (fun _ => True) w' a c ([n] :: L)) ∧ RowKit.Hid (Below w2.heap.size w2 w') := by
  have hI : Ints (fun _ => True) (w2.alloc (.cells #[.int .i64 n] 3)) (some ⟨w2.heap.size, 0, none⟩) 1 [n] := by
    have := OwnL.lit (S := fun _ => False) w2 [n] 3 (by simpa using hn) (by unfold maxLen; simp)
    obtain ⟨a, c, he, hI⟩ := OwnI.ints this
    simp at he
    obtain ⟨rfl, rfl⟩ := he
    exact hI.any
  have ho := OwnTs.lit1 hI
  simp only [World.size_alloc] at ho
  have hB' : Below w.heap.size w ((w2.alloc (.cells #[.int .i64 n] 3)).alloc (.cells #[.slice (some ⟨w2.heap.size, 0, none⟩) 1 1] 41)) := hB.trans ((below2 _ _ _).mono hB.size)
  obtain ⟨v', w', hrun, ho', hg, -, -⟩ := ho.append_run (P := Tryz.prog) (t := 68) (ty := 68) Tryz.underlying68 infoTerm rfl (h2.lt.below hB') (fun i hi vs h => (slE intE).mono h (fun b _ hb => ⟨trivial, fun e => by have := hB.size; simp [Value.ownBlock] at e; omega⟩) (.refl _ _)) (by simp; omega) (by unfold big; simp; omega) (by simp)
  have hBn := (below2 w2 (.cells #[.int .i64 n] 3) (.cells #[.slice (some ⟨w2.heap.size, 0, none⟩) 1 1] 41)).grown hg (by simp; omega) (fun k e => by simp [Value.ownBlock] at e; omega)
  obtain ⟨a, c, rfl, hT⟩ := ho'.sl
  refine ⟨a, c, w', Lib.hid ?_, Lib.hid hT.any, Lib.hid hBn⟩
  simpa [Nat.add_comm] using hrun

end Go.Proofs.YtfjodhgbbefkjaaGreatDoor

/- Walks of package unify: a solver in the world; look. -/
namespace Go.Proofs.YtfjodhgbbefkjaaGreatDoor
open Go Go.RowKit Go.Maps

/-- looked up in k steps -/
def LkdN (B : Bd) (p : List Int) : Nat → List Int → Prop
  | 0, t => t = p ∧ ∀ n r, t = n :: r → n < 0 → B n = none
  | k + 1, t => ∃ n r u, t = n :: r ∧ n < 0 ∧ B n = some u ∧ LkdN B p k u
theorem Lkd.num {B : Bd} {t p : List Int} (h : Lkd B t p) : ∃ k, LkdN B p k t := by
  induction h with
  | stop h => exact ⟨0, rfl, h⟩
  | go hn hB _ ih => obtain ⟨k, hk⟩ := ih; exact ⟨k + 1, _, _, _, rfl, hn, hB, hk⟩

/-- the solver's own data: the sign and the map of what is bound -/
structure SolvW (w0 w : World) (xb mb n : Nat) (a1 : Option Addr) (c1 : Nat) (s : Sg) (B : Bd) : Prop where
  k0 : w.cell? ⟨xb, 0, none⟩ = some (.slice a1 s.length c1)
  k1 : w.cell? ⟨xb, 1, none⟩ = some (.map (some mb))
  map : BdMap w0 w mb n B
  bx : w0.heap.size ≤ xb
  bm : w0.heap.size ≤ mb
  ne : xb ≠ mb
  sg : Sign (fun b => b < w0.heap.size) w0 a1 c1 s
  bel : Below w0.heap.size w0 w
  wf : ∀ n u, B n = some u → W1 s u
theorem SolvW.lt {w0 w : World} {xb mb n : Nat} {a1 : Option Addr} {c1 : Nat} {s : Sg} {B : Bd} (h : SolvW w0 w xb mb n a1 c1 s B) : xb < w.heap.size := World.block_lt_of_cell? _ _ h.k0
theorem SolvW.below {w0 w w' : World} {xb mb n : Nat} {a1 : Option Addr} {c1 : Nat} {s : Sg} {B : Bd} (h : SolvW w0 w xb mb n a1 c1 s B) (hb : Below w.heap.size w w') : SolvW w0 w' xb mb n a1 c1 s B :=
  ⟨cell_later hb h.k0, cell_later hb h.k1, h.map.below hb h.map.lt, h.bx, h.bm, h.ne, h.sg, bcall h.bel hb, h.wf⟩

abbrev T0 (w0 : World) (a : Option Addr) (c : Nat) (t : List Int) : Prop := Ints (fun b => b < w0.heap.size) w0 a c t
/-- looked up in k steps, with where it lies -/
def LkF (w0 : World) (f : Int → Option Value) (B : Bd) (p : List Int) (a' : Option Addr) (c' : Nat) : Nat → Option Addr → Nat → List Int → Prop
  | 0, a, c, t => (t = p ∧ a = a' ∧ c = c') ∧ ∀ n r, t = n :: r → n < 0 → B n = none
  | k + 1, _, _, t => ∃ n r u a3 c3, t = n :: r ∧ n < 0 ∧ B n = some u ∧ f n = some (.slice a3 u.length c3) ∧ T0 w0 a3 c3 u ∧ LkF w0 f B p a' c' k a3 c3 u
theorem LkF.ex {w0 : World} {f : Int → Option Value} {B : Bd} {p : List Int} (h3 : ∀ x u, B x = some u → ∃ a c, f x = some (.slice a u.length c) ∧ T0 w0 a c u) :
    ∀ (k : Nat) (t : List Int) (a : Option Addr) (c : Nat), T0 w0 a c t → LkdN B p k t → ∃ a' c', LkF w0 f B p a' c' k a c t ∧ T0 w0 a' c' p
  | 0, t, a, c, hT, ⟨h1, h2⟩ => ⟨a, c, ⟨⟨h1, rfl, rfl⟩, h2⟩, h1 ▸ hT⟩
  | k + 1, t, a, c, hT, ⟨n, r, u, h1, h2, hB, h4⟩ => by
    obtain ⟨a3, c3, g1, g2⟩ := h3 n u hB
    obtain ⟨a', c', g3, g4⟩ := LkF.ex h3 k u a3 c3 g2 h4
    exact ⟨a', c', ⟨n, r, u, a3, c3, h1, h2, hB, g1, g2, g3⟩, g4⟩
def lookRel (w0 w : World) (s : Sg) (f : Int → Option Value) (B : Bd) (p : List Int) (a' : Option Addr) (c' : Nat) (k : Nat) (tv : Value) (wr : World) : Prop :=
  ∃ t a c, tv = .slice a (List.length t) c ∧ T0 w0 a c t ∧ W1 s t ∧ LkF w0 f B p a' c' k a c t ∧ Drew w wr
end Go.Proofs.YtfjodhgbbefkjaaGreatDoor

/- Walks of package unify: whether a variable comes. -/
namespace Go.Proofs.YtfjodhgbbefkjaaGreatDoor
open Go Go.RowKit Go.Maps

/-- what was met from M to M' is not v, and all that stands for it was met, too -/
def Mets (B : Bd) (v : Int) (M M' : Bd) : Prop := ∀ m, M m = none → (M' m).isSome = true → m ≠ v ∧ ∀ u, B m = some u → ∀ k ∈ u, k < 0 → (M' k).isSome = true
def Sub (M M' : Bd) : Prop := ∀ m, (M m).isSome = true → (M' m).isSome = true
theorem Sub.refl (M : Bd) : Sub M M := fun _ h => h
theorem Sub.trans {A B C : Bd} (h : Sub A B) (k : Sub B C) : Sub A C := fun m hm => k m (h m hm)
theorem Sub.up {M : Bd} {x : Int} {q : List Int} : Sub M (upB M x q) := fun m hm => by
  unfold upB; split
  · rfl
  · exact hm
theorem upB_same {M : Bd} {x : Int} {q : List Int} : (upB M x q) x = some q := by unfold upB; rw [if_pos rfl]
theorem upB_other {M : Bd} {x m : Int} {q : List Int} (h : m ≠ x) : (upB M x q) m = M m := by unfold upB; rw [if_neg h]
theorem isSome_none {α : Type} {o : Option α} (h : ¬ o.isSome = true) : o = none := by cases o <;> simp_all
theorem Mets.refl (B : Bd) (v : Int) (M : Bd) : Mets B v M M := fun m h1 h2 => by rw [h1] at h2; cases h2
theorem Mets.leaf {B M M1 : Bd} {v x : Int} (h : Mets B v M M1) (hx : x ≠ v) (hB : B x = none) : Mets B v M (upB M1 x []) := fun m h1 h2 => by
  by_cases e : m = x
  · subst e; exact ⟨hx, fun u hu => by rw [hB] at hu; cases hu⟩
  · rw [upB_other e] at h2
    obtain ⟨g1, g2⟩ := h m h1 h2
    exact ⟨g1, fun u hu k hk h0 => Sub.up _ (g2 u hu k hk h0)⟩
theorem Mets.node {B M M1 M2 : Bd} {v x : Int} {u : List Int} (h : Mets B v M M1) (hx : x ≠ v) (hB : B x = some u) (h2 : Mets B v (upB M1 x []) M2) (hs : Sub (upB M1 x []) M2) (hu : ∀ k ∈ u, k < 0 → (M2 k).isSome = true) : Mets B v M M2 := fun m g1 g2 => by
  by_cases e : m = x
  · subst e; exact ⟨hx, fun u' hu' => by rw [hB] at hu'; cases hu'; exact hu⟩
  · by_cases e1 : (M1 m).isSome = true
    · obtain ⟨k1, k2⟩ := h m g1 e1
      exact ⟨k1, fun u' hu' k hk h0 => hs k (Sub.up k (k2 u' hu' k hk h0))⟩
    · exact h2 m (by rw [upB_other e]; exact isSome_none e1) g2
theorem mets_not {s : Sg} {B : Bd} {θ : Int → List Int} {ρ : Int → Nat} (h : Slv s B θ ρ) {v : Int} {M : Bd} (hm : Mets B v (fun _ => none) M) : ∀ (K : Nat) (t : List Int), (∀ n ∈ t, n < 0 → (M n).isSome = true) → (∀ n ∈ t, n < 0 → ρ n < K) → v < 0 → v ∉ ap θ t
  | K, t, h1, h2, hv, hmem => by
    rcases mem_ap.1 hmem with ⟨-, e⟩ | ⟨n, hn, h0, hvn⟩
    · exact e hv
    · obtain ⟨g1, g2⟩ := hm n rfl (h1 n hn h0)
      cases hB : B n with
      | none => rw [h.free n h0 hB, List.mem_singleton] at hvn; exact g1 hvn.symm
      | some u =>
        rw [h.bnd n u hB] at hvn
        cases K with
        | zero => have := h2 n hn h0; omega
        | succ K =>
          exact mets_not h hm K u (g2 u hB) (fun m hm' h0' => by have := h.rk n u hB m hm' h0'; have := h2 n hn h0; omega) hv hvn

/-- the map of what was met -/
def MetW (w : World) (mm n : Nat) (M : Bd) : Prop := ∃ f, VMap KI w mm n f ∧ ∀ x, f x = (M x).map fun _ => .bool true
theorem MetW.made (w : World) : MetW (w.alloc (.map #[] 0)) w.heap.size 0 (fun _ => none) := ⟨_, VMap.made KI w, fun _ => rfl⟩
theorem MetW.lt {w : World} {mm n : Nat} {M : Bd} (h : MetW w mm n M) : mm < w.heap.size := by obtain ⟨f, h1, -⟩ := h; exact h1.lt
theorem MetW.below {w w' : World} {mm n K : Nat} {M : Bd} (h : MetW w mm n M) (hb : Below K w w') (hm : mm < K) : MetW w' mm n M := by
  obtain ⟨f, h1, h2⟩ := h; exact ⟨f, h1.below hb hm, h2⟩
theorem MetW.look {w : World} {mm n : Nat} {M : Bd} (h : MetW w mm n M) (x : Int) (hx : inRange x) :
    (Instr.lookup 128 (.map (some mm)) (.int .i64 x) false).run Tryz.prog w = .ok (.bool (M x).isSome) w := by
  obtain ⟨f, h1, h2⟩ := h
  have := h1.look (tm := 128) (te := 4) Tryz.underlying128 (zBool w) x hx
  rw [h2 x] at this
  cases hM : M x with
  | none => rw [hM] at this; exact this
  | some u => rw [hM] at this; exact this
theorem MetW.store {w : World} {mm n : Nat} {M : Bd} (h : MetW w mm n M) (hn : n < maxLen) (x : Int) (hx : inRange x) (hM : M x = none) :
    ∃ w', RowKit.Hid ((Instr.mapUpdate 128 (.map (some mm)) (.int .i64 x) (.bool true)).run Tryz.prog w = .ok () w') ∧ RowKit.Hid (MetW w' mm (n + 1) (upB M x [])) ∧ RowKit.Hid (w.grownBy w' (some mm)) := by
  obtain ⟨f, h1, h2⟩ := h
  obtain ⟨w', r, hv, hg⟩ := h1.store (tm := 128) (te := 4) Tryz.underlying128 hn x hx (.bool true)
  rw [if_neg (by rw [h2 x, hM]; simp)] at hv
  refine ⟨w', Lib.hid r, Lib.hid ⟨_, hv, fun y => ?_⟩, Lib.hid hg⟩
  unfold upB
  by_cases e : y = x
  · rw [if_pos e, if_pos e]; rfl
  · rw [if_neg e, if_neg e]; exact h2 y
theorem SolvW.grown {w0 w w' : World} {xb mb n k : Nat} {a1 : Option Addr} {c1 : Nat} {s : Sg} {B : Bd} (h : SolvW w0 w xb mb n a1 c1 s B) (hg : w.grownBy w' (some k)) (h1 : k ≠ xb) (h2 : k ≠ mb) (h3 : w0.heap.size ≤ k) : SolvW w0 w' xb mb n a1 c1 s B := by
  have hx : w'.heap[xb]? = w.heap[xb]? := hg.block xb h.lt (fun e => h1 (by injection e with e; exact e.symm))
  obtain ⟨f, m1, m2, m3⟩ := h.map
  exact ⟨(World.cell?_of_block (a := ⟨xb, 0, none⟩) hx).trans h.k0, (World.cell?_of_block (a := ⟨xb, 1, none⟩) hx).trans h.k1, ⟨f, m1.same (hg.block mb m1.lt (fun e => h2 (by injection e with e; exact e.symm))), m2, m3⟩, h.bx, h.bm, h.ne, h.sg,
    h.bel.grown hg h.bel.size (fun j e => by injection e with e; omega), h.wf⟩

theorem MetW.drawn {w : World} {mm n : Nat} {M : Bd} (h : MetW w mm n M) (m : Nat) : MetW (w.drewN m) mm n M := h.below ((Drew.mk w m).below w.heap.size) h.lt
end Go.Proofs.YtfjodhgbbefkjaaGreatDoor

/- Walks of package unify: comes, walked. -/
namespace Go.Proofs.YtfjodhgbbefkjaaGreatDoor
open Go Go.RowKit Go.Maps

def comesRet (B : Bd) (θ : Int → List Int) (v : Int) (t : List Int) (mm : Nat) (M : Bd) (w : World) (e : Ending) (w' : World) : Prop :=
  ∃ (M' : Bd) (n' : Nat) (r : Bool), e = .returned (.bool r) ∧ MetW w' mm n' M' ∧ n' + free M' ≤ 24 ∧ w.grownBy w' (some mm) ∧ Sub M M' ∧ (r = true → v ∈ ap θ t) ∧
    (r = false → (∀ n ∈ t, n < 0 → (M' n).isSome = true) ∧ Mets B v M M')
def comesRel (B : Bd) (v : Int) (t : List Int) (mm : Nat) (M : Bd) (w : World) (jv : Value) (wr : World) : Prop :=
  ∃ (j n : Nat) (M' : Bd), jv = .int .i64 j ∧ j ≤ t.length ∧ MetW wr mm n M' ∧ n + free M' ≤ 24 ∧ w.grownBy wr (some mm) ∧ Sub M M' ∧ (∀ n ∈ t.take j, n < 0 → (M' n).isSome = true) ∧ Mets B v M M'
theorem take_all {t : List Int} {j : Nat} {P : Int → Prop} (h : ∀ n ∈ t.take j, P n) (hj : j < t.length) (hp : P t[j]) : ∀ n ∈ t.take (j + 1), P n := by
  intro n hn
  rw [List.take_succ_eq_append_getElem hj, List.mem_append, List.mem_singleton] at hn
  rcases hn with e | e
  · exact h n e
  · rw [e]; exact hp

theorem grown_by' {w w1 w2 : World} {o : Option Nat} (h : w.grownBy w1 o) (b : w1.grownBy w2 o) : w.grownBy w2 o :=
  ⟨b.os.trans h.os, b.tape.trans h.tape, b.output.trans h.output, Nat.le_trans h.size b.size, fun x hx hne => (b.block x (Nat.lt_of_lt_of_le hx h.size) hne).trans (h.block x hx hne)⟩
theorem free_none : free (fun _ => none) = 24 := by decide
theorem rank_bound (ρ : Int → Nat) : ∀ t : List Int, ∃ K, ∀ m ∈ t, m < 0 → ρ m < K
  | [] => ⟨0, fun _ h => by cases h⟩
  | x :: t => by
    obtain ⟨K, hK⟩ := rank_bound ρ t
    refine ⟨max K (ρ x + 1), fun m hm h0 => ?_⟩
    rcases List.mem_cons.1 hm with e | e
    · subst e; omega
    · have := hK m e h0; omega
end Go.Proofs.YtfjodhgbbefkjaaGreatDoor

/- Walks of package unify: the stack of pairs; where arguments lie; after of a logic; the step of unification. -/
namespace Go.Proofs.YtfjodhgbbefkjaaGreatDoor
open Go Go.RowKit Go.Maps

abbrev prE : Enc (List Int × List Int) := pairE (slE intE) (slE intE)
section
variable {S : Nat → Prop} {w : World} {base g n cap : Nat} {L : Prs}
theorem pr_len {xs : List (List Value)} {T : Nat → Prop} (hl : xs.length = L.length) (hx : ∀ i (h1 : i < xs.length) (h2 : i < L.length), prE.R T w xs[i] L[i]) : ∀ x ∈ xs, x.length = 2 := by
  intro x hxm
  obtain ⟨i, hi, rfl⟩ := List.getElem_of_mem hxm
  exact prE.len (hx i hi (by omega))
end

/-- the places of the arguments -/
def apos (s : Sg) (t : List Int) (m : Nat) : Nat := 1 + ((argsW s t).take m).flatten.length
theorem apos_zero (s : Sg) (t : List Int) : apos s t 0 = 1 := rfl
theorem args_at {s : Sg} {n : Int} {x : List Int} (h : W1 s (n :: x)) {m : Nat} (hm : m < arW s n) (hl : m < (argsW s (n :: x)).length) :
    skw s 1 ((n :: x).drop (apos s (n :: x) m)) = some ((n :: x).drop (apos s (n :: x) (m + 1))) ∧ apos s (n :: x) m < apos s (n :: x) (m + 1) ∧ apos s (n :: x) (m + 1) ≤ (n :: x).length ∧
      ((n :: x).drop (apos s (n :: x) m)).take (apos s (n :: x) (m + 1) - apos s (n :: x) m) = (argsW s (n :: x))[m] := by
  obtain ⟨h1, h2, h3, -⟩ := h.args
  obtain ⟨A, hA⟩ : ∃ A, argsW s (n :: x) = A := ⟨_, rfl⟩
  rw [hA] at h1 h2 h3
  simp only [apos, hA]
  have hd : ∀ k, (n :: x).drop (1 + (A.take k).flatten.length) = (A.drop k).flatten := fun k => by
    rw [Nat.add_comm, List.drop_succ_cons, ← h2]
    conv => lhs; rw [← List.take_append_drop k A]
    rw [List.flatten_append]
    have : ((A.take k ++ A.drop k).take k) = A.take k := by rw [List.take_append_drop]
    rw [this, List.drop_left]
  have ht : (A.take (m + 1)).flatten.length = (A.take m).flatten.length + (A[m]'(by omega)).length := by
    rw [List.take_succ_eq_append_getElem (by omega), List.flatten_append, List.length_append]; simp
  have hdm : (A.drop m).flatten = A[m]'(by omega) ++ (A.drop (m + 1)).flatten := by rw [List.drop_eq_getElem_cons (by omega), List.flatten_cons]
  have hw := h3 _ (List.getElem_mem (by omega : m < A.length))
  have hle : (A.take (m + 1)).flatten.length ≤ x.length := by
    rw [← h2]
    conv => rhs; rw [← List.take_append_drop (m + 1) A]
    rw [List.flatten_append, List.length_append]; omega
  have hwl := hw.len
  refine ⟨?_, by omega, by rw [List.length_cons]; omega, ?_⟩
  · rw [hd, hd, hdm, skw_append s 1 _ _ _ hw]; rfl
  · rw [hd, ht, hdm, show 1 + ((A.take m).flatten.length + (A[m]'(by omega)).length) - (1 + (A.take m).flatten.length) = (A[m]'(by omega)).length by omega, List.take_left]
theorem args_all {s : Sg} {t : List Int} (h : W1 s t) {n : Int} (hn : t.headD 0 = n) : (argsW s t).length = arW s n ∧ n < s.length ∧ ∀ m (hm : m < (argsW s t).length), skw s 1 (t.drop (apos s t m)) = some (t.drop (apos s t (m + 1))) ∧ apos s t m < apos s t (m + 1) ∧ apos s t (m + 1) ≤ t.length ∧
    (t.drop (apos s t m)).take (apos s t (m + 1) - apos s t m) = (argsW s t)[m] := by
  cases t with
  | nil => exact (h.ne rfl).elim
  | cons k x =>
    simp only [List.headD_cons] at hn
    subst hn
    exact ⟨h.args.1, h.args.2.2.2, fun m hm => args_at h (by rw [← h.args.1]; exact hm) hm⟩
theorem drop_len {t : List Int} {k : Nat} (h : k ≤ t.length) : t.length - (t.drop k).length = k := by rw [List.length_drop]; omega

end Go.Proofs.YtfjodhgbbefkjaaGreatDoor

/- Walks of package unify: solve. -/
namespace Go.Proofs.YtfjodhgbbefkjaaGreatDoor
open Go Go.RowKit Go.Maps

theorem T0.back {w0 w : World} (hB : Below w0.heap.size w0 w) {S : Nat → Prop} {a : Option Addr} {c : Nat} {t : List Int} (h : Ints S w a c t) (hS : ∀ b, S b → b < w0.heap.size) : T0 w0 a c t :=
  h.mono (fun b _ hb => hS b hb) (fun b hb _ => (hB.block b (hS b hb)).symm)

def solRet (w0 : World) (xb mb : Nat) (a1 : Option Addr) (c1 : Nat) (s : Sg) (a b : List Int) (e : Ending) (w' : World) : Prop :=
  ∃ r, e = .returned (.bool r) ∧ Below w0.heap.size w0 w' ∧ (r = false → ∀ η, Wsub s η → ap η a ≠ ap η b) ∧
    (r = true → ∃ B θ ρ n, Slv s B θ ρ ∧ RgB B ∧ (∀ η, Wsub s η → (Sat B η ↔ ap η a = ap η b)) ∧ SolvW w0 w' xb mb n a1 c1 s B ∧ ∀ n u, B n = some u → InfT a b u)
section
variable {P : Program} {Q : Exit → Act → World → Prop} {md : Region.Mode} {S : World → Prop} {l : List Oper} {listed : Array Bool} {fuel : Nat} {a : Act} {w : World}
/-- two operations either of which may come up -/
theorem region_2 (i j : Nat) {o o' : Oper} (hi : l[i]? = some o) (hj : l[j]? = some o') (hr : Region.ready md l.toArray listed = [i, j])
    (h : ∀ K' : Act → World → Prop, Shut (∀ a w, S w → (S w → wpAnyH P md l.toArray Q S fuel (listed.setIfInBounds i true) a w) → K' a w) → if Region.wanted o (yielded l.toArray a.tmps) = true then Oper.wp P o a w K' Q else K' (a.put o.dst undef) w)
    (h' : ∀ K' : Act → World → Prop, Shut (∀ a w, S w → (S w → wpAnyH P md l.toArray Q S fuel (listed.setIfInBounds j true) a w) → K' a w) → if Region.wanted o' (yielded l.toArray a.tmps) = true then Oper.wp P o' a w K' Q else K' (a.put o'.dst undef) w) :
    wpAnyH P md l.toArray Q S (fuel + 1) listed a w :=
  wpAnyH_ready hr (by simp) (AllReadyH.cons (by simpa using hi) h (AllReadyH.cons (by simpa using hj) h' AllReadyH.nil))
end
theorem SolvW.keep {w0 w w' : World} {xb mb n K : Nat} {a1 : Option Addr} {c1 : Nat} {s : Sg} {B : Bd} (h : SolvW w0 w xb mb n a1 c1 s B) (hb : Below K w w') (h1 : xb < K) (h2 : mb < K) (h3 : w0.heap.size ≤ K) : SolvW w0 w' xb mb n a1 c1 s B :=
  ⟨(World.cell?_of_block (a := ⟨xb, 0, none⟩) (hb.block xb h1)).trans h.k0, (World.cell?_of_block (a := ⟨xb, 1, none⟩) (hb.block xb h1)).trans h.k1, h.map.below hb h2, h.bx, h.bm, h.ne, h.sg, h.bel.trans (hb.mono h3), h.wf⟩
theorem SolvW.stored {w0 w w' : World} {xb mb n n' : Nat} {a1 : Option Addr} {c1 : Nat} {s : Sg} {B : Bd} {v : Int} {q : List Int} (h : SolvW w0 w xb mb n a1 c1 s B) (hg : w.grownBy w' (some mb)) (hD : BdMap w0 w' mb n' (upB B v q)) (hq : W1 s q) : SolvW w0 w' xb mb n' a1 c1 s (upB B v q) := by
  have hx : w'.heap[xb]? = w.heap[xb]? := hg.block xb h.lt (fun e => h.ne (by injection e))
  refine ⟨(World.cell?_of_block (a := ⟨xb, 0, none⟩) hx).trans h.k0, (World.cell?_of_block (a := ⟨xb, 1, none⟩) hx).trans h.k1, hD, h.bx, h.bm, h.ne, h.sg, h.bel.grown hg h.bel.size (fun j e => by have := h.bm; injection e with e; omega), fun m u hu => ?_⟩
  unfold upB at hu
  split at hu
  · cases hu; exact hq
  · exact h.wf m u hu
theorem rank_head (ρ : Int → Nat) (t : List Int) : ∀ n r, t = n :: r → n < 0 → ρ n < ρ (t.headD 0) + 1 := fun n r e _ => by rw [e]; simp
theorem last_snoc {α : Type} {L : List α} (h : 0 < L.length) : ∃ L0 e, L = L0 ++ [e] ∧ L0.length + 1 = L.length := by
  rcases List.eq_nil_or_concat L with rfl | ⟨L0, e, rfl⟩
  · simp at h
  · exact ⟨L0, e, by rw [List.concat_eq_append], by simp⟩
end Go.Proofs.YtfjodhgbbefkjaaGreatDoor

/- Walks of package unify: solved, apart, Meets, Unifiable. -/
namespace Go.Proofs.YtfjodhgbbefkjaaGreatDoor
open Go Go.RowKit Go.Maps

def apRel (t : List Int) (w : World) (B0 g cap : Nat) (i : Value) (wr : World) : Prop :=
  ∃ k : Nat, i = .int .i64 k ∧ k ≤ t.length ∧ OwnI wr B0 (.slice (some ⟨g, 0, none⟩) t.length cap) (doneTo apN t k) ∧ Below w.heap.size w wr
def solvedRet (w : World) (a1 : Option Addr) (c1 : Nat) (s : Sg) (a b : List Int) (e : Ending) (w' : World) : Prop :=
  ∃ xb mb r, e = .returned (.tuple #[.pointer (some ⟨xb, 0, none⟩), .bool r]) ∧ Below w.heap.size w w' ∧ (r = false → ∀ η, Wsub s η → ap η a ≠ ap η b) ∧
    (r = true → ∃ B θ ρ n, Slv s B θ ρ ∧ RgB B ∧ IsMgu s a b θ ∧ SolvW w w' xb mb n a1 c1 s B)
theorem solved_uniB {w w' : World} {a1 : Option Addr} {c1 xb mb : Nat} {s : Sg} {a b : List Int} {r : Bool} (hf : r = false → ∀ η, Wsub s η → ap η a ≠ ap η b) (ht : r = true → ∃ B θ ρ n, Slv s B θ ρ ∧ RgB B ∧ IsMgu s a b θ ∧ SolvW w w' xb mb n a1 c1 s B) : r = uniB s a b := by
  cases r with
  | false => exact (uniB_none (hf rfl)).symm
  | true => obtain ⟨B, θ, ρ, n, -, -, h, -⟩ := ht rfl; exact (uniB_some h).symm

end Go.Proofs.YtfjodhgbbefkjaaGreatDoor

/- Walks of package unify: code, named. -/
namespace Go.Proofs.YtfjodhgbbefkjaaGreatDoor
open Go Go.RowKit Go.Maps

def namRel (t : List Int) (w : World) (out i : Value) (wr : World) : Prop :=
  ∃ k : Nat, i = .int .i64 k ∧ k ≤ t.length ∧ IMap Tryz.prog 3 3 wr w.heap.size (varsC (t.take k)).length (nameF t k) ∧ OwnI wr (w.heap.size + 1) out ((t.take k).map (canonW (varsC t))) ∧ Below w.heap.size w wr
theorem nam_push {w : World} {base : Nat} {v : Value} {l : List Int} (ho : OwnI w base v l) (x : Int) (hx : inRange x) (hl : l.length ≤ 10000000) (hb : base ≤ w.heap.size) :
    ∃ v' w', RowKit.Hid ((Builtin.append_ #[41, 41] 41 #[v, .slice (some ⟨w.heap.size, 0, none⟩) 1 1]).run Tryz.prog (w.alloc (.cells #[.int .i64 x] 3)) = .ok v' w') ∧ RowKit.Hid (OwnI w' base v' (l ++ [x])) ∧ RowKit.Hid (w.grownBy w' v.ownBlock) := by
  obtain ⟨v', w', hrun, ho', hg, -⟩ := ho.push (P := Tryz.prog) (t := 41) (ty := 41) Tryz.underlying41 infoInt rfl (vs := [.int .i64 x]) (x := x) ⟨rfl, hx⟩ (by omega) (by unfold big; omega) hb
  exact ⟨v', w', Lib.hid hrun, Lib.hid ho', Lib.hid hg⟩
end Go.Proofs.YtfjodhgbbefkjaaGreatDoor

/- Walks of package unify: full, made, Meet. -/
namespace Go.Proofs.YtfjodhgbbefkjaaGreatDoor
open Go Go.RowKit Go.Maps

/-- only what lies from K on, and the box B0, has turned -/
structure FB (K B0 : Nat) (w w' : World) : Prop where
  os : w'.os = w.os
  tape : w'.tape = w.tape
  output : w'.output = w.output
  size : w.heap.size ≤ w'.heap.size
  block : ∀ b, b < K → b ≠ B0 → w'.heap[b]? = w.heap[b]?
section
variable {K B0 : Nat} {w w1 w2 : World}
theorem FB.refl (K B0 : Nat) (w : World) : FB K B0 w w := ⟨rfl, rfl, rfl, Nat.le_refl _, fun _ _ _ => rfl⟩
theorem FB.trans (h : FB K B0 w w1) (k : FB K B0 w1 w2) : FB K B0 w w2 := ⟨k.os.trans h.os, k.tape.trans h.tape, k.output.trans h.output, Nat.le_trans h.size k.size, fun b hb hne => (k.block b hb hne).trans (h.block b hb hne)⟩
theorem FB.below (h : FB K B0 w w1) {C : Nat} (h1 : C ≤ K) (h2 : C ≤ B0) : Below C w w1 := ⟨h.os, h.tape, h.output, h.size, fun b hb => h.block b (by omega) (by omega)⟩
theorem FB.cell (h : FB K B0 w w1) {b off : Nat} {v : Value} (hb : b < K) (hne : b ≠ B0) (hc : w.cell? ⟨b, off, none⟩ = some v) : w1.cell? ⟨b, off, none⟩ = some v := (World.cell?_of_block (w := w) (h.block b hb hne)).trans hc
end
section
variable {w0 w w1 : World} {xb mb nb : Nat} {a1 : Option Addr} {c1 : Nat} {s : Sg} {B : Bd} {xx wb ob K : Nat} {o o' : List Int}
end
theorem len_app (a b : List Int) : (a ++ b).length = a.length + b.length := List.length_append
theorem ap_cut {θ : Int → List Int} {t : List Int} {j : Nat} (h : j < t.length) : ap θ (t.take (j + 1)) = ap θ (t.take j) ++ ap θ [t[j]] ∧ (ap θ (t.take j) ++ ap θ [t[j]]).length ≤ (ap θ t).length := by
  have e : ap θ (t.take (j + 1)) = ap θ (t.take j) ++ ap θ [t[j]] := by rw [List.take_succ_eq_append_getElem h, ap_append]
  refine ⟨e, ?_⟩
  rw [← e]
  have : ap θ t = ap θ (t.take (j + 1)) ++ ap θ (t.drop (j + 1)) := by rw [← ap_append, List.take_append_drop]
  rw [this, List.length_append]; omega
end Go.Proofs.YtfjodhgbbefkjaaGreatDoor

/- Walks of package unify: full, made, Meet. -/
namespace Go.Proofs.YtfjodhgbbefkjaaGreatDoor
open Go Go.RowKit Go.Maps

theorem retE.below {r : List Int × Int} {w w1 : World} {e : Ending} {w' : World} (h : retE r w1 e w') (hb : Below w.heap.size w w1) : retE r w e w' := by
  obtain ⟨v, h1, h2, h3⟩ := h
  exact ⟨v, h1, OwnL.baseMono h2 hb.size, bcall hb h3⟩
end Go.Proofs.YtfjodhgbbefkjaaGreatDoor

/- Walks of package kernel: steps in memory; right, valid, ValidGivens, asked. -/
namespace Go.Proofs.YtfjodhgbbefkjaaGreatDoor
open Go Go.RowKit Go.Maps

/-- struct { Kind, A, B int } -/
def stpE : Enc Stp := pairE intE (pairE intE intE)
abbrev Steps := Sl stpE
abbrev stpV (x : Stp) : Value := .agg #[.int .i64 x.1, .int .i64 x.2.1, .int .i64 x.2.2]
def stpR (x : Stp) : Prop := inRange x.1 ∧ inRange x.2.1 ∧ inRange x.2.2
theorem Sl.stp {S : Nat → Prop} {w : World} {a : Option Addr} {c : Nat} {l : List Stp} (h : Steps S w a c l) (i : Nat) (hi : i < l.length) :
    ∃ b off, a = some ⟨b, off, none⟩ ∧ S b ∧ w.cell? ⟨b, off + i * 3, none⟩ = some (.int .i64 l[i].1) ∧ w.cell? ⟨b, off + i * 3 + 1, none⟩ = some (.int .i64 l[i].2.1) ∧ w.cell? ⟨b, off + i * 3 + 2, none⟩ = some (.int .i64 l[i].2.2) ∧ stpR l[i] := by
  obtain ⟨b, off, ha, hb, _, vs, _, hv, hr⟩ := h.at1 i hi
  obtain ⟨us, ts, rfl, ⟨rfl, h1⟩, us', ts', rfl, ⟨rfl, h2⟩, ⟨rfl, h3⟩⟩ := hr
  have h0 := hv 0 (by simp)
  have h4 := hv 1 (by simp)
  have h5 := hv 2 (by simp)
  simp [stpE, pairE, intE] at h0 h4 h5
  exact ⟨b, off, ha, hb, h0, h4, h5, h1, h2, h3⟩

theorem okSteps_snoc {G : Int} : ∀ (p : List Stp) (n : Nat) (x : Stp), okSteps G n (p ++ [x]) = (okSteps G n p && rightB G (n + p.length) x)
  | [], n, x => by simp [okSteps]
  | y :: p, n, x => by
    rw [List.cons_append, okSteps, okSteps, okSteps_snoc p (n + 1) x, Bool.and_assoc, List.length_cons, show n + 1 + p.length = n + (p.length + 1) by omega]
theorem okSteps_take {G : Int} : ∀ (p : List Stp) (n k : Nat), okSteps G n p = true → okSteps G n (p.take k) = true
  | [], _, _, _ => by simp [okSteps]
  | x :: p, n, 0, _ => rfl
  | x :: p, n, k + 1, h => by
    simp only [okSteps, Bool.and_eq_true] at h
    rw [List.take_succ_cons, okSteps, Bool.and_eq_true]
    exact ⟨h.1, okSteps_take p (n + 1) k h.2⟩
end Go.Proofs.YtfjodhgbbefkjaaGreatDoor

/- Facts of the program's types that the rows over the kernel want; the start of a row that lists variables. -/
namespace Go.Proofs.YtfjodhgbbefkjaaGreatDoor
open Go Go.RowKit Go.ChangeShapes Go.WideShapes Go.ChangeAt Go.Deep

theorem gives3 {P : Program} {t : TypeId} {α β γ : Type} {E : Enc α} {F : Enc β} {G : Enc γ} {f0 f1 f2 : Field} (ht : P.underlying t = some (.struct #[f0, f1, f2])) (h0 : f0.offset = 0) (h1 : f1.offset = E.size) (h2 : f2.offset = E.size + F.size) (hc : P.cellsOf t = E.size + (F.size + G.size))
    (hc0 : P.cellsOf f0.type = E.size) (hc1 : P.cellsOf f1.type = F.size) (hc2 : P.cellsOf f2.type = G.size) (g0 : Gives P f0.type E) (g1 : Gives P f1.type F) (g2 : Gives P f2.type G) : Gives P t (pairE E (pairE F G)) := by
  intro H enc w base spare held n cs x h
  obtain ⟨y0, y1, y2, n', _, hl, r0, r1, r2⟩ := trod_struct3 ht h
  obtain ⟨a, ha⟩ := g0 H enc w base spare held n' _ _ r0
  obtain ⟨b, hb⟩ := g1 H enc w base spare held n' _ _ r1
  obtain ⟨c, hcc⟩ := g2 H enc w base spare held n' _ _ r2
  refine ⟨(a, b, c), _, _, ?_, ha, _, _, rfl, hb, hcc⟩
  rw [h0, h1, h2, hc0, hc1, hc2, List.drop_zero]
  have e1 : (cs.drop (E.size + F.size)).take G.size = cs.drop (E.size + F.size) := List.take_of_length_le (by simp; omega)
  rw [e1, ← List.drop_drop, List.take_append_drop, List.take_append_drop]
theorem gives_array2 {P : Program} {t e : TypeId} {α : Type} {E : Enc α} (ht : P.underlying t = some (.array 2 e)) (hc : P.cellsOf t = E.size + E.size) (he : P.cellsOf e = E.size) (g : Gives P e E) : Gives P t (pairE E E) := by
  intro H enc w base spare held n cs x h
  obtain ⟨xs, m, _, _, hl, hx, hf⟩ := DataW.trod_array ht h
  match xs, hx with
  | [x0, x1], _ =>
    obtain ⟨a, ha⟩ := g H enc w base spare held m _ _ (hf 0 (by omega))
    obtain ⟨b, hb⟩ := g H enc w base spare held m _ _ (hf 1 (by omega))
    refine ⟨(a, b), _, _, ?_, ha, hb⟩
    rw [he, Nat.zero_mul, Nat.one_mul, List.drop_zero]
    have e1 : (cs.drop E.size).take E.size = cs.drop E.size := List.take_of_length_le (by simp; omega)
    rw [e1, List.take_append_drop]
end Go.Proofs.YtfjodhgbbefkjaaGreatDoor

/- Walks: the dictionary that changes nothing, of both sides; ways appended. -/
namespace Go.Proofs.YtfjodhgbbefkjaaGreatDoor
open Go Go.RowKit Go.Maps

theorem OwnW.pushU {w wr W : World} {out : Value} {l l' : Ways} (ho : OwnW wr w.heap.size out l) (hB : Below w.heap.size w wr) (hb : Below wr.heap.size wr W) {x : Int × List Int} {S1 : Nat → Prop} {a : Option Addr} {c : Nat} (hx : inRange x.1) (hI : Ints S1 W a c x.2) (hS : ∀ b, S1 b → wr.heap.size ≤ b) (hl' : l' = l ++ [x]) (hl : l.length ≤ 100000) :
    ∃ v' w', RowKit.Hid ((Builtin.append_ #[26, 26] 26 #[out, .slice (some ⟨W.heap.size, 0, none⟩) 1 1]).run Tryz.prog (W.alloc (.cells #[.int .i64 x.1, .slice a x.2.length c] 78)) = .ok v' w') ∧ RowKit.Hid (OwnW w' w.heap.size v' l') ∧ RowKit.Hid (Below w.heap.size w w') := by
  have hB2 := bcall hB hb
  have ho1 := OwnL.call ho hb
  obtain ⟨v', w', hrun, ho', hg, -⟩ := ho1.push (P := Tryz.prog) (t := 26) (ty := 26) Tryz.underlying26 infoWay rfl (vs := [.int .i64 x.1, .slice a x.2.length c]) (x := x)
    ⟨[.int .i64 x.1], [.slice a x.2.length c], rfl, ⟨rfl, hx⟩, ⟨a, c, rfl, hI.mono (fun b _ hb => ⟨trivial, fun e => by
      have := (OwnL.lt ho b e.symm).2
      have := hS b hb
      omega⟩) (.refl _ _)⟩⟩ (by omega) (by unfold big; omega) hB2.size
  exact ⟨v', w', Lib.hid hrun, Lib.hid (by rw [hl']; exact ho'), Lib.hid (hB2.grown hg hB2.size (fun k e => (ho1.lt k e).1))⟩
def retWs (w : World) (l : Ways) (e : Ending) (w' : World) : Prop := ∃ v, e = .returned v ∧ OwnW w' w.heap.size v l ∧ Below w.heap.size w w'
def itsE (s : Sg) : Ways × Int := if okSign s = true then (itsD s s.length, 0) else ([], 1)
theorem itsD_len (s : Sg) : ∀ k, (itsD s k).length = k
  | 0 => rfl
  | k + 1 => by rw [itsD, List.length_append, itsD_len s k]; rfl
theorem arAt_nat {s : Sg} (hs : okSign s = true) {k : Nat} (hk : k < s.length) : ∃ n : Nat, s[k].2 = (n : Int) ∧ n ≤ 3 ∧ (arAt s k).toNat = n ∧ arAt s k = n := by
  obtain ⟨h1, h2⟩ := ar_at hs (n := (k : Int)) (by omega) (by omega)
  have h3 := (arC_ok hs h2).2
  have e : s[k].2 = arAt s (k : Int) := by unfold arAt; rw [Int.toNat_natCast, List.getD_eq_getElem?_getD, List.getElem?_eq_getElem hk]; rfl
  exact ⟨ar s k, by rw [e, h1], h3, by omega, h1.symm⟩
theorem rcount_any (n : Nat) (hn : n ≤ 100000) (w : World) : Calls Tryz.prog 59 #[.int .i64 n] w (retOwn w (ascL n)) := by
  go_enter Tryz.func59, Tryz.ntmps59
  go_wp2_with fail
  go_loopw [3, 4] (fun out i wr => ascRel n w out i wr) (fun _ i _ => n - (intOf i).toNat)
  case atStart => exact ⟨0, rfl, Nat.zero_le _, .nil _ _ _ _ _, .refl _ _⟩
  case round =>
    obtain ⟨k, rfl, hk, ho, hB⟩ := hrel
    by_cases hlt : k < n
    · obtain ⟨v', w', hrun', ho', hB'⟩ := OwnI.pushU (l' := ascL (k + 1)) ho hB (.refl _ _) (x := (k : Int)) (by unfold inRange; omega) (ascL_succ k) (by rw [ascL_len]; omega)
      clear ho hB
      go_wp2_with (at_builtin; refine wpList_append_run rfl _ _ _ rfl rfl rfl hrun'.out ?_)
      go_roundw
      case rel => exact ⟨k + 1, by go_num, hlt, ho'.out, hB'.out⟩
      case measure => simp [intOf]; omega
    · have hkn : k = n := by omega
      subst hkn
      have hoH := Lib.hid ho
      have hBH := Lib.hid hB
      clear ho hB
      go_wp2_with fail
      go_ret
      exact ⟨_, rfl, hoH.out, hBH.out⟩
def itRel (s : Sg) (w : World) (out i : Value) (wr : World) : Prop := ∃ k : Nat, i = .int .i64 k ∧ k ≤ s.length ∧ OwnW wr w.heap.size out (itsD s k) ∧ Below w.heap.size w wr
set_option maxRecDepth 20000 in
set_option maxHeartbeats 1000000 in
theorem itself_any {S1 : Nat → Prop} (a1 : Option Addr) (c1 : Nat) (s : Sg) (w : World) (h1 : Sign S1 w a1 c1 s) (hs : okSign s = true) :
    Calls Tryz.prog 79 #[.slice a1 s.length c1] w (retWs w (itsD s s.length)) := by
  have m1 := h1.le
  have hl := okSign_len hs
  have h1H := Lib.hid h1
  have hsH := Lib.hid hs
  clear h1 hs
  go_enter Tryz.func79, Tryz.ntmps79
  go_wp2_with fail
  go_loopw [3, 8] (fun out i wr => itRel s w out i wr) (fun _ i _ => s.length - (intOf i).toNat)
  case atStart => exact ⟨0, rfl, Nat.zero_le _, .nil _ _ _ _ _, .refl _ _⟩
  case round =>
    obtain ⟨k, rfl, hk, ho, hB⟩ := hrel
    by_cases hlt : k < s.length
    · obtain ⟨b1, o1, rfl, -, r0, r1, -, -⟩ := (h1H.out.below hB).sym k hlt
      obtain ⟨n, e1, e2, e3, e4⟩ := arAt_nat hsH.out hlt
      rw [e1] at r1
      obtain ⟨N, hN⟩ : ∃ N, s[k].1 = N := ⟨_, rfl⟩
      rw [hN] at r0
      have hsucc : itsD s (k + 1) = itsD s k ++ [((k : Int), ascL n)] := by rw [itsD, e3]
      obtain ⟨W1, hW1⟩ : ∃ W1, wr.alloc (.cells #[.string N, .int .i64 (n : Int)] 72) = W1 := ⟨_, rfl⟩
      have hb1 : Below wr.heap.size wr W1 := by rw [← hW1]; exact below1 _ _
      have p1 : W1.cell? ⟨wr.heap.size, 1, none⟩ = some (.int .i64 (n : Int)) := by rw [← hW1]; clear hW1; go_simp
      have hc := Lib.hid (ascending_any n (by omega) W1)
      have hoH := Lib.hid ho
      have hBH := Lib.hid hB
      have hsH2 := Lib.hid hsucc
      have hb1H := Lib.hid hb1
      clear ho hB e1 e3 e4 hN hsucc hb1
      go_wp2_with fail
      (with_reducible refine hc.out.mono ?_)
      rintro e w2 ⟨v2, rfl, ho2, hb2⟩
      obtain ⟨a2, c2, rfl, hI2⟩ := OwnI.ints ho2
      obtain ⟨v', w', hrun', ho', hB'⟩ := OwnW.pushU hoH.out hBH.out (bcall hb1H.out hb2) (x := ((k : Int), ascL n)) (by show inRange (k : Int); unfold inRange; omega) hI2 (fun b hb => Nat.le_trans hb1H.out.size hb) hsH2.out (by rw [itsD_len]; omega)
      clear ho2 hI2 hb2 hoH hBH hsH2 hb1H hc hW1
      go_wp2_with (at_builtin; refine wpList_append_run rfl _ _ _ rfl rfl rfl hrun'.out ?_)
      go_roundw
      case rel => exact ⟨k + 1, by go_num, hlt, ho'.out, hB'.out⟩
      case measure => simp [intOf]; omega
    · have hkn : k = s.length := by omega
      subst hkn
      have hoH := Lib.hid ho
      have hBH := Lib.hid hB
      clear ho hB
      go_wp2_with fail
      go_ret
      exact ⟨_, rfl, hoH.out, hBH.out⟩
theorem Itself_any {S1 : Nat → Prop} (a1 : Option Addr) (c1 : Nat) (s : Sg) (w : World) (h1 : Sign S1 w a1 c1 s) :
    Calls Tryz.prog 37 #[.slice a1 s.length c1] w (retWE (itsE s) w) := by
  have m1 := h1.le
  have v1 := ValidSign_any a1 c1 s w h1
  unfold itsE
  cases hx : okSign s with
  | false =>
    rw [hx] at v1
    have v1H := Lib.hid v1
    clear v1 h1 hx
    go_enter Tryz.func37, Tryz.ntmps37
    go_wp2_with fail
    refine v1H.out.mono ?_
    rintro e w1 ⟨rfl, hb1⟩
    go_wp2_with fail
    go_ret2
    exact ⟨_, _, rfl, Sl.empty, hb1⟩
  | true =>
    rw [hx] at v1
    have c2 := Lib.hid (fun W (hb : Below w.heap.size w W) => itself_any a1 c1 s W (h1.below hb) hx)
    have v1H := Lib.hid v1
    clear v1 h1 hx
    go_enter Tryz.func37, Tryz.ntmps37
    go_wp2_with fail
    refine v1H.out.mono ?_
    rintro e w1 ⟨rfl, hb1⟩
    go_wp2_with fail
    refine (c2.out _ hb1).mono ?_
    rintro e w2 ⟨v2, rfl, ho2, hb2⟩
    obtain ⟨aZ, cZ, rfl, hW⟩ := OwnL.sl ho2
    go_wp2_with fail
    go_ret2
    exact ⟨_, _, rfl, Sl.any hW, bcall hb1 hb2⟩
set_option maxRecDepth 20000 in
set_option maxHeartbeats 1000000 in
theorem rItself_any {S1 : Nat → Prop} (a1 : Option Addr) (c1 : Nat) (s : Sg) (w : World) (h1 : Sign S1 w a1 c1 s) :
    Calls Tryz.prog 38 #[.slice a1 s.length c1] w (retWE (itsE s) w) := by
  have m1 := h1.le
  have v1 := rValidSign_any a1 c1 s w h1
  unfold itsE
  cases hx : okSign s with
  | false =>
    rw [hx] at v1
    have v1H := Lib.hid v1
    clear v1 h1 hx
    go_enter Tryz.func38, Tryz.ntmps38
    go_wp2_with fail
    refine v1H.out.mono ?_
    rintro e w1 ⟨rfl, hb1⟩
    go_wp2_with fail
    go_ret2
    exact ⟨_, _, rfl, Sl.empty, hb1.below _⟩
  | true =>
    rw [hx] at v1
    have hl := okSign_len hx
    have hsH := Lib.hid hx
    have h1H := Lib.hid h1
    have v1H := Lib.hid v1
    clear v1 h1 hx
    go_enter Tryz.func38, Tryz.ntmps38
    go_wp2_with fail
    refine v1H.out.mono ?_
    rintro e w1 ⟨rfl, hb1⟩
    have hb1H := Lib.hid (hb1.below w.heap.size)
    clear v1H hb1
    go_wp2_with fail
    go_loopw [4, 5] (fun out i wr => itRel s w out i wr) (fun _ i _ => s.length - (intOf i).toNat)
    case atStart => exact ⟨0, rfl, Nat.zero_le _, .nil _ _ _ _ _, hb1H.out⟩
    case round =>
      obtain ⟨k, rfl, hk, ho, hB⟩ := hrel
      by_cases hlt : k < s.length
      · obtain ⟨b1, o1, rfl, -, r0, r1, -, -⟩ := (h1H.out.below hB).sym k hlt
        obtain ⟨n, e1, e2, e3, e4⟩ := arAt_nat hsH.out hlt
        rw [e1] at r1
        have hsucc : itsD s (k + 1) = itsD s k ++ [((k : Int), ascL n)] := by rw [itsD, e3]
        have hc := Lib.hid (rcount_any n (by omega) wr)
        have hoH := Lib.hid ho
        have hBH := Lib.hid hB
        have hsH2 := Lib.hid hsucc
        clear ho hB e1 e3 e4 hsucc r0
        go_wp2_with fail
        (with_reducible refine hc.out.mono ?_)
        rintro e w2 ⟨v2, rfl, ho2, hb2⟩
        obtain ⟨a2, c2, rfl, hI2⟩ := OwnI.ints ho2
        obtain ⟨v', w', hrun', ho', hB'⟩ := OwnW.pushU hoH.out hBH.out hb2 (x := ((k : Int), ascL n)) (by show inRange (k : Int); unfold inRange; omega) hI2 (fun b hb => hb) hsH2.out (by rw [itsD_len]; omega)
        clear ho2 hI2 hb2 hoH hBH hsH2 hc
        go_wp2_with (at_builtin; refine wpList_append_run rfl _ _ _ rfl rfl rfl hrun'.out ?_)
        go_roundw
        case rel => exact ⟨k + 1, by go_num, hlt, ho'.out, hB'.out⟩
        case measure => simp [intOf]; omega
      · have hkn : k = s.length := by omega
        subst hkn
        obtain ⟨aZ, cZ, rfl, hW⟩ := OwnL.sl ho
        have hWH := Lib.hid hW
        have hBH := Lib.hid hB
        clear ho hB hW
        go_wp2_with fail
        go_ret2
        exact ⟨_, _, rfl, Sl.any hWH.out, hBH.out⟩
end Go.Proofs.YtfjodhgbbefkjaaGreatDoor

/- Walks: First of both sides. -/
namespace Go.Proofs.YtfjodhgbbefkjaaGreatDoor
open Go Go.RowKit Go.Maps

/-- the first symbol with so many arguments -/
def fstI (b : Sg) (r : Int) : Nat := b.findIdx (fun y => decide (y.2 = r))
def fstD (a b : Sg) : Nat → Ways
  | 0 => []
  | k + 1 => fstD a b k ++ [((fstI b (arAt a k) : Int), ascL (arAt a k).toNat)]
def fstOk (a b : Sg) : Nat → Bool
  | 0 => true
  | k + 1 => fstOk a b k && decide (fstI b (arAt a k) < b.length)
def fstE (a b : Sg) : Ways × Int := if (okSign a && okSign b) = true then (if fstOk a b a.length = true then (fstD a b a.length, 0) else ([], 8)) else ([], 1)
theorem fstD_len (a b : Sg) : ∀ k, (fstD a b k).length = k
  | 0 => rfl
  | k + 1 => by rw [fstD, List.length_append, fstD_len a b k]; rfl
theorem fstOk_at {a b : Sg} : ∀ {k : Nat}, fstOk a b k = true → ∀ i, i < k → fstI b (arAt a i) < b.length
  | 0, _, i, hi => by omega
  | k + 1, h, i, hi => by
    rw [fstOk, Bool.and_eq_true, decide_eq_true_eq] at h
    by_cases e : i = k
    · rw [e]; exact h.2
    · exact fstOk_at h.1 i (by omega)
theorem fstOk_no {a b : Sg} {i : Nat} (h : ¬ fstI b (arAt a i) < b.length) : ∀ {k : Nat}, i < k → fstOk a b k = false
  | 0, hk => by omega
  | k + 1, hk => by
    rw [fstOk]
    by_cases e : i = k
    · rw [← e, decide_eq_false h, Bool.and_false]
    · rw [fstOk_no h (k := k) (by omega), Bool.false_and]
theorem fstD_get (a b : Sg) : ∀ {k i : Nat}, i < k → (fstD a b k).getD i (0, []) = ((fstI b (arAt a i) : Int), ascL (arAt a i).toNat)
  | 0, i, h => by omega
  | k + 1, i, h => by
    rw [fstD]
    by_cases e : i = k
    · rw [e, List.getD_eq_getElem?_getD, List.getElem?_append_right (by rw [fstD_len]; omega), fstD_len, Nat.sub_self]; rfl
    · rw [List.getD_eq_getElem?_getD, List.getElem?_append_left (by rw [fstD_len]; omega), ← List.getD_eq_getElem?_getD, fstD_get a b (by omega)]
theorem fstI_get {b : Sg} {r : Int} (h : fstI b r < b.length) : arAt b (fstI b r : Int) = r := by
  have h2 : b[fstI b r].2 = r := by
    have := List.findIdx_getElem (xs := b) (p := fun y : ByteArray × Int => decide (y.2 = r)) (w := h)
    exact of_decide_eq_true this
  unfold arAt
  rw [Int.toNat_natCast, List.getD_eq_getElem?_getD, List.getElem?_eq_getElem h, Option.getD_some]
  exact h2
theorem fst_valid {a b : Sg} (ha : okSign a = true) (hb : okSign b = true) (h : fstOk a b a.length = true) : validD a b (fstD a b a.length) = true := by
  have hl := okSign_len ha
  have hlb := okSign_len hb
  have a0 : arAt a 0 = 2 := by unfold okSign at ha; simp only [Bool.and_eq_true, decide_eq_true_eq] at ha; exact ha.2
  have b0 : arAt b 0 = 2 := by unfold okSign at hb; simp only [Bool.and_eq_true, decide_eq_true_eq] at hb; exact hb.2
  have f0 : fstI b 2 = 0 := by
    unfold fstI
    cases b with
    | nil => simp at hlb
    | cons y r =>
      rw [List.findIdx_cons]
      have : y.2 = 2 := b0
      simp [this]
  have g0 := fstD_get a b (k := a.length) (i := 0) (by omega)
  rw [show ((0 : Nat) : Int) = 0 from rfl, a0, f0] at g0
  refine validD_of ha hb (fstD_len a b _) (by rw [g0]; rfl) (by rw [g0]; rfl) (fun i hi => ?_)
  rw [fstD_len] at hi
  rw [fstD_get a b hi]
  have hlt := fstOk_at h i hi
  obtain ⟨n, e1, e2, e3, e4⟩ := arAt_nat ha hi
  have he : arAt b (fstI b (arAt a i) : Int) = arAt a i := fstI_get hlt
  unfold wayOk
  rw [Bool.and_eq_true, Bool.and_eq_true, Bool.and_eq_true, Bool.and_eq_true, decide_eq_true_eq, decide_eq_true_eq, decide_eq_true_eq, decide_eq_true_eq]
  refine ⟨⟨by show (0 : Int) ≤ (fstI b (arAt a i) : Int); omega, by show (fstI b (arAt a i) : Int) ≤ _; omega⟩, he, by rw [ascL_len]; omega, ordB_of_perm (by rw [ascL_len])⟩
theorem fstI_of {b : Sg} {r : Int} {k : Nat} (hk : k < b.length) (h : b[k].2 = r) (hb : ∀ (j : Nat) (hj : j < b.length), j < k → b[j].2 ≠ r) : fstI b r = k := by
  unfold fstI
  rw [List.findIdx_eq hk]
  exact ⟨by simpa using h, fun j hj => by simpa using hb j (by omega) hj⟩
theorem fstI_no {b : Sg} {r : Int} (h : ∀ (j : Nat) (hj : j < b.length), b[j].2 ≠ r) : fstI b r = b.length := by
  unfold fstI
  rw [List.findIdx_eq_length]
  intro x hx
  obtain ⟨j, hj, rfl⟩ := List.getElem_of_mem hx
  simpa using h j hj
set_option maxHeartbeats 1000000 in
theorem FirstF_any (N : ByteArray) (r r2 : Int) (bx : Nat) (w : World) (hq : w.cell? ⟨bx, 1, none⟩ = some (.int .i64 r)) :
    Calls Tryz.prog 56 #[.agg #[.string N, .int .i64 r2], .pointer (some ⟨bx, 0, none⟩)] w fun e w' => e = .returned (.bool (r2 == r)) ∧ Below w.heap.size w w' := by
  obtain ⟨W1, hW1⟩ : ∃ W1, w.alloc (.cells #[.string N, .int .i64 r2] 72) = W1 := ⟨_, rfl⟩
  have hb1 : Below w.heap.size w W1 := by rw [← hW1]; exact below1 _ _
  have p1 : W1.cell? ⟨w.heap.size, 1, none⟩ = some (.int .i64 r2) := by rw [← hW1]; clear hW1; go_simp
  have q1 := cell_later hb1 hq
  have hbH := Lib.hid hb1
  clear hq hb1
  go_enter Tryz.func56, Tryz.ntmps56
  go_wp2_with fail
  go_ret
  exact ⟨rfl, hbH.out⟩
def ixF (b : Sg) (r : Int) : Int := if fstI b r < b.length then (fstI b r : Int) else -1
def ixRel (b : Sg) (r : Int) (w : World) (i : Value) (wr : World) : Prop := ∃ k : Nat, i = .int .i64 k ∧ k ≤ b.length ∧ (∀ (j : Nat) (hj : j < b.length), j < k → b[j].2 ≠ r) ∧ Below w.heap.size w wr
set_option maxHeartbeats 1000000 in
theorem IndexSy_any {S : Nat → Prop} (r : Int) (a : Option Addr) (c : Nat) (b : Sg) (bx : Nat) (w : World) (h : Sign S w a c b) (hq : w.cell? ⟨bx, 1, none⟩ = some (.int .i64 r)) :
    Calls Tryz.prog 55 #[.slice a b.length c, .func (.func 56) #[] #[.pointer (some ⟨bx, 0, none⟩)]] w fun e w' => e = .returned (.int .i64 (ixF b r)) ∧ Below w.heap.size w w' := by
  have m2 := h.le
  have hH := Lib.hid h
  have hqH := Lib.hid (fun (W : World) (hb : Below w.heap.size w W) => cell_later hb hq)
  clear hq h
  go_enter Tryz.func55, Tryz.ntmps55
  go_wp2_with fail
  go_loopw [8] (fun i wr => ixRel b r w i wr) (fun i _ => b.length - (intOf i).toNat)
  case atStart => exact ⟨0, rfl, Nat.zero_le _, fun j hj h => by omega, .refl _ _⟩
  case round =>
    obtain ⟨k, rfl, hk, hall, hB⟩ := hrel
    by_cases hlt : k < b.length
    · obtain ⟨bb, o, rfl, -, q0, q, -, -⟩ := (hH.out.below hB).sym k hlt
      have hst : b[k].2 ≠ r → ∀ (j : Nat) (hj : j < b.length), j < k + 1 → b[j].2 ≠ r := fun h0 j hj hm => by
        by_cases e : j = k
        · subst e; exact h0
        · exact hall j hj (by omega)
      have hfd : b[k].2 = r → ixF b r = (k : Int) := fun h0 => by
        have := fstI_of hlt h0 hall
        unfold ixF; rw [this, if_pos hlt]
      obtain ⟨z, hz⟩ : ∃ z, b[k].2 = z := ⟨_, rfl⟩
      obtain ⟨N, hN⟩ : ∃ z, b[k].1 = z := ⟨_, rfl⟩
      rw [hz] at hst hfd q
      rw [hN] at q0
      have cf1 := FirstF_any N r z bx wr (hqH.out wr hB)
      have hBH := Lib.hid hB
      clear hB hall hz hN
      by_cases hzr : z = r
      · rw [show (z == r) = true by simpa using hzr] at cf1
        have cfH := Lib.hid cf1
        have hf := Lib.hid (hfd hzr)
        clear cf1 hst hfd hzr
        go_wp2_with (go_at_call 56; refine cfH.out.mono ?_; rintro e w1 ⟨rfl, hb1⟩)
        go_ret
        rw [hf.out]
        exact ⟨rfl, bcall hBH.out hb1⟩
      · rw [show (z == r) = false by simpa using hzr] at cf1
        have cfH := Lib.hid cf1
        have hf := Lib.hid (hst hzr)
        clear cf1 hst hfd hzr
        go_wp2_with (go_at_call 56; refine cfH.out.mono ?_; rintro e w1 ⟨rfl, hb1⟩)
        go_roundw
        case rel => exact ⟨k + 1, by go_num, by omega, hf.out, bcall hBH.out hb1⟩
        case measure => simp [intOf]; omega
    · have hf : ixF b r = -1 := by
        have := fstI_no (b := b) (r := r) (fun j hj => hall j hj (by omega))
        unfold ixF; rw [if_neg (by omega)]
      have hfH := Lib.hid hf
      have hBH := Lib.hid hB
      clear hall hf hB
      go_wp2_with fail
      go_ret
      rw [hfH.out]
      exact ⟨rfl, hBH.out⟩
def fsRel (a b : Sg) (w : World) (out i : Value) (wr : World) : Prop := ∃ k : Nat, i = .int .i64 k ∧ k ≤ a.length ∧ fstOk a b k = true ∧ OwnW wr w.heap.size out (fstD a b k) ∧ Below w.heap.size w wr
set_option maxRecDepth 20000 in
set_option maxHeartbeats 1000000 in
theorem First_any {S1 S2 : Nat → Prop} (a1 a2 : Option Addr) (c1 c2 : Nat) (a b : Sg) (w : World) (h1 : Sign S1 w a1 c1 a) (h2 : Sign S2 w a2 c2 b) :
    Calls Tryz.prog 14 #[.slice a1 a.length c1, .slice a2 b.length c2] w (retWE (fstE a b) w) := by
  have m1 := h1.le
  have m2 := h2.le
  have v1 := ValidSign_any a1 c1 a w h1
  have v2 := fun W (hb : Below w.heap.size w W) => ValidSign_any a2 c2 b W (h2.below hb)
  unfold fstE
  cases hx : okSign a with
  | false =>
    rw [hx] at v1
    have v1H := Lib.hid v1
    clear v1 v2 h1 h2 hx
    go_enter Tryz.func14, Tryz.ntmps14
    go_wp2_with fail
    refine v1H.out.mono ?_
    rintro e w1 ⟨rfl, hb1⟩
    go_wp2_with fail
    go_ret2
    exact ⟨_, _, rfl, Sl.empty, hb1⟩
  | true =>
  rw [hx] at v1
  cases hy : okSign b with
  | false =>
    simp only [hy] at v2
    have v1H := Lib.hid v1
    have v2H := Lib.hid v2
    clear v1 v2 h1 h2 hx hy
    go_enter Tryz.func14, Tryz.ntmps14
    go_wp2_with fail
    refine v1H.out.mono ?_
    rintro e w1 ⟨rfl, hb1⟩
    go_wp2_with fail
    refine (v2H.out _ hb1).mono ?_
    rintro e w2 ⟨rfl, hb2⟩
    go_wp2_with fail
    go_ret2
    exact ⟨_, _, rfl, Sl.empty, bcall hb1 hb2⟩
  | true =>
  simp only [hy] at v2
  have v1H := Lib.hid v1
  have v2H := Lib.hid v2
  have h1H := Lib.hid h1
  have h2H := Lib.hid h2
  have hl := okSign_len hx
  have hxH := Lib.hid hx
  rw [show (true && true) = true from rfl, if_pos rfl]
  obtain ⟨R, hR⟩ : ∃ R, (if fstOk a b a.length = true then (fstD a b a.length, (0 : Int)) else ([], 8)) = R := ⟨_, rfl⟩
  rw [hR]
  have hRH := Lib.hid hR
  clear v1 v2 h1 h2 hx hy hR
  go_enter Tryz.func14, Tryz.ntmps14
  go_wp2_with fail
  refine v1H.out.mono ?_
  rintro e w1 ⟨rfl, hb1⟩
  go_wp2_with fail
  refine (v2H.out _ hb1).mono ?_
  rintro e w2 ⟨rfl, hb2⟩
  have hB2 := Lib.hid (bcall hb1 hb2)
  clear hb1 hb2 v1H v2H
  go_wp2_with fail
  go_loopw [6, 20] (fun out i wr => fsRel a b w out i wr) (fun _ i _ => a.length - (intOf i).toNat)
  case atStart => exact ⟨0, rfl, Nat.zero_le _, rfl, .nil _ _ _ _ _, hB2.out⟩
  case round =>
    obtain ⟨k, rfl, hk, hok, ho, hB⟩ := hrel
    by_cases hlt : k < a.length
    · obtain ⟨b1, o1, rfl, -, r0, r1, -, -⟩ := (h1H.out.below hB).sym k hlt
      obtain ⟨n, e1, e2, e3, e4⟩ := arAt_nat hxH.out hlt
      rw [e1] at r1
      obtain ⟨N, hN⟩ : ∃ N, a[k].1 = N := ⟨_, rfl⟩
      rw [hN] at r0
      obtain ⟨W1, hW1⟩ : ∃ W1, wr.alloc (.cells #[.string N, .int .i64 (n : Int)] 72) = W1 := ⟨_, rfl⟩
      have hb1 : Below wr.heap.size wr W1 := by rw [← hW1]; exact below1 _ _
      have p1 : W1.cell? ⟨wr.heap.size, 1, none⟩ = some (.int .i64 (n : Int)) := by rw [← hW1]; clear hW1; go_simp
      have hc1 := IndexSy_any (n : Int) a2 c2 b wr.heap.size W1 ((h2H.out.below hB).below hb1) p1
      have hst : fstI b (n : Int) < b.length → fstOk a b (k + 1) = true := fun h => by rw [fstOk, hok, e4, decide_eq_true h]; rfl
      have hbad : ¬ fstI b (n : Int) < b.length → fstOk a b a.length = false := fun h => fstOk_no (i := k) (by rw [e4]; exact h) hlt
      have hsucc : fstD a b (k + 1) = fstD a b k ++ [((fstI b (n : Int) : Int), ascL n)] := by rw [fstD, e4]; rfl
      unfold ixF at hc1
      obtain ⟨z, hz⟩ : ∃ z, fstI b (n : Int) = z := ⟨_, rfl⟩
      rw [hz] at hst hbad hsucc hc1
      by_cases hzb : z < b.length
      · rw [if_pos hzb] at hc1
        have hcH := Lib.hid hc1
        have hc := Lib.hid (fun W => ascending_any n (by omega) W)
        have hoH := Lib.hid ho
        have hBH := Lib.hid hB
        have hsH2 := Lib.hid hsucc
        have hb1H := Lib.hid hb1
        have hokH := Lib.hid (hst hzb)
        have p1H := Lib.hid (fun (W : World) (hb : Below W1.heap.size W1 W) => cell_later hb p1)
        clear ho hB e1 e3 e4 hN hsucc hb1 hc1 hz hst hbad hok
        go_wp2_with fail
        (with_reducible refine hcH.out.mono ?_)
        rintro e w5 ⟨rfl, hb5⟩
        have p5 := p1H.out _ hb5
        have hb5H := Lib.hid (bcall hb1H.out hb5)
        clear hb5 p1 hW1 hcH hb1H p1H
        go_wp2_with fail
        (with_reducible refine (hc.out _).mono ?_)
        rintro e w2 ⟨v2, rfl, ho2, hb2⟩
        obtain ⟨a2, c2, rfl, hI2⟩ := OwnI.ints ho2
        obtain ⟨v', w', hrun', ho', hB'⟩ := OwnW.pushU hoH.out hBH.out (bcall hb5H.out hb2) (x := ((z : Int), ascL n)) (by show inRange (z : Int); unfold inRange; omega) hI2 (fun b hb => Nat.le_trans hb5H.out.size hb) hsH2.out (by rw [fstD_len]; omega)
        clear ho2 hI2 hb2 hoH hBH hsH2 hb5H hc
        go_wp2_with (at_builtin; refine wpList_append_run rfl _ _ _ rfl rfl rfl hrun'.out ?_)
        go_roundw
        case rel => exact ⟨k + 1, by go_num, hlt, hokH.out, ho'.out, hB'.out⟩
        case measure => simp [intOf]; omega
      · rw [if_neg hzb] at hc1
        have hcH := Lib.hid hc1
        have hf := Lib.hid (hbad hzb)
        have hBH := Lib.hid (bcall hB hb1)
        clear ho hB e1 e3 e4 hN hsucc hb1 hc1 hz hst hbad hok hzb
        go_wp2_with fail
        (with_reducible refine hcH.out.mono ?_)
        rintro e w5 ⟨rfl, hb5⟩
        have hb5H := Lib.hid (bcall hBH.out hb5)
        clear hb5 hW1 hcH hBH
        go_wp2_with fail
        go_ret2
        have hR := hRH.out
        rw [if_neg (by rw [hf.out]; simp)] at hR
        rw [← hR]
        exact ⟨_, _, rfl, Sl.empty, hb5H.out⟩
    · have hkn : k = a.length := by omega
      subst hkn
      obtain ⟨aZ, cZ, rfl, hW⟩ := OwnL.sl ho
      have hWH := Lib.hid hW
      have hBH := Lib.hid hB
      have hokH := Lib.hid hok
      clear ho hB hW hok
      go_wp2_with fail
      go_ret2
      have hR := hRH.out
      rw [if_pos hokH.out] at hR
      rw [← hR]
      exact ⟨_, _, rfl, Sl.any hWH.out, hBH.out⟩
end Go.Proofs.YtfjodhgbbefkjaaGreatDoor

/- Walk: the reference's First. -/
namespace Go.Proofs.YtfjodhgbbefkjaaGreatDoor
open Go Go.RowKit Go.Maps

def rfRel (b : Sg) (r : Int) (w : World) (i : Value) (wr : World) : Prop := ∃ k : Nat, i = .int .i64 k ∧ k ≤ b.length ∧ (∀ (j : Nat) (hj : j < b.length), j < k → b[j].2 ≠ r) ∧ Drew w wr
set_option maxRecDepth 20000 in
set_option maxHeartbeats 2000000 in
theorem rFirst_any {S1 S2 : Nat → Prop} (a1 a2 : Option Addr) (c1 c2 : Nat) (a b : Sg) (w : World) (h1 : Sign S1 w a1 c1 a) (h2 : Sign S2 w a2 c2 b) :
    Calls Tryz.prog 15 #[.slice a1 a.length c1, .slice a2 b.length c2] w (retWE (fstE a b) w) := by
  have m1 := h1.le
  have m2 := h2.le
  have v1 := rValidSign_any a1 c1 a w h1
  have v2 := fun W (hb : Drew w W) => rValidSign_any a2 c2 b W (h2.drew hb)
  unfold fstE
  cases hx : okSign a with
  | false =>
    rw [hx] at v1
    have v1H := Lib.hid v1
    clear v1 v2 h1 h2 hx
    go_enter Tryz.func15, Tryz.ntmps15
    go_wp2_with fail
    refine v1H.out.mono ?_
    rintro e w1 ⟨rfl, hb1⟩
    go_wp2_with fail
    go_ret2
    exact ⟨_, _, rfl, Sl.empty, hb1.below _⟩
  | true =>
  rw [hx] at v1
  cases hy : okSign b with
  | false =>
    simp only [hy] at v2
    have v1H := Lib.hid v1
    have v2H := Lib.hid v2
    clear v1 v2 h1 h2 hx hy
    go_enter Tryz.func15, Tryz.ntmps15
    go_wp2_with fail
    refine v1H.out.mono ?_
    rintro e w1 ⟨rfl, hb1⟩
    go_wp2_with fail
    refine (v2H.out _ hb1).mono ?_
    rintro e w2 ⟨rfl, hb2⟩
    go_wp2_with fail
    go_ret2
    exact ⟨_, _, rfl, Sl.empty, (drew_trans3 hb1 hb2).below _⟩
  | true =>
  simp only [hy] at v2
  have v1H := Lib.hid v1
  have v2H := Lib.hid v2
  have h1H := Lib.hid h1
  have h2H := Lib.hid h2
  have hl := okSign_len hx
  have hlb := okSign_len hy
  have hxH := Lib.hid hx
  rw [show (true && true) = true from rfl, if_pos rfl]
  obtain ⟨R, hR⟩ : ∃ R, (if fstOk a b a.length = true then (fstD a b a.length, (0 : Int)) else ([], 8)) = R := ⟨_, rfl⟩
  rw [hR]
  have hRH := Lib.hid hR
  clear v1 v2 h1 h2 hx hy hR
  go_enter Tryz.func15, Tryz.ntmps15
  go_wp2_with fail
  refine v1H.out.mono ?_
  rintro e w1 ⟨rfl, hb1⟩
  go_wp2_with fail
  refine (v2H.out _ hb1).mono ?_
  rintro e w2 ⟨rfl, hb2⟩
  have hB2 := Lib.hid ((drew_trans3 hb1 hb2).below w.heap.size)
  clear hb1 hb2 v1H v2H
  go_wp2_with fail
  go_loopw [6, 7] (fun out i wr => fsRel a b w out i wr) (fun _ i _ => a.length - (intOf i).toNat)
  case atStart => exact ⟨0, rfl, Nat.zero_le _, rfl, .nil _ _ _ _ _, hB2.out⟩
  case round =>
    obtain ⟨k, rfl, hk, hok, ho, hB⟩ := hrel
    by_cases hlt : k < a.length
    · obtain ⟨w0, hw0⟩ : ∃ w0, w0 = wr := ⟨_, rfl⟩
      subst hw0
      obtain ⟨n, e1, e2, e3, e4⟩ := arAt_nat hxH.out hlt
      have hst : fstI b (n : Int) < b.length → fstOk a b (k + 1) = true := fun h => by rw [fstOk, hok, e4, decide_eq_true h]; rfl
      have hbad : ¬ fstI b (n : Int) < b.length → fstOk a b a.length = false := fun h => fstOk_no (i := k) (by rw [e4]; exact h) hlt
      have hsucc : fstD a b (k + 1) = fstD a b k ++ [((fstI b (n : Int) : Int), ascL n)] := by rw [fstD, e4]; rfl
      have h1w := h1H.out.below hB
      have r1L := fun (W : World) (hb : Drew w0 W) => by
        have := (h1w.drew hb).sym k hlt
        rw [e1] at this
        exact this
      obtain ⟨bA, oA, ha1, -⟩ := h1w.sym k hlt
      have hoH := Lib.hid ho
      have hBH := Lib.hid hB
      have hstH := Lib.hid hst
      have hbadH := Lib.hid hbad
      have hsuccH := Lib.hid hsucc
      have r1H := Lib.hid r1L
      have hokH := Lib.hid hok
      subst ha1
      clear ho hB hst hbad hsucc r1L h1w e1 e3 e4 hok
      go_wp2_with fail
      go_loopw [8] (fun j wr => rfRel b n w0 j wr) (fun j _ => b.length - (intOf j).toNat)
      case atStart => exact ⟨0, rfl, Nat.zero_le _, fun j hj h => by omega, Drew.refl _⟩
      case round =>
        obtain ⟨j, rfl, hj, hall, hD⟩ := hrel
        obtain ⟨b1, o1, he, -, -, r1, -, -⟩ := r1H.out _ hD
        simp only [Option.some.injEq, Addr.mk.injEq, and_true] at he
        obtain ⟨rfl, rfl⟩ := he
        by_cases hlt2 : j < b.length
        · obtain ⟨bb, o, rfl, -, q0, q, -, -⟩ := ((h2H.out.below hBH.out).drew hD).sym j hlt2
          have hst2 : b[j].2 ≠ n → ∀ (i : Nat) (hi : i < b.length), i < j + 1 → b[i].2 ≠ n := fun h0 i hi hm => by
            by_cases e : i = j
            · subst e; exact h0
            · exact hall i hi (by omega)
          have hfd : b[j].2 = n → fstI b n = j := fun h0 => fstI_of hlt2 h0 hall
          obtain ⟨z, hz⟩ : ∃ z, b[j].2 = z := ⟨_, rfl⟩
          rw [hz] at hst2 hfd q
          have hDH := Lib.hid hD
          clear hall hz q0 hD
          by_cases hzr : z = n
          · have hne : (z != (n : Int)) = false := by simpa using hzr
            have hf := hfd hzr
            have hsu := hsuccH.out
            have hsk := hstH.out
            rw [hf] at hsu hsk
            have hsuH := Lib.hid hsu
            have hskH := Lib.hid (hsk hlt2)
            have hnl : ((j : Int) == (b.length : Int)) = false := by simp; omega
            have hc := Lib.hid (fun W => rcount_any n (by omega) W)
            clear hst2 hfd hf hsu hsk hzr
            go_wp2_with fail
            go_quiet (fail)
            go_upto_region 12 with fail
            obtain ⟨W3, hW3⟩ : ∃ W3, wr.drewN nq = W3 := ⟨_, rfl⟩
            have hd3 : Drew w0 W3 := drew_trans3 hDH.out (by rw [← hW3]; exact Drew.mk _ _)
            rw [hW3]
            obtain ⟨b1, o1, he, -, -, r3, -, -⟩ := r1H.out _ hd3
            simp only [Option.some.injEq, Addr.mk.injEq, and_true] at he
            obtain ⟨rfl, rfl⟩ := he
            have hd3H := Lib.hid hd3
            clear hd3 hW3 r1 q
            go_wp2_with fail
            (with_reducible refine (hc.out _).mono ?_)
            rintro e w5 ⟨v2, rfl, ho2, hb2⟩
            obtain ⟨a2, c2, rfl, hI2⟩ := OwnI.ints ho2
            have hbb := bcall (hd3H.out.below w0.heap.size) hb2
            obtain ⟨v', w', hrun', ho', hB'⟩ := OwnW.pushU hoH.out hBH.out hbb (x := ((j : Int), ascL n)) (by show inRange (j : Int); unfold inRange; omega) hI2 (fun b hb => Nat.le_trans (hd3H.out.below w0.heap.size).size hb) hsuH.out (by rw [fstD_len]; omega)
            clear ho2 hI2 hb2 hbb hoH hBH hsuH hd3H hc
            go_wp2_with (at_builtin; refine wpList_append_run rfl _ _ _ rfl rfl rfl hrun'.out ?_)
            go_roundw
            case rel => exact ⟨k + 1, by go_num, hlt, hskH.out, ho'.out, hB'.out⟩
            case measure => simp [intOf]; omega
          · have hne : (z != (n : Int)) = true := by simpa using hzr
            have hf := Lib.hid (hst2 hzr)
            clear hst2 hfd hzr
            go_wp2_with fail
            go_quiet (fail)
            all_goals go_wp2_with fail
            go_roundw
            case rel => exact ⟨j + 1, by go_num, by omega, hf.out, drew_trans3 hDH.out (Drew.mk _ _)⟩
            case measure => simp [intOf]; omega
        · have hjj : j = b.length := by omega
          have hno := fstI_no (b := b) (r := n) (fun i hi => hall i hi (by omega))
          have hbd := Lib.hid (hbadH.out (by rw [hno]; omega))
          subst hjj
          have hDH := Lib.hid hD
          clear hall hno hD
          go_wp2_with fail
          go_quiet (fail)
          all_goals go_wp2_with fail
          all_goals go_ret2
          have hR := hRH.out
          rw [if_neg (by rw [hbd.out]; simp)] at hR
          rw [← hR]
          exact ⟨_, _, rfl, Sl.empty, hBH.out.trans ((drew_trans3 hDH.out (Drew.mk _ _)).below _)⟩
    · have hkn : k = a.length := by omega
      subst hkn
      obtain ⟨aZ, cZ, rfl, hW⟩ := OwnL.sl ho
      have hWH := Lib.hid hW
      have hBH := Lib.hid hB
      have hokH := Lib.hid hok
      clear ho hB hW hok
      go_wp2_with fail
      go_ret2
      have hR := hRH.out
      rw [if_pos hokH.out] at hR
      rw [← hR]
      exact ⟨_, _, rfl, Sl.any hWH.out, hBH.out⟩
end Go.Proofs.YtfjodhgbbefkjaaGreatDoor

/- The law TongueFirst, walked. -/
namespace Go.Proofs.YtfjodhgbbefkjaaGreatDoor
open Go Go.RowKit Go.Maps

set_option maxRecDepth 100000 in
set_option maxHeartbeats 8000000 in
theorem TongueFirst_walk {S1 S2 : Nat → Prop} (a1 : Option Addr) (c1 : Nat) (a : Sg) (a2 : Option Addr) (c2 : Nat) (b : Sg) (w : World) (h1 : Sign S1 w a1 c1 a) (h2 : Sign S2 w a2 c2 b) :
    Calls Tryz.prog 3 #[.slice a1 a.length c1, .slice a2 b.length c2] w fun e w' => e = .returned (.bool true) ∧ Below w.heap.size w w' := by
  have m1 := h1.le
  have m2 := h2.le
  have s1 : Calls Tryz.prog 12 #[.slice a1 a.length c1, .slice none 0 0] w fun e w' => e = .returned (.bool (smallT a [])) ∧ w = w' := Small_any a1 none c1 0 a [] w h1 (Sl.empty (S := fun _ => True))
  have s2 : Calls Tryz.prog 12 #[.slice a2 b.length c2, .slice none 0 0] w fun e w' => e = .returned (.bool (smallT b [])) ∧ w = w' := Small_any a2 none c2 0 b [] w h2 (Sl.empty (S := fun _ => True))
  have aw := Lib.hid (fun W' (hb : Below w.heap.size w W') => aw3_from hb (Nat.le_refl _))
  have s1H := Lib.hid s1
  have s2H := Lib.hid s2
  cases hs : smallT a [] with
  | false =>
    rw [hs] at s1H
    clear s1 s2 h1 h2 hs
    go_enter Tryz.func3, Tryz.ntmps3
    go_wp2_with fail
    refine s1H.out.mono ?_
    rintro e w1 ⟨rfl, rfl⟩
    go_wp2_with fail
    refine (aw.out _ (.refl _ _)).mono ?_
    rintro e w2 ⟨rfl, hb2⟩
    go_wp2_with fail
    go_ret
    exact ⟨rfl, hb2⟩
  | true =>
  rw [hs] at s1H
  cases ht : smallT b [] with
  | false =>
    rw [ht] at s2H
    clear s1 s2 h1 h2 hs ht
    go_enter Tryz.func3, Tryz.ntmps3
    go_wp2_with fail
    refine s1H.out.mono ?_
    rintro e w1 ⟨rfl, rfl⟩
    go_wp2_with fail
    refine s2H.out.mono ?_
    rintro e w1 ⟨rfl, rfl⟩
    go_wp2_with fail
    refine (aw.out _ (.refl _ _)).mono ?_
    rintro e w2 ⟨rfl, hb2⟩
    go_wp2_with fail
    go_ret
    exact ⟨rfl, hb2⟩
  | true =>
  rw [ht] at s2H
  have i1 := First_any a1 a2 c1 c2 a b w h1 h2
  have i2 := fun W' (hb : Below w.heap.size w W') => rFirst_any a1 a2 c1 c2 a b W' (h1.below hb) (h2.below hb)
  have hkey : (fstE a b).2 = 0 → validD a b (fstE a b).1 = true ∧ (fstE a b).1.length ≤ 12 := fun h => by
    unfold fstE at h ⊢
    split at h
    · rename_i hab
      rw [if_pos hab]
      rw [Bool.and_eq_true] at hab
      split at h
      · rename_i ho
        rw [if_pos ho]
        exact ⟨fst_valid hab.1 hab.2 ho, by show (fstD a b a.length).length ≤ 12; rw [fstD_len]; exact (okSign_len hab.1).2⟩
      · cases h
    · cases h
  have hd1 : ∀ x ∈ (fstE a b).1, x.2.length ≤ 1000 := fun x hx => by
    unfold fstE at hx
    split at hx
    · rename_i hab
      rw [Bool.and_eq_true] at hab
      split at hx
      · have hall : ∀ k, k ≤ a.length → ∀ y ∈ fstD a b k, y.2.length ≤ 1000 := by
          intro k
          induction k with
          | zero => intro _ y hy; cases hy
          | succ k ih =>
            intro hk y hy
            rw [fstD, List.mem_append, List.mem_singleton] at hy
            rcases hy with hy | rfl
            · exact ih (by omega) y hy
            · obtain ⟨n, e1, e2, e3, e4⟩ := arAt_nat hab.1 (k := k) (by omega)
              show (ascL (arAt a k).toNat).length ≤ 1000
              rw [ascL_len, e3]; omega
        exact hall _ (Nat.le_refl _) x hx
      · cases hx
    · cases hx
  obtain ⟨⟨V, E⟩, hV⟩ : ∃ x, fstE a b = x := ⟨_, rfl⟩
  rw [hV] at hkey i1 hd1
  simp only [hV] at i2
  dsimp only at hkey hd1
  have i1H := Lib.hid i1
  have i2H := Lib.hid i2
  have h1H := Lib.hid h1
  have h2H := Lib.hid h2
  have hkH := Lib.hid hkey
  have hdH := Lib.hid hd1
  have f1 : (E == E) = true := by simp
  clear s1 s2 h1 h2 hs ht i1 i2 hV hkey hd1
  go_enter Tryz.func3, Tryz.ntmps3
  go_wp2_with fail
  refine s1H.out.mono ?_
  rintro e w1 ⟨rfl, rfl⟩
  go_wp2_with fail
  refine s2H.out.mono ?_
  rintro e w1 ⟨rfl, rfl⟩
  clear s1H s2H
  go_wp2_with fail
  refine i1H.out.mono ?_
  rintro e w1 ⟨aI, cI, rfl, hI1, hb1⟩
  have hI1H := Lib.hid hI1
  have hb1H := Lib.hid hb1
  clear hI1 hb1 i1H
  go_wp2_with fail
  refine (i2H.out _ hb1H.out).mono ?_
  rintro e w2 ⟨aJ, cJ, rfl, hJ2, hb2⟩
  have hI2 := hI1H.out.below hb2
  have mI := hI2.le
  have sV := rSame3_any aI aJ cI cJ V V w2 hI2 hJ2
  rw [decide_eq_true rfl] at sV
  have sVH := Lib.hid sV
  have hI2H := Lib.hid hI2
  have hB2H := Lib.hid (bcall hb1H.out hb2)
  clear hI1H hb1H i2H hb2 hI2 sV hJ2
  by_cases h0 : E = 0
  · subst h0
    obtain ⟨hv, hvl⟩ := hkH.out rfl
    have cv := Lib.hid (fun W' (hb : Below w2.heap.size w2 W') => tValid_any a1 a2 aI c1 c2 cI a b V W' ((h1H.out.below hB2H.out).below hb) ((h2H.out.below hB2H.out).below hb) (hI2H.out.below hb) hdH.out)
    simp only [hv] at cv
    clear f1 hv
    go_wp2_with fail
    refine sVH.out.mono ?_
    rintro e w3 ⟨rfl, hd3⟩
    have cc := Lib.hid (cv.out _ (hd3.below _))
    have hB3 := Lib.hid (bcall hB2H.out (hd3.below _))
    clear cv hd3 sVH
    go_wp2_with fail
    refine cc.out.mono ?_
    rintro e w4 ⟨rfl, hb4⟩
    have ca := Lib.hid (aw.out _ (bcall hB3.out hb4))
    clear cc hb4 hB3
    go_wp2_with fail
    refine ca.out.mono ?_
    rintro e w5 ⟨rfl, hb5⟩
    go_wp2_with fail
    go_ret
    exact ⟨rfl, hb5⟩
  · have f2 : (E != 0) = true := by simpa using h0
    clear h0
    go_wp2_with fail
    refine sVH.out.mono ?_
    rintro e w3 ⟨rfl, hd3⟩
    have ca := Lib.hid (aw.out _ (bcall hB2H.out (hd3.below _)))
    clear hd3 sVH
    go_wp2_with fail
    refine ca.out.mono ?_
    rintro e w5 ⟨rfl, hb5⟩
    go_wp2_with fail
    go_ret
    exact ⟨rfl, hb5⟩
end Go.Proofs.YtfjodhgbbefkjaaGreatDoor

/- Facts of the program's types that the rows over the tongues want. -/
namespace Go.Proofs.YtfjodhgbbefkjaaGreatDoor
open Go Go.RowKit Go.ChangeShapes Go.WideShapes Go.ChangeAt Go.Deep

theorem gWay : Gives Tryz.prog 78 wayE := gives_pair Tryz.underlying78 rfl rfl (by kernel_rfl) (by kernel_rfl) (by kernel_rfl) gInt gInts
theorem gWays : Gives Tryz.prog 26 (slE wayE) := gives_slice Tryz.underlying26 (by kernel_rfl) gWay
theorem gTrade : Gives Tryz.prog 34 (pairE (slE symE) (pairE (slE symE) (slE wayE))) := gives3 Tryz.underlying34 rfl rfl rfl (by kernel_rfl) (by kernel_rfl) (by kernel_rfl) (by kernel_rfl) gSign gSign gWays
end Go.Proofs.YtfjodhgbbefkjaaGreatDoor

/- The card of TongueFirst: for every input TongueFirst returns true and leaves its arguments as they were; the listed variables are tied to the program's text. No condition. -/
namespace Go.Proofs.YtfjodhgbbefkjaaGreatDoor
open Go Go.RowKit Go.ChangeShapes Go.WideShapes Go.ChangeAt

theorem tongueFirst_door (os : Os) (args : Array Value) : laidMetH Tryz.prog Rows.tongueFirstRow.laid ((World.doorLaid Tryz.prog 400 os).forCall (fun _ _ => 0) ⟨#[], args, []⟩).memory :=
  laidMetH_of_parts3 (fuel := 8) (laidMet_of_run' 8 (by kernel_rfl) (by kernel_rfl)) (by kernel_rfl) (by kernel_rfl)
set_option maxRecDepth 100000 in
theorem tongueFirst_lifted (os : Os) (started : os.Started) (H : Type) (enc : TypeId × Value → H) :
    ReturnsInHanded {} Tryz.checked os 3 .any (fun w args => (Rows.tongueFirstSpec.pre enc Tryz.prog Tryz.f3 [] false w args ∧ laidMetH Tryz.prog Rows.tongueFirstRow.laid w) ∧ sizedMet enc Tryz.prog Tryz.f3 (OpenSpec.ofChange Rows.tongueFirstSpec) false w args)
      (Rows.tongueFirstSpec.post enc Tryz.prog Tryz.f3 false true false false) := by
  refine returnsInHanded_of_change_and (C := Tryz.checked) (X := fun w _ => laidMetH Tryz.prog Rows.tongueFirstRow.laid w) (fun _ _ _ hh h => h.of_heap hh) Tryz.own started (by kernel_rfl) Tryz.func3
    (ChangeSpec.witness_shaped (enc := enc) (C := Tryz.checked) (os := os) (X := fun w _ => laidMetH Tryz.prog Rows.tongueFirstRow.laid w) false (World.doorLaid Tryz.prog 400 os) #[.slice none 0 0, .slice none 0 0] 8 rfl (World.shaped_of_RefB (by kernel_rfl) (by kernel_rfl)) (by kernel_rfl) (by kernel_rfl) (by kernel_rfl) (tongueFirst_door os _)) ?_
  intro W base args ds gs before hval0 hW _ _ hL _
  clear hL
  have hval : ∀ (j : Nat) t v, Tryz.f3.params[j]? = some t → args[j]? = some v → Value.okWide Tryz.prog W .any base t v := hval0
  have hW' := hW
  obtain ⟨p, q, hA0, hV, rfl, hfz, hnd⟩ := hW
  have hA : DataW.TrodAll enc Tryz.prog W 0 (fun _ => true) true Tryz.f3.params.toList args.toList ds p := hA0
  rw [Tryz.params3] at hA hval
  obtain ⟨v0, v1, d0, d1, p0, p1, rfl, rfl, rfl, h0, h1⟩ := trodAll_two hA
  obtain ⟨rfl, rfl⟩ := trodVars_none hV
  clear hA0 hval0
  simp only [List.append_nil] at hW'
  have hlt : ∀ x ∈ p0 ++ p1, x.block < W.heap.size := fun x hx => hW'.lt x (by simpa using hx)
  have keep0 := fun (W' : World) (hn : Below W.heap.size W W') => Below.trod Tryz.laidOut (by kernel_rfl) (of_decide_eq_true (by kernel_rfl)) h0 hn (fun x hx => hlt x (by simp [hx]))
  have keep1 := fun (W' : World) (hn : Below W.heap.size W W') => Below.trod Tryz.laidOut (by kernel_rfl) (of_decide_eq_true (by kernel_rfl)) h1 hn (fun x hx => hlt x (by simp [hx]))
  obtain ⟨l0, a0, c0, rfl, r0⟩ := gSign.arg h0 (okWide_slice Tryz.underlying23 (hval 0 23 v0 rfl rfl))
  obtain ⟨l1, a1, c1, rfl, r1⟩ := gSign.arg h1 (okWide_slice Tryz.underlying23 (hval 1 23 v1 rfl rfl))
  refine (TongueFirst_walk _ _ _ _ _ _ W r0 r1).mono fun e W' ⟨he, hB⟩ => ?_
  subst he
  exact ⟨_, rfl, _, _, _, [], p0 ++ p1, [], hW', trodAll_mk1 (shut_bool Tryz.underlying4 true), trodAll_mk2 (keep0 _ hB) (keep1 _ hB), rfl, hB.frame _, fun h => by cases h⟩

/-- TongueFirst: for every input it returns true, and each argument reads as it did. -/
theorem tongueFirst_holds : Rows.TongueFirstSaid :=
  OpenClaim.holds_of_wide 3 Tryz.f3 rfl rfl rfl rfl rfl rfl rfl ⟨rfl, rfl, rfl, rfl, rfl⟩ rfl rfl rfl rfl rfl (by kernel_rfl) Tryz.func3 (by kernel_rfl)
    (of_decide_eq_true (by kernel_rfl)) (by unfold Func.isWrapper; first | (rw [if_pos (by decide +kernel)]; kernel_rfl) | (rw [if_neg (by decide +kernel)]; exact ⟨rfl, rfl⟩))
    (fun os started H enc _ => tongueFirst_lifted os started H enc)
/-- the card of TongueFirst -/
theorem tongueFirst_card_holds : Rows.TongueFirstCardSaid :=
  Claim7.holds_tied_plain_at .later [] [.data, .data, .data, .sentinel, .sentinel] true Rows.tongueFirstCard.stood.harness Rows.tongueFirstCard.stood.looks
    tongueFirst_holds (fun _ h => by cases h) (by kernel_rfl) (fun _ h => by cases h) tongueFirst_row_tie rfl ⟨rfl, rfl⟩ (by kernel_rfl) rfl
    (fun f fn hf hfn => by
      obtain rfl : f = 3 := Option.some.inj ((show Tryz.prog.funcNamed Rows.tongueFirstRow.func = some 3 by kernel_rfl).symm.trans hf) |>.symm
      obtain rfl : fn = Tryz.f3 := (Option.some.inj (Tryz.func3.symm.trans hfn)).symm
      exact ⟨by kernel_rfl, fun j t ht => by
        rw [Tryz.params3] at ht
        have hm : t ∈ [23, 23] := by simpa using Array.mem_of_getElem? ht
        have hall : ([23, 23].all fun u => !Tryz.prog.wantsStandIn u) = true := by kernel_rfl
        exact (show Tryz.prog.wantsStandIn t = false by simpa using List.all_eq_true.1 hall t hm)⟩)
    (by kernel_rfl)
end Go.Proofs.YtfjodhgbbefkjaaGreatDoor
