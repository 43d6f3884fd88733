/- The card of TongueComposes: for every input TongueComposes returns true and leaves its arguments as they were; the listed variables are tied to the program's text. No condition. -/
import Derived.Test.YtfjodhgbbefkjaaGreatDoorWalkM
import Derived.Lib.AppendZeros
import Derived.Test.YtfjodhgbbefkjaaGreatDoorWalkJ
import Derived.Test.YtfjodhgbbefkjaaGreatDoorMsC
import Derived.Test.YtfjodhgbbefkjaaGreatDoorUniStep
import Derived.Deep.LoopGhost
import Derived.Test.YtfjodhgbbefkjaaGreatDoorWalkD
import Derived.Test.YtfjodhgbbefkjaaGreatDoorUSt
import Derived.Test.YtfjodhgbbefkjaaGreatDoorRegion
import Derived.Test.YtfjodhgbbefkjaaGreatDoorWalkG
import Derived.Test.YtfjodhgbbefkjaaGreatDoorBoxList
import Derived.Test.YtfjodhgbbefkjaaGreatDoorBase
import Derived.ProofKit
import Derived.LaidMore
import Derived.OpenShut
import Derived.Stop.Joined
import Derived.Test.YtfjodhgbbefkjaaGreatDoorMsB
import Derived.Test.YtfjodhgbbefkjaaGreatDoorMsD
import Derived.Test.YtfjodhgbbefkjaaGreatDoorCards
import Derived.Test.YtfjodhgbbefkjaaGreatDoorTie
/- Walks: slices.Grow, slices.Concat, of terms. -/
namespace Go.Proofs.YtfjodhgbbefkjaaGreatDoor
open Go Go.RowKit Go.Maps

theorem wpList_append_run2 {P : Program} {w : World} {ops : Array Oper} {rest : List Oper} {o : Oper} {a : Act} {Q : Exit → Act → World → Prop} (hgd : o.guard = none) (s x : Operand) (t t2 : TypeId)
    (ho : o.op = .call { callee := .builtin .append, args := #[s, x], argTypes := #[t, t2] }) {vs vx : Value} (hs : a.eval s = vs) (hx : a.eval x = vx) {v' : Value} {w' : World}
    (hr : (Builtin.append_ #[t, t2] o.type #[vs, vx]).run P w = .ok v' w') (h : wpList P ops Q rest (a.put o.dst v') w') : wpList P ops Q (o :: rest) a w := by
  refine wpList_plain hgd fun K hK => ?_
  unfold Oper.wp execOp
  simp only [ho, resolve, invoke, builtin, Sem.run_bind, Sem.run_pure, Result.andThen_ok, List.map_toArray, List.map_cons, List.map_nil, hs, hx, hr]
  exact hK _ _ h
theorem infoInt2 : ∃ i, Tryz.prog.info? 3 = some i ∧ i.zero = some (.int .i64 0) ∧ i.size = 1 ∧ i.bytes = 8 := by
  obtain ⟨i, h, h1, h2, h3⟩ := info_parts infoInt
  exact ⟨i, h, h1, h2, h3⟩
set_option maxRecDepth 20000 in
set_option maxHeartbeats 1000000 in
theorem Grow_any (n : Nat) (w : World) (hn : n ≤ lim) :
    Calls Tryz.prog 118 #[.slice none 0 0, .int .i64 n] w (retOwn w []) := by
  unfold lim at hn
  by_cases h0 : n = 0
  · subst h0
    go_enter Tryz.func118, Tryz.ntmps118
    go_wp2_with fail
    go_ret
    exact ⟨_, rfl, .nil _ _ _ _ _, .refl _ _⟩
  · obtain ⟨i, hi, hz, hsz, hby⟩ := infoInt2
    have hrun := Lib.run_append_nil_zeros (P := Tryz.prog) w 41 3 41 3 i (.int .i64 0) .i64 .i64 Tryz.underlying41 Tryz.underlying3 hi hz n (by omega) (by omega) (by omega) (by rw [hby]; omega)
    obtain ⟨cap, hcap⟩ : ∃ cap, grownCap w n 0 3 = cap := ⟨_, rfl⟩
    have hc1 := grownCap_ge w n 0 3
    have hc2 := grownCap_le_maxLen w n 0 3 (by unfold maxLen; omega)
    rw [hcap] at hrun hc1 hc2
    unfold maxLen at hc2
    have hz1 : ∀ k, (Builtin.zeroCells (Value.cells (.int .i64 0)) k).size = k := fun k => by simp [Builtin.zeroCells, Value.cells]
    obtain ⟨cs, hcs⟩ : ∃ cs, Builtin.zeroCells (Value.cells (.int .i64 0)) n ++ Builtin.zeroCells (Value.cells (.int .i64 0)) (cap - n) = cs := ⟨_, rfl⟩
    have hcn : cs.size = cap * 1 := by rw [← hcs, Array.size_append, hz1, hz1]; omega
    rw [hcs] at hrun
    have ho : OwnI (w.drew.alloc (.cells cs 3)) w.heap.size (.slice (some ⟨w.heap.size, 0, none⟩) 0 cap) [] :=
      ⟨[], World.ownsRow_made w.drew cs cap (Nat.le_refl _) (by unfold maxLen; omega) hcn, rfl, fun i h => by simp at h⟩
    have hB : Below w.heap.size w (w.drew.alloc (.cells cs 3)) := (Below.refl _ _).drew.alloc (Nat.le_refl _) _
    have hrunH := Lib.hid hrun
    have hoH := Lib.hid ho
    have hBH := Lib.hid hB
    clear hrun ho hB hcs hcap hz1 hi hz hsz hby hcn
    go_enter Tryz.func118, Tryz.ntmps118
    go_wp2_with (at_builtin; refine wpList_append_run2 rfl (.tmp 20) (.tmp 21) _ _ rfl rfl rfl hrunH.out ?_)
    go_ret
    exact ⟨_, rfl, hoH.out, hBH.out⟩

theorem ints_append {S2 : Nat → Prop} {w : World} {base : Nat} {v : Value} {l l2 : List Int} {a : Option Addr} {c : Nat} (ho : OwnI w base v l) (h2 : Ints S2 w a c l2) (hl : l.length + l2.length ≤ 10000000) (hb : base ≤ w.heap.size) :
    ∃ v' w', RowKit.Hid ((Builtin.append_ #[41, 41] 41 #[v, .slice a l2.length c]).run Tryz.prog w = .ok v' w') ∧ RowKit.Hid (OwnI w' base v' (l ++ l2)) ∧ RowKit.Hid (Below base w w') := by
  obtain ⟨v', w', hrun, ho', hg, -, -⟩ := ho.append_run (P := Tryz.prog) (t := 41) (ty := 41) Tryz.underlying41 infoInt rfl h2 (fun _ _ _ h => h) (by omega) (by unfold big; omega) hb
  exact ⟨v', w', Lib.hid hrun, Lib.hid ho', Lib.hid ((Below.refl _ _).grown hg hb (fun k e => (ho.lt k e).1))⟩

def cat1Rel (L : List (List Int)) (w : World) (size i : Value) (wr : World) : Prop := ∃ k : Nat, i = .int .i64 k ∧ k ≤ L.length ∧ size = .int .i64 ((L.take k).flatten.length : Nat) ∧ wr = w
def cat2Rel (L : List (List Int)) (w : World) (out i : Value) (wr : World) : Prop := ∃ k : Nat, i = .int .i64 k ∧ k ≤ L.length ∧ OwnI wr w.heap.size out (L.take k).flatten ∧ Below w.heap.size w wr
theorem flat_take_le {L : List (List Int)} {q : Nat} : (L.take q).flatten.length ≤ L.flatten.length := by
  have : L.flatten.length = (L.take q).flatten.length + (L.drop q).flatten.length := by rw [← List.length_append, ← List.flatten_append, List.take_append_drop]
  omega
theorem flat_take_succ {L : List (List Int)} {q : Nat} (h : q < L.length) : (L.take (q + 1)).flatten = (L.take q).flatten ++ L[q] := by
  rw [List.take_succ_eq_append_getElem h, List.flatten_append]; simp
set_option maxHeartbeats 2000000 in
theorem Concat_any {S : Nat → Prop} (a : Option Addr) (c : Nat) (L : List (List Int)) (w : World) (h : Terms S w a c L) (hl : L.flatten.length ≤ lim) :
    Calls Tryz.prog 84 #[.slice a L.length c] w (retOwn w L.flatten) := by
  have m := h.le
  unfold lim at hl
  go_enter Tryz.func84, Tryz.ntmps84
  go_wp2_with fail
  go_loopw [3, 11] (fun size i wr => cat1Rel L w size i wr) (fun _ i _ => L.length - (intOf i).toNat)
  case atStart => exact ⟨0, rfl, Nat.zero_le _, rfl, rfl⟩
  case round =>
    obtain ⟨k, rfl, hk, rfl, rfl⟩ := hrel
    by_cases hlt : k < L.length
    · obtain ⟨b, o, a', c', rfl, -, q, -⟩ := h.sub k hlt
      have hs := congrArg List.length (flat_take_succ hlt)
      rw [List.length_append] at hs
      have hle := flat_take_le (L := L) (q := k + 1)
      obtain ⟨M, hM⟩ : ∃ M : Nat, (L.take k).flatten.length = M := ⟨_, rfl⟩
      rw [hM] at hs ⊢
      rw [hs] at hle
      have hsH := Lib.hid hs
      clear hs hM h
      go_wp2_with fail
      go_roundw
      case rel => exact ⟨k + 1, by go_num, by omega, by rw [hsH.out]; go_num, rfl⟩
      case measure => simp [intOf]; omega
    · have hkn : L.take k = L := List.take_of_length_le (by omega)
      rw [hkn]
      obtain ⟨N, hN⟩ : ∃ N : Nat, L.flatten.length = N := ⟨_, rfl⟩
      rw [hN]
      have cg := Grow_any N wr (by unfold lim; omega)
      have cgH := Lib.hid cg
      clear cg hkn hN
      go_wp2_with (go_at_call 118; refine cgH.out.mono ?_; rintro e w1 ⟨v, rfl, ho, hb⟩; have hoH := Lib.hid ho; have hbH := Lib.hid hb; clear ho hb)
      go_loopw [6, 27] (fun out i wr2 => cat2Rel L wr out i wr2) (fun _ i _ => L.length - (intOf i).toNat)
      case atStart => exact ⟨0, rfl, Nat.zero_le _, hoH.out, hbH.out⟩
      case round =>
        obtain ⟨k, rfl, hk, ho, hB⟩ := hrel
        by_cases hlt : k < L.length
        · obtain ⟨b, o, a', c', rfl, -, q, hI⟩ := h.sub k hlt
          have q' := (hB.cell (p := ⟨b, o + k, none⟩) (World.block_lt_of_cell? _ _ q)).trans q
          have hs := flat_take_succ hlt
          have hle := flat_take_le (L := L) (q := k + 1)
          rw [hs, List.length_append] at hle
          obtain ⟨v', w', hrunH, ho', hb'⟩ := ints_append ho (hI.below hB) (by omega) hB.size
          have hsH := Lib.hid hs
          have hBH := Lib.hid (hB.trans hb'.out)
          clear hs ho hI hB h q hb'
          go_wp2_with (at_builtin; refine wpList_append_run rfl _ _ _ rfl rfl rfl hrunH.out ?_)
          go_roundw
          case rel => exact ⟨k + 1, by go_num, by omega, by rw [hsH.out]; exact ho'.out, hBH.out⟩
          case measure => simp [intOf]; omega
        · have hkn : L.take k = L := List.take_of_length_le (by omega)
          rw [hkn] at ho
          have hoH := Lib.hid ho
          have hBH := Lib.hid hB
          clear ho hB hkn h
          go_wp2_with fail
          go_ret
          exact ⟨_, rfl, hoH.out, hBH.out⟩
end Go.Proofs.YtfjodhgbbefkjaaGreatDoor

/- Walks: Built, of both. -/
namespace Go.Proofs.YtfjodhgbbefkjaaGreatDoor
open Go Go.RowKit Go.Maps

theorem Drew.trans {a b c : World} (h : Drew a b) (h2 : Drew b c) : Drew a c := by obtain ⟨n, rfl⟩ := h2; exact drew_more h n
def idxTPost (s : Sg) (L : List (List Int)) (w : World) (e : Ending) (w' : World) : Prop := ∃ n : Int, e = .returned (.int .i64 n) ∧ -1 ≤ n ∧ decide (0 ≤ n) = !(L.all (okT s)) ∧ Below w.heap.size w w'
def builtE (s : Sg) (y : Int) (L : List (List Int)) : List Int × Int :=
  if okSign s = true ∧ L.all (okT s) = true then
    (if 0 ≤ y ∧ y < s.length then (if (L.length : Int) = (s.getD y.toNat default).2 then (if 1 + L.flatten.length ≤ 60 then (y :: L.flatten, 0) else ([], 4)) else ([], 9)) else ([], 5))
  else ([], 1)
theorem builtE_1 {s : Sg} {y : Int} {L : List (List Int)} (h : ¬ (okSign s = true ∧ L.all (okT s) = true)) : builtE s y L = ([], 1) := by rw [builtE, if_neg h]
theorem builtE_5 {s : Sg} {y : Int} {L : List (List Int)} (h : okSign s = true ∧ L.all (okT s) = true) (h1 : ¬ (0 ≤ y ∧ y < s.length)) : builtE s y L = ([], 5) := by rw [builtE, if_pos h, if_neg h1]
theorem builtE_9 {s : Sg} {y : Int} {L : List (List Int)} (h : okSign s = true ∧ L.all (okT s) = true) (h1 : 0 ≤ y ∧ y < s.length) (h2 : ¬ (L.length : Int) = (s.getD y.toNat default).2) : builtE s y L = ([], 9) := by rw [builtE, if_pos h, if_pos h1, if_neg h2]
theorem builtE_4 {s : Sg} {y : Int} {L : List (List Int)} (h : okSign s = true ∧ L.all (okT s) = true) (h1 : 0 ≤ y ∧ y < s.length) (h2 : (L.length : Int) = (s.getD y.toNat default).2) (h3 : ¬ (1 + L.flatten.length ≤ 60)) : builtE s y L = ([], 4) := by rw [builtE, if_pos h, if_pos h1, if_pos h2, if_neg h3]
theorem builtE_0 {s : Sg} {y : Int} {L : List (List Int)} (h : okSign s = true ∧ L.all (okT s) = true) (h1 : 0 ≤ y ∧ y < s.length) (h2 : (L.length : Int) = (s.getD y.toNat default).2) (h3 : 1 + L.flatten.length ≤ 60) : builtE s y L = (y :: L.flatten, 0) := by rw [builtE, if_pos h, if_pos h1, if_pos h2, if_pos h3]
theorem rbelow {W W' : World} {l : List Int × Int} {e : Ending} (h : retE l W e W') : Below W.heap.size W W' := by obtain ⟨_, _, _, h⟩ := h; exact h

def brRel (y : Int) (L : List (List Int)) (w : World) (B : Nat) (out i : Value) (wr : World) : Prop := ∃ k : Nat, i = .int .i64 k ∧ k ≤ L.length ∧ OwnI wr B out (y :: (L.take k).flatten) ∧ Below B w wr
end Go.Proofs.YtfjodhgbbefkjaaGreatDoor

/- Walks: Built. -/
namespace Go.Proofs.YtfjodhgbbefkjaaGreatDoor
open Go Go.RowKit Go.Maps

theorem OwnTs.lit1 {w : World} {a : Option Addr} {c : Nat} {u : List Int} {T : Nat → Prop} (h : Ints T w a c u) :
    OwnTs (fun _ => True) (w.alloc (.cells #[.slice a u.length c] 41)) w.heap.size (.slice (some ⟨w.heap.size, 0, none⟩) 1 1) [u] := by
  have hr := World.ownsRow_lit (base := w.heap.size) (e := 41) (size := 1) w #[.slice a u.length c] 1 (Nat.le_refl _) (by unfold maxLen; omega) (by simp)
  refine ⟨[[.slice a u.length c]], hr, rfl, fun i h1 h2 => ?_⟩
  match i, h1 with
  | 0, _ => exact ⟨a, c, rfl, (h.lt.weak (S' := Off (fun _ => True) (.slice (some ⟨w.heap.size, 0, none⟩) 1 1)) (fun b hb => ⟨trivial, fun e => by simp [Value.ownBlock] at e; omega⟩)).below (below1 _ _)⟩

theorem lit_append {S2 : Nat → Prop} {w w2 : World} {a2 : Option Addr} {c2 : Nat} {L : List (List Int)} (n : Int) (hn : inRange n) (h2 : Terms S2 w a2 c2 L) (hB : Below w.heap.size w w2) (hl : L.length ≤ 1000000) :
    ∃ a c w', RowKit.Hid ((Builtin.append_ #[68, 68] 68 #[.slice (some ⟨w2.heap.size + 1, 0, none⟩) 1 1, .slice a2 L.length c2]).run Tryz.prog ((w2.alloc (.cells #[.int .i64 n] 3)).alloc (.cells #[.slice (some ⟨w2.heap.size, 0, none⟩) 1 1] 41)) = .ok (.slice a (L.length + 1) c) w') ∧
      RowKit.Hid (Terms (fun _ => True) w' a c ([n] :: L)) ∧ RowKit.Hid (Below w2.heap.size w2 w') := by
  have hI : Ints (fun _ => True) (w2.alloc (.cells #[.int .i64 n] 3)) (some ⟨w2.heap.size, 0, none⟩) 1 [n] := by
    have := OwnL.lit (S := fun _ => False) w2 [n] 3 (by simpa using hn) (by unfold maxLen; simp)
    obtain ⟨a, c, he, hI⟩ := OwnI.ints this
    simp at he
    obtain ⟨rfl, rfl⟩ := he
    exact hI.any
  have ho := OwnTs.lit1 hI
  simp only [World.size_alloc] at ho
  have hB' : Below w.heap.size w ((w2.alloc (.cells #[.int .i64 n] 3)).alloc (.cells #[.slice (some ⟨w2.heap.size, 0, none⟩) 1 1] 41)) := hB.trans ((below2 _ _ _).mono hB.size)
  obtain ⟨v', w', hrun, ho', hg, -, -⟩ := ho.append_run (P := Tryz.prog) (t := 68) (ty := 68) Tryz.underlying68 infoTerm rfl (h2.lt.below hB') (fun i hi vs h => (slE intE).mono h (fun b _ hb => ⟨trivial, fun e => by have := hB.size; simp [Value.ownBlock] at e; omega⟩) (.refl _ _)) (by simp; omega) (by unfold big; simp; omega) (by simp)
  have hBn := (below2 w2 (.cells #[.int .i64 n] 3) (.cells #[.slice (some ⟨w2.heap.size, 0, none⟩) 1 1] 41)).grown hg (by simp; omega) (fun k e => by simp [Value.ownBlock] at e; omega)
  obtain ⟨a, c, rfl, hT⟩ := ho'.sl
  refine ⟨a, c, w', Lib.hid ?_, Lib.hid hT.any, Lib.hid hBn⟩
  simpa [Nat.add_comm] using hrun

end Go.Proofs.YtfjodhgbbefkjaaGreatDoor

/- Walks of package unify: a solver in the world; look. -/
namespace Go.Proofs.YtfjodhgbbefkjaaGreatDoor
open Go Go.RowKit Go.Maps

/-- looked up in k steps -/
def LkdN (B : Bd) (p : List Int) : Nat → List Int → Prop
  | 0, t => t = p ∧ ∀ n r, t = n :: r → n < 0 → B n = none
  | k + 1, t => ∃ n r u, t = n :: r ∧ n < 0 ∧ B n = some u ∧ LkdN B p k u
theorem Lkd.num {B : Bd} {t p : List Int} (h : Lkd B t p) : ∃ k, LkdN B p k t := by
  induction h with
  | stop h => exact ⟨0, rfl, h⟩
  | go hn hB _ ih => obtain ⟨k, hk⟩ := ih; exact ⟨k + 1, _, _, _, rfl, hn, hB, hk⟩

/-- the solver's own data: the sign and the map of what is bound -/
structure SolvW (w0 w : World) (xb mb n : Nat) (a1 : Option Addr) (c1 : Nat) (s : Sg) (B : Bd) : Prop where
  k0 : w.cell? ⟨xb, 0, none⟩ = some (.slice a1 s.length c1)
  k1 : w.cell? ⟨xb, 1, none⟩ = some (.map (some mb))
  map : BdMap w0 w mb n B
  bx : w0.heap.size ≤ xb
  bm : w0.heap.size ≤ mb
  ne : xb ≠ mb
  sg : Sign (fun b => b < w0.heap.size) w0 a1 c1 s
  bel : Below w0.heap.size w0 w
  wf : ∀ n u, B n = some u → W1 s u
theorem SolvW.lt {w0 w : World} {xb mb n : Nat} {a1 : Option Addr} {c1 : Nat} {s : Sg} {B : Bd} (h : SolvW w0 w xb mb n a1 c1 s B) : xb < w.heap.size := World.block_lt_of_cell? _ _ h.k0
theorem SolvW.below {w0 w w' : World} {xb mb n : Nat} {a1 : Option Addr} {c1 : Nat} {s : Sg} {B : Bd} (h : SolvW w0 w xb mb n a1 c1 s B) (hb : Below w.heap.size w w') : SolvW w0 w' xb mb n a1 c1 s B :=
  ⟨cell_later hb h.k0, cell_later hb h.k1, h.map.below hb h.map.lt, h.bx, h.bm, h.ne, h.sg, bcall h.bel hb, h.wf⟩

abbrev T0 (w0 : World) (a : Option Addr) (c : Nat) (t : List Int) : Prop := Ints (fun b => b < w0.heap.size) w0 a c t
/-- looked up in k steps, with where it lies -/
def LkF (w0 : World) (f : Int → Option Value) (B : Bd) (p : List Int) (a' : Option Addr) (c' : Nat) : Nat → Option Addr → Nat → List Int → Prop
  | 0, a, c, t => (t = p ∧ a = a' ∧ c = c') ∧ ∀ n r, t = n :: r → n < 0 → B n = none
  | k + 1, _, _, t => ∃ n r u a3 c3, t = n :: r ∧ n < 0 ∧ B n = some u ∧ f n = some (.slice a3 u.length c3) ∧ T0 w0 a3 c3 u ∧ LkF w0 f B p a' c' k a3 c3 u
theorem LkF.ex {w0 : World} {f : Int → Option Value} {B : Bd} {p : List Int} (h3 : ∀ x u, B x = some u → ∃ a c, f x = some (.slice a u.length c) ∧ T0 w0 a c u) :
    ∀ (k : Nat) (t : List Int) (a : Option Addr) (c : Nat), T0 w0 a c t → LkdN B p k t → ∃ a' c', LkF w0 f B p a' c' k a c t ∧ T0 w0 a' c' p
  | 0, t, a, c, hT, ⟨h1, h2⟩ => ⟨a, c, ⟨⟨h1, rfl, rfl⟩, h2⟩, h1 ▸ hT⟩
  | k + 1, t, a, c, hT, ⟨n, r, u, h1, h2, hB, h4⟩ => by
    obtain ⟨a3, c3, g1, g2⟩ := h3 n u hB
    obtain ⟨a', c', g3, g4⟩ := LkF.ex h3 k u a3 c3 g2 h4
    exact ⟨a', c', ⟨n, r, u, a3, c3, h1, h2, hB, g1, g2, g3⟩, g4⟩
def lookRel (w0 w : World) (s : Sg) (f : Int → Option Value) (B : Bd) (p : List Int) (a' : Option Addr) (c' : Nat) (k : Nat) (tv : Value) (wr : World) : Prop :=
  ∃ t a c, tv = .slice a (List.length t) c ∧ T0 w0 a c t ∧ W1 s t ∧ LkF w0 f B p a' c' k a c t ∧ Drew w wr
end Go.Proofs.YtfjodhgbbefkjaaGreatDoor

/- Walks of package unify: whether a variable comes. -/
namespace Go.Proofs.YtfjodhgbbefkjaaGreatDoor
open Go Go.RowKit Go.Maps

/-- what was met from M to M' is not v, and all that stands for it was met, too -/
def Mets (B : Bd) (v : Int) (M M' : Bd) : Prop := ∀ m, M m = none → (M' m).isSome = true → m ≠ v ∧ ∀ u, B m = some u → ∀ k ∈ u, k < 0 → (M' k).isSome = true
def Sub (M M' : Bd) : Prop := ∀ m, (M m).isSome = true → (M' m).isSome = true
theorem Sub.refl (M : Bd) : Sub M M := fun _ h => h
theorem Sub.trans {A B C : Bd} (h : Sub A B) (k : Sub B C) : Sub A C := fun m hm => k m (h m hm)
theorem Sub.up {M : Bd} {x : Int} {q : List Int} : Sub M (upB M x q) := fun m hm => by
  unfold upB; split
  · rfl
  · exact hm
theorem upB_same {M : Bd} {x : Int} {q : List Int} : (upB M x q) x = some q := by unfold upB; rw [if_pos rfl]
theorem upB_other {M : Bd} {x m : Int} {q : List Int} (h : m ≠ x) : (upB M x q) m = M m := by unfold upB; rw [if_neg h]
theorem isSome_none {α : Type} {o : Option α} (h : ¬ o.isSome = true) : o = none := by cases o <;> simp_all
theorem Mets.refl (B : Bd) (v : Int) (M : Bd) : Mets B v M M := fun m h1 h2 => by rw [h1] at h2; cases h2
theorem Mets.leaf {B M M1 : Bd} {v x : Int} (h : Mets B v M M1) (hx : x ≠ v) (hB : B x = none) : Mets B v M (upB M1 x []) := fun m h1 h2 => by
  by_cases e : m = x
  · subst e; exact ⟨hx, fun u hu => by rw [hB] at hu; cases hu⟩
  · rw [upB_other e] at h2
    obtain ⟨g1, g2⟩ := h m h1 h2
    exact ⟨g1, fun u hu k hk h0 => Sub.up _ (g2 u hu k hk h0)⟩
theorem Mets.node {B M M1 M2 : Bd} {v x : Int} {u : List Int} (h : Mets B v M M1) (hx : x ≠ v) (hB : B x = some u) (h2 : Mets B v (upB M1 x []) M2) (hs : Sub (upB M1 x []) M2) (hu : ∀ k ∈ u, k < 0 → (M2 k).isSome = true) : Mets B v M M2 := fun m g1 g2 => by
  by_cases e : m = x
  · subst e; exact ⟨hx, fun u' hu' => by rw [hB] at hu'; cases hu'; exact hu⟩
  · by_cases e1 : (M1 m).isSome = true
    · obtain ⟨k1, k2⟩ := h m g1 e1
      exact ⟨k1, fun u' hu' k hk h0 => hs k (Sub.up k (k2 u' hu' k hk h0))⟩
    · exact h2 m (by rw [upB_other e]; exact isSome_none e1) g2
theorem mets_not {s : Sg} {B : Bd} {θ : Int → List Int} {ρ : Int → Nat} (h : Slv s B θ ρ) {v : Int} {M : Bd} (hm : Mets B v (fun _ => none) M) : ∀ (K : Nat) (t : List Int), (∀ n ∈ t, n < 0 → (M n).isSome = true) → (∀ n ∈ t, n < 0 → ρ n < K) → v < 0 → v ∉ ap θ t
  | K, t, h1, h2, hv, hmem => by
    rcases mem_ap.1 hmem with ⟨-, e⟩ | ⟨n, hn, h0, hvn⟩
    · exact e hv
    · obtain ⟨g1, g2⟩ := hm n rfl (h1 n hn h0)
      cases hB : B n with
      | none => rw [h.free n h0 hB, List.mem_singleton] at hvn; exact g1 hvn.symm
      | some u =>
        rw [h.bnd n u hB] at hvn
        cases K with
        | zero => have := h2 n hn h0; omega
        | succ K =>
          exact mets_not h hm K u (g2 u hB) (fun m hm' h0' => by have := h.rk n u hB m hm' h0'; have := h2 n hn h0; omega) hv hvn

/-- the map of what was met -/
def MetW (w : World) (mm n : Nat) (M : Bd) : Prop := ∃ f, VMap KI w mm n f ∧ ∀ x, f x = (M x).map fun _ => .bool true
theorem MetW.made (w : World) : MetW (w.alloc (.map #[] 0)) w.heap.size 0 (fun _ => none) := ⟨_, VMap.made KI w, fun _ => rfl⟩
theorem MetW.lt {w : World} {mm n : Nat} {M : Bd} (h : MetW w mm n M) : mm < w.heap.size := by obtain ⟨f, h1, -⟩ := h; exact h1.lt
theorem MetW.below {w w' : World} {mm n K : Nat} {M : Bd} (h : MetW w mm n M) (hb : Below K w w') (hm : mm < K) : MetW w' mm n M := by
  obtain ⟨f, h1, h2⟩ := h; exact ⟨f, h1.below hb hm, h2⟩
theorem MetW.look {w : World} {mm n : Nat} {M : Bd} (h : MetW w mm n M) (x : Int) (hx : inRange x) :
    (Instr.lookup 128 (.map (some mm)) (.int .i64 x) false).run Tryz.prog w = .ok (.bool (M x).isSome) w := by
  obtain ⟨f, h1, h2⟩ := h
  have := h1.look (tm := 128) (te := 4) Tryz.underlying128 (zBool w) x hx
  rw [h2 x] at this
  cases hM : M x with
  | none => rw [hM] at this; exact this
  | some u => rw [hM] at this; exact this
theorem MetW.store {w : World} {mm n : Nat} {M : Bd} (h : MetW w mm n M) (hn : n < maxLen) (x : Int) (hx : inRange x) (hM : M x = none) :
    ∃ w', RowKit.Hid ((Instr.mapUpdate 128 (.map (some mm)) (.int .i64 x) (.bool true)).run Tryz.prog w = .ok () w') ∧ RowKit.Hid (MetW w' mm (n + 1) (upB M x [])) ∧ RowKit.Hid (w.grownBy w' (some mm)) := by
  obtain ⟨f, h1, h2⟩ := h
  obtain ⟨w', r, hv, hg⟩ := h1.store (tm := 128) (te := 4) Tryz.underlying128 hn x hx (.bool true)
  rw [if_neg (by rw [h2 x, hM]; simp)] at hv
  refine ⟨w', Lib.hid r, Lib.hid ⟨_, hv, fun y => ?_⟩, Lib.hid hg⟩
  unfold upB
  by_cases e : y = x
  · rw [if_pos e, if_pos e]; rfl
  · rw [if_neg e, if_neg e]; exact h2 y
theorem SolvW.grown {w0 w w' : World} {xb mb n k : Nat} {a1 : Option Addr} {c1 : Nat} {s : Sg} {B : Bd} (h : SolvW w0 w xb mb n a1 c1 s B) (hg : w.grownBy w' (some k)) (h1 : k ≠ xb) (h2 : k ≠ mb) (h3 : w0.heap.size ≤ k) : SolvW w0 w' xb mb n a1 c1 s B := by
  have hx : w'.heap[xb]? = w.heap[xb]? := hg.block xb h.lt (fun e => h1 (by injection e with e; exact e.symm))
  obtain ⟨f, m1, m2, m3⟩ := h.map
  exact ⟨(World.cell?_of_block (a := ⟨xb, 0, none⟩) hx).trans h.k0, (World.cell?_of_block (a := ⟨xb, 1, none⟩) hx).trans h.k1, ⟨f, m1.same (hg.block mb m1.lt (fun e => h2 (by injection e with e; exact e.symm))), m2, m3⟩, h.bx, h.bm, h.ne, h.sg,
    h.bel.grown hg h.bel.size (fun j e => by injection e with e; omega), h.wf⟩

theorem MetW.drawn {w : World} {mm n : Nat} {M : Bd} (h : MetW w mm n M) (m : Nat) : MetW (w.drewN m) mm n M := h.below ((Drew.mk w m).below w.heap.size) h.lt
end Go.Proofs.YtfjodhgbbefkjaaGreatDoor

/- Walks of package unify: comes, walked. -/
namespace Go.Proofs.YtfjodhgbbefkjaaGreatDoor
open Go Go.RowKit Go.Maps

def comesRet (B : Bd) (θ : Int → List Int) (v : Int) (t : List Int) (mm : Nat) (M : Bd) (w : World) (e : Ending) (w' : World) : Prop :=
  ∃ (M' : Bd) (n' : Nat) (r : Bool), e = .returned (.bool r) ∧ MetW w' mm n' M' ∧ n' + free M' ≤ 24 ∧ w.grownBy w' (some mm) ∧ Sub M M' ∧ (r = true → v ∈ ap θ t) ∧
    (r = false → (∀ n ∈ t, n < 0 → (M' n).isSome = true) ∧ Mets B v M M')
def comesRel (B : Bd) (v : Int) (t : List Int) (mm : Nat) (M : Bd) (w : World) (jv : Value) (wr : World) : Prop :=
  ∃ (j n : Nat) (M' : Bd), jv = .int .i64 j ∧ j ≤ t.length ∧ MetW wr mm n M' ∧ n + free M' ≤ 24 ∧ w.grownBy wr (some mm) ∧ Sub M M' ∧ (∀ n ∈ t.take j, n < 0 → (M' n).isSome = true) ∧ Mets B v M M'
theorem take_all {t : List Int} {j : Nat} {P : Int → Prop} (h : ∀ n ∈ t.take j, P n) (hj : j < t.length) (hp : P t[j]) : ∀ n ∈ t.take (j + 1), P n := by
  intro n hn
  rw [List.take_succ_eq_append_getElem hj, List.mem_append, List.mem_singleton] at hn
  rcases hn with e | e
  · exact h n e
  · rw [e]; exact hp

theorem grown_by' {w w1 w2 : World} {o : Option Nat} (h : w.grownBy w1 o) (b : w1.grownBy w2 o) : w.grownBy w2 o :=
  ⟨b.os.trans h.os, b.tape.trans h.tape, b.output.trans h.output, Nat.le_trans h.size b.size, fun x hx hne => (b.block x (Nat.lt_of_lt_of_le hx h.size) hne).trans (h.block x hx hne)⟩
theorem free_none : free (fun _ => none) = 24 := by decide
theorem rank_bound (ρ : Int → Nat) : ∀ t : List Int, ∃ K, ∀ m ∈ t, m < 0 → ρ m < K
  | [] => ⟨0, fun _ h => by cases h⟩
  | x :: t => by
    obtain ⟨K, hK⟩ := rank_bound ρ t
    refine ⟨max K (ρ x + 1), fun m hm h0 => ?_⟩
    rcases List.mem_cons.1 hm with e | e
    · subst e; omega
    · have := hK m e h0; omega
end Go.Proofs.YtfjodhgbbefkjaaGreatDoor

/- Walks of package unify: the stack of pairs; where arguments lie; after of a logic; the step of unification. -/
namespace Go.Proofs.YtfjodhgbbefkjaaGreatDoor
open Go Go.RowKit Go.Maps

abbrev prE : Enc (List Int × List Int) := pairE (slE intE) (slE intE)
section
variable {S : Nat → Prop} {w : World} {base g n cap : Nat} {L : Prs}
theorem pr_len {xs : List (List Value)} {T : Nat → Prop} (hl : xs.length = L.length) (hx : ∀ i (h1 : i < xs.length) (h2 : i < L.length), prE.R T w xs[i] L[i]) : ∀ x ∈ xs, x.length = 2 := by
  intro x hxm
  obtain ⟨i, hi, rfl⟩ := List.getElem_of_mem hxm
  exact prE.len (hx i hi (by omega))
end

/-- the places of the arguments -/
def apos (s : Sg) (t : List Int) (m : Nat) : Nat := 1 + ((argsW s t).take m).flatten.length
theorem apos_zero (s : Sg) (t : List Int) : apos s t 0 = 1 := rfl
theorem args_at {s : Sg} {n : Int} {x : List Int} (h : W1 s (n :: x)) {m : Nat} (hm : m < arW s n) (hl : m < (argsW s (n :: x)).length) :
    skw s 1 ((n :: x).drop (apos s (n :: x) m)) = some ((n :: x).drop (apos s (n :: x) (m + 1))) ∧ apos s (n :: x) m < apos s (n :: x) (m + 1) ∧ apos s (n :: x) (m + 1) ≤ (n :: x).length ∧
      ((n :: x).drop (apos s (n :: x) m)).take (apos s (n :: x) (m + 1) - apos s (n :: x) m) = (argsW s (n :: x))[m] := by
  obtain ⟨h1, h2, h3, -⟩ := h.args
  obtain ⟨A, hA⟩ : ∃ A, argsW s (n :: x) = A := ⟨_, rfl⟩
  rw [hA] at h1 h2 h3
  simp only [apos, hA]
  have hd : ∀ k, (n :: x).drop (1 + (A.take k).flatten.length) = (A.drop k).flatten := fun k => by
    rw [Nat.add_comm, List.drop_succ_cons, ← h2]
    conv => lhs; rw [← List.take_append_drop k A]
    rw [List.flatten_append]
    have : ((A.take k ++ A.drop k).take k) = A.take k := by rw [List.take_append_drop]
    rw [this, List.drop_left]
  have ht : (A.take (m + 1)).flatten.length = (A.take m).flatten.length + (A[m]'(by omega)).length := by
    rw [List.take_succ_eq_append_getElem (by omega), List.flatten_append, List.length_append]; simp
  have hdm : (A.drop m).flatten = A[m]'(by omega) ++ (A.drop (m + 1)).flatten := by rw [List.drop_eq_getElem_cons (by omega), List.flatten_cons]
  have hw := h3 _ (List.getElem_mem (by omega : m < A.length))
  have hle : (A.take (m + 1)).flatten.length ≤ x.length := by
    rw [← h2]
    conv => rhs; rw [← List.take_append_drop (m + 1) A]
    rw [List.flatten_append, List.length_append]; omega
  have hwl := hw.len
  refine ⟨?_, by omega, by rw [List.length_cons]; omega, ?_⟩
  · rw [hd, hd, hdm, skw_append s 1 _ _ _ hw]; rfl
  · rw [hd, ht, hdm, show 1 + ((A.take m).flatten.length + (A[m]'(by omega)).length) - (1 + (A.take m).flatten.length) = (A[m]'(by omega)).length by omega, List.take_left]
theorem args_all {s : Sg} {t : List Int} (h : W1 s t) {n : Int} (hn : t.headD 0 = n) : (argsW s t).length = arW s n ∧ n < s.length ∧ ∀ m (hm : m < (argsW s t).length), skw s 1 (t.drop (apos s t m)) = some (t.drop (apos s t (m + 1))) ∧ apos s t m < apos s t (m + 1) ∧ apos s t (m + 1) ≤ t.length ∧
    (t.drop (apos s t m)).take (apos s t (m + 1) - apos s t m) = (argsW s t)[m] := by
  cases t with
  | nil => exact (h.ne rfl).elim
  | cons k x =>
    simp only [List.headD_cons] at hn
    subst hn
    exact ⟨h.args.1, h.args.2.2.2, fun m hm => args_at h (by rw [← h.args.1]; exact hm) hm⟩
theorem drop_len {t : List Int} {k : Nat} (h : k ≤ t.length) : t.length - (t.drop k).length = k := by rw [List.length_drop]; omega

end Go.Proofs.YtfjodhgbbefkjaaGreatDoor

/- Walks of package unify: solve. -/
namespace Go.Proofs.YtfjodhgbbefkjaaGreatDoor
open Go Go.RowKit Go.Maps

theorem T0.back {w0 w : World} (hB : Below w0.heap.size w0 w) {S : Nat → Prop} {a : Option Addr} {c : Nat} {t : List Int} (h : Ints S w a c t) (hS : ∀ b, S b → b < w0.heap.size) : T0 w0 a c t :=
  h.mono (fun b _ hb => hS b hb) (fun b hb _ => (hB.block b (hS b hb)).symm)

def solRet (w0 : World) (xb mb : Nat) (a1 : Option Addr) (c1 : Nat) (s : Sg) (a b : List Int) (e : Ending) (w' : World) : Prop :=
  ∃ r, e = .returned (.bool r) ∧ Below w0.heap.size w0 w' ∧ (r = false → ∀ η, Wsub s η → ap η a ≠ ap η b) ∧
    (r = true → ∃ B θ ρ n, Slv s B θ ρ ∧ RgB B ∧ (∀ η, Wsub s η → (Sat B η ↔ ap η a = ap η b)) ∧ SolvW w0 w' xb mb n a1 c1 s B ∧ ∀ n u, B n = some u → InfT a b u)
section
variable {P : Program} {Q : Exit → Act → World → Prop} {md : Region.Mode} {S : World → Prop} {l : List Oper} {listed : Array Bool} {fuel : Nat} {a : Act} {w : World}
/-- two operations either of which may come up -/
theorem region_2 (i j : Nat) {o o' : Oper} (hi : l[i]? = some o) (hj : l[j]? = some o') (hr : Region.ready md l.toArray listed = [i, j])
    (h : ∀ K' : Act → World → Prop, Shut (∀ a w, S w → (S w → wpAnyH P md l.toArray Q S fuel (listed.setIfInBounds i true) a w) → K' a w) → if Region.wanted o (yielded l.toArray a.tmps) = true then Oper.wp P o a w K' Q else K' (a.put o.dst undef) w)
    (h' : ∀ K' : Act → World → Prop, Shut (∀ a w, S w → (S w → wpAnyH P md l.toArray Q S fuel (listed.setIfInBounds j true) a w) → K' a w) → if Region.wanted o' (yielded l.toArray a.tmps) = true then Oper.wp P o' a w K' Q else K' (a.put o'.dst undef) w) :
    wpAnyH P md l.toArray Q S (fuel + 1) listed a w :=
  wpAnyH_ready hr (by simp) (AllReadyH.cons (by simpa using hi) h (AllReadyH.cons (by simpa using hj) h' AllReadyH.nil))
end
theorem SolvW.keep {w0 w w' : World} {xb mb n K : Nat} {a1 : Option Addr} {c1 : Nat} {s : Sg} {B : Bd} (h : SolvW w0 w xb mb n a1 c1 s B) (hb : Below K w w') (h1 : xb < K) (h2 : mb < K) (h3 : w0.heap.size ≤ K) : SolvW w0 w' xb mb n a1 c1 s B :=
  ⟨(World.cell?_of_block (a := ⟨xb, 0, none⟩) (hb.block xb h1)).trans h.k0, (World.cell?_of_block (a := ⟨xb, 1, none⟩) (hb.block xb h1)).trans h.k1, h.map.below hb h2, h.bx, h.bm, h.ne, h.sg, h.bel.trans (hb.mono h3), h.wf⟩
theorem SolvW.stored {w0 w w' : World} {xb mb n n' : Nat} {a1 : Option Addr} {c1 : Nat} {s : Sg} {B : Bd} {v : Int} {q : List Int} (h : SolvW w0 w xb mb n a1 c1 s B) (hg : w.grownBy w' (some mb)) (hD : BdMap w0 w' mb n' (upB B v q)) (hq : W1 s q) : SolvW w0 w' xb mb n' a1 c1 s (upB B v q) := by
  have hx : w'.heap[xb]? = w.heap[xb]? := hg.block xb h.lt (fun e => h.ne (by injection e))
  refine ⟨(World.cell?_of_block (a := ⟨xb, 0, none⟩) hx).trans h.k0, (World.cell?_of_block (a := ⟨xb, 1, none⟩) hx).trans h.k1, hD, h.bx, h.bm, h.ne, h.sg, h.bel.grown hg h.bel.size (fun j e => by have := h.bm; injection e with e; omega), fun m u hu => ?_⟩
  unfold upB at hu
  split at hu
  · cases hu; exact hq
  · exact h.wf m u hu
theorem rank_head (ρ : Int → Nat) (t : List Int) : ∀ n r, t = n :: r → n < 0 → ρ n < ρ (t.headD 0) + 1 := fun n r e _ => by rw [e]; simp
theorem last_snoc {α : Type} {L : List α} (h : 0 < L.length) : ∃ L0 e, L = L0 ++ [e] ∧ L0.length + 1 = L.length := by
  rcases List.eq_nil_or_concat L with rfl | ⟨L0, e, rfl⟩
  · simp at h
  · exact ⟨L0, e, by rw [List.concat_eq_append], by simp⟩
end Go.Proofs.YtfjodhgbbefkjaaGreatDoor

/- Walks of package unify: solved, apart, Meets, Unifiable. -/
namespace Go.Proofs.YtfjodhgbbefkjaaGreatDoor
open Go Go.RowKit Go.Maps

def apRel (t : List Int) (w : World) (B0 g cap : Nat) (i : Value) (wr : World) : Prop :=
  ∃ k : Nat, i = .int .i64 k ∧ k ≤ t.length ∧ OwnI wr B0 (.slice (some ⟨g, 0, none⟩) t.length cap) (doneTo apN t k) ∧ Below w.heap.size w wr
def solvedRet (w : World) (a1 : Option Addr) (c1 : Nat) (s : Sg) (a b : List Int) (e : Ending) (w' : World) : Prop :=
  ∃ xb mb r, e = .returned (.tuple #[.pointer (some ⟨xb, 0, none⟩), .bool r]) ∧ Below w.heap.size w w' ∧ (r = false → ∀ η, Wsub s η → ap η a ≠ ap η b) ∧
    (r = true → ∃ B θ ρ n, Slv s B θ ρ ∧ RgB B ∧ IsMgu s a b θ ∧ SolvW w w' xb mb n a1 c1 s B)
theorem solved_uniB {w w' : World} {a1 : Option Addr} {c1 xb mb : Nat} {s : Sg} {a b : List Int} {r : Bool} (hf : r = false → ∀ η, Wsub s η → ap η a ≠ ap η b) (ht : r = true → ∃ B θ ρ n, Slv s B θ ρ ∧ RgB B ∧ IsMgu s a b θ ∧ SolvW w w' xb mb n a1 c1 s B) : r = uniB s a b := by
  cases r with
  | false => exact (uniB_none (hf rfl)).symm
  | true => obtain ⟨B, θ, ρ, n, -, -, h, -⟩ := ht rfl; exact (uniB_some h).symm

end Go.Proofs.YtfjodhgbbefkjaaGreatDoor

/- Walks of package unify: code, named. -/
namespace Go.Proofs.YtfjodhgbbefkjaaGreatDoor
open Go Go.RowKit Go.Maps

def namRel (t : List Int) (w : World) (out i : Value) (wr : World) : Prop :=
  ∃ k : Nat, i = .int .i64 k ∧ k ≤ t.length ∧ IMap Tryz.prog 3 3 wr w.heap.size (varsC (t.take k)).length (nameF t k) ∧ OwnI wr (w.heap.size + 1) out ((t.take k).map (canonW (varsC t))) ∧ Below w.heap.size w wr
theorem nam_push {w : World} {base : Nat} {v : Value} {l : List Int} (ho : OwnI w base v l) (x : Int) (hx : inRange x) (hl : l.length ≤ 10000000) (hb : base ≤ w.heap.size) :
    ∃ v' w', RowKit.Hid ((Builtin.append_ #[41, 41] 41 #[v, .slice (some ⟨w.heap.size, 0, none⟩) 1 1]).run Tryz.prog (w.alloc (.cells #[.int .i64 x] 3)) = .ok v' w') ∧ RowKit.Hid (OwnI w' base v' (l ++ [x])) ∧ RowKit.Hid (w.grownBy w' v.ownBlock) := by
  obtain ⟨v', w', hrun, ho', hg, -⟩ := ho.push (P := Tryz.prog) (t := 41) (ty := 41) Tryz.underlying41 infoInt rfl (vs := [.int .i64 x]) (x := x) ⟨rfl, hx⟩ (by omega) (by unfold big; omega) hb
  exact ⟨v', w', Lib.hid hrun, Lib.hid ho', Lib.hid hg⟩
end Go.Proofs.YtfjodhgbbefkjaaGreatDoor

/- Walks of package unify: full, made, Meet. -/
namespace Go.Proofs.YtfjodhgbbefkjaaGreatDoor
open Go Go.RowKit Go.Maps

/-- only what lies from K on, and the box B0, has turned -/
structure FB (K B0 : Nat) (w w' : World) : Prop where
  os : w'.os = w.os
  tape : w'.tape = w.tape
  output : w'.output = w.output
  size : w.heap.size ≤ w'.heap.size
  block : ∀ b, b < K → b ≠ B0 → w'.heap[b]? = w.heap[b]?
section
variable {K B0 : Nat} {w w1 w2 : World}
theorem FB.refl (K B0 : Nat) (w : World) : FB K B0 w w := ⟨rfl, rfl, rfl, Nat.le_refl _, fun _ _ _ => rfl⟩
theorem FB.trans (h : FB K B0 w w1) (k : FB K B0 w1 w2) : FB K B0 w w2 := ⟨k.os.trans h.os, k.tape.trans h.tape, k.output.trans h.output, Nat.le_trans h.size k.size, fun b hb hne => (k.block b hb hne).trans (h.block b hb hne)⟩
theorem FB.below (h : FB K B0 w w1) {C : Nat} (h1 : C ≤ K) (h2 : C ≤ B0) : Below C w w1 := ⟨h.os, h.tape, h.output, h.size, fun b hb => h.block b (by omega) (by omega)⟩
theorem FB.cell (h : FB K B0 w w1) {b off : Nat} {v : Value} (hb : b < K) (hne : b ≠ B0) (hc : w.cell? ⟨b, off, none⟩ = some v) : w1.cell? ⟨b, off, none⟩ = some v := (World.cell?_of_block (w := w) (h.block b hb hne)).trans hc
end
section
variable {w0 w w1 : World} {xb mb nb : Nat} {a1 : Option Addr} {c1 : Nat} {s : Sg} {B : Bd} {xx wb ob K : Nat} {o o' : List Int}
end
theorem len_app (a b : List Int) : (a ++ b).length = a.length + b.length := List.length_append
theorem ap_cut {θ : Int → List Int} {t : List Int} {j : Nat} (h : j < t.length) : ap θ (t.take (j + 1)) = ap θ (t.take j) ++ ap θ [t[j]] ∧ (ap θ (t.take j) ++ ap θ [t[j]]).length ≤ (ap θ t).length := by
  have e : ap θ (t.take (j + 1)) = ap θ (t.take j) ++ ap θ [t[j]] := by rw [List.take_succ_eq_append_getElem h, ap_append]
  refine ⟨e, ?_⟩
  rw [← e]
  have : ap θ t = ap θ (t.take (j + 1)) ++ ap θ (t.drop (j + 1)) := by rw [← ap_append, List.take_append_drop]
  rw [this, List.length_append]; omega
end Go.Proofs.YtfjodhgbbefkjaaGreatDoor

/- Walks of package unify: full, made, Meet. -/
namespace Go.Proofs.YtfjodhgbbefkjaaGreatDoor
open Go Go.RowKit Go.Maps

theorem retE.below {r : List Int × Int} {w w1 : World} {e : Ending} {w' : World} (h : retE r w1 e w') (hb : Below w.heap.size w w1) : retE r w e w' := by
  obtain ⟨v, h1, h2, h3⟩ := h
  exact ⟨v, h1, OwnL.baseMono h2 hb.size, bcall hb h3⟩
end Go.Proofs.YtfjodhgbbefkjaaGreatDoor

/- Walks of package kernel: steps in memory; right, valid, ValidGivens, asked. -/
namespace Go.Proofs.YtfjodhgbbefkjaaGreatDoor
open Go Go.RowKit Go.Maps

/-- struct { Kind, A, B int } -/
def stpE : Enc Stp := pairE intE (pairE intE intE)
abbrev Steps := Sl stpE
abbrev stpV (x : Stp) : Value := .agg #[.int .i64 x.1, .int .i64 x.2.1, .int .i64 x.2.2]
def stpR (x : Stp) : Prop := inRange x.1 ∧ inRange x.2.1 ∧ inRange x.2.2
theorem Sl.stp {S : Nat → Prop} {w : World} {a : Option Addr} {c : Nat} {l : List Stp} (h : Steps S w a c l) (i : Nat) (hi : i < l.length) :
    ∃ b off, a = some ⟨b, off, none⟩ ∧ S b ∧ w.cell? ⟨b, off + i * 3, none⟩ = some (.int .i64 l[i].1) ∧ w.cell? ⟨b, off + i * 3 + 1, none⟩ = some (.int .i64 l[i].2.1) ∧ w.cell? ⟨b, off + i * 3 + 2, none⟩ = some (.int .i64 l[i].2.2) ∧ stpR l[i] := by
  obtain ⟨b, off, ha, hb, _, vs, _, hv, hr⟩ := h.at1 i hi
  obtain ⟨us, ts, rfl, ⟨rfl, h1⟩, us', ts', rfl, ⟨rfl, h2⟩, ⟨rfl, h3⟩⟩ := hr
  have h0 := hv 0 (by simp)
  have h4 := hv 1 (by simp)
  have h5 := hv 2 (by simp)
  simp [stpE, pairE, intE] at h0 h4 h5
  exact ⟨b, off, ha, hb, h0, h4, h5, h1, h2, h3⟩

theorem okSteps_snoc {G : Int} : ∀ (p : List Stp) (n : Nat) (x : Stp), okSteps G n (p ++ [x]) = (okSteps G n p && rightB G (n + p.length) x)
  | [], n, x => by simp [okSteps]
  | y :: p, n, x => by
    rw [List.cons_append, okSteps, okSteps, okSteps_snoc p (n + 1) x, Bool.and_assoc, List.length_cons, show n + 1 + p.length = n + (p.length + 1) by omega]
theorem okSteps_take {G : Int} : ∀ (p : List Stp) (n k : Nat), okSteps G n p = true → okSteps G n (p.take k) = true
  | [], _, _, _ => by simp [okSteps]
  | x :: p, n, 0, _ => rfl
  | x :: p, n, k + 1, h => by
    simp only [okSteps, Bool.and_eq_true] at h
    rw [List.take_succ_cons, okSteps, Bool.and_eq_true]
    exact ⟨h.1, okSteps_take p (n + 1) k h.2⟩
end Go.Proofs.YtfjodhgbbefkjaaGreatDoor

/- Facts of the program's types that the rows over the kernel want; the start of a row that lists variables. -/
namespace Go.Proofs.YtfjodhgbbefkjaaGreatDoor
open Go Go.RowKit Go.ChangeShapes Go.WideShapes Go.ChangeAt Go.Deep

theorem gives3 {P : Program} {t : TypeId} {α β γ : Type} {E : Enc α} {F : Enc β} {G : Enc γ} {f0 f1 f2 : Field} (ht : P.underlying t = some (.struct #[f0, f1, f2])) (h0 : f0.offset = 0) (h1 : f1.offset = E.size) (h2 : f2.offset = E.size + F.size) (hc : P.cellsOf t = E.size + (F.size + G.size))
    (hc0 : P.cellsOf f0.type = E.size) (hc1 : P.cellsOf f1.type = F.size) (hc2 : P.cellsOf f2.type = G.size) (g0 : Gives P f0.type E) (g1 : Gives P f1.type F) (g2 : Gives P f2.type G) : Gives P t (pairE E (pairE F G)) := by
  intro H enc w base spare held n cs x h
  obtain ⟨y0, y1, y2, n', _, hl, r0, r1, r2⟩ := trod_struct3 ht h
  obtain ⟨a, ha⟩ := g0 H enc w base spare held n' _ _ r0
  obtain ⟨b, hb⟩ := g1 H enc w base spare held n' _ _ r1
  obtain ⟨c, hcc⟩ := g2 H enc w base spare held n' _ _ r2
  refine ⟨(a, b, c), _, _, ?_, ha, _, _, rfl, hb, hcc⟩
  rw [h0, h1, h2, hc0, hc1, hc2, List.drop_zero]
  have e1 : (cs.drop (E.size + F.size)).take G.size = cs.drop (E.size + F.size) := List.take_of_length_le (by simp; omega)
  rw [e1, ← List.drop_drop, List.take_append_drop, List.take_append_drop]
theorem gives_array2 {P : Program} {t e : TypeId} {α : Type} {E : Enc α} (ht : P.underlying t = some (.array 2 e)) (hc : P.cellsOf t = E.size + E.size) (he : P.cellsOf e = E.size) (g : Gives P e E) : Gives P t (pairE E E) := by
  intro H enc w base spare held n cs x h
  obtain ⟨xs, m, _, _, hl, hx, hf⟩ := DataW.trod_array ht h
  match xs, hx with
  | [x0, x1], _ =>
    obtain ⟨a, ha⟩ := g H enc w base spare held m _ _ (hf 0 (by omega))
    obtain ⟨b, hb⟩ := g H enc w base spare held m _ _ (hf 1 (by omega))
    refine ⟨(a, b), _, _, ?_, ha, hb⟩
    rw [he, Nat.zero_mul, Nat.one_mul, List.drop_zero]
    have e1 : (cs.drop E.size).take E.size = cs.drop E.size := List.take_of_length_le (by simp; omega)
    rw [e1, List.take_append_drop]
end Go.Proofs.YtfjodhgbbefkjaaGreatDoor

/- Walks: few, small of the laws on tongues. -/
namespace Go.Proofs.YtfjodhgbbefkjaaGreatDoor
open Go Go.RowKit Go.Maps

def fewB (d : Ways) : Bool := d.all (fun x => decide (x.2.length ≤ 40)) && decide (d.length ≤ 40)
theorem fewB_le {d : Ways} (h : fewB d = true) : d.length ≤ 40 ∧ ∀ x ∈ d, x.2.length ≤ 1000 := by
  unfold fewB at h
  rw [Bool.and_eq_true, List.all_eq_true, decide_eq_true_eq] at h
  refine ⟨h.2, fun x hx => ?_⟩
  have := h.1 x hx
  rw [decide_eq_true_eq] at this
  omega
def fewRel (d : Ways) (w : World) (i : Value) (wr : World) : Prop := ∃ k : Nat, i = .int .i64 k ∧ k ≤ d.length ∧ (d.take k).all (fun x => decide (x.2.length ≤ 40)) = true ∧ w = wr
theorem few_any {S3 : Nat → Prop} (a3 : Option Addr) (c3 : Nat) (d : Ways) (w : World) (h3 : WaysL S3 w a3 c3 d) :
    Calls Tryz.prog 34 #[.slice a3 d.length c3] w fun e w' => e = .returned (.bool (fewB d)) ∧ w = w' := by
  have m3 := h3.le
  have h3H := Lib.hid h3
  clear h3
  go_enter Tryz.func34, Tryz.ntmps34
  go_wp2_with fail
  go_loopw [3] (fun i wr => fewRel d w i wr) (fun i _ => d.length - (intOf i).toNat)
  case atStart => exact ⟨0, rfl, Nat.zero_le _, by simp, rfl⟩
  case round =>
    obtain ⟨k, rfl, hk, hal, rfl⟩ := hrel
    by_cases hlt : k < d.length
    · obtain ⟨b3, o3, ai, ci, rfl, -, -, qi, -, hI⟩ := h3H.out.way k hlt
      have hma := hI.le
      have hst : d[k].2.length ≤ 40 → (d.take (k + 1)).all (fun x => decide (x.2.length ≤ 40)) = true := fun h => by
        rw [List.take_succ_eq_append_getElem hlt, List.all_append, hal]
        simpa using h
      have hbad : 40 < d[k].2.length → fewB d = false := fun h => by
        have : d.all (fun x => decide (x.2.length ≤ 40)) = false := by rw [List.all_eq_false]; exact ⟨d[k], List.getElem_mem hlt, by simpa using h⟩
        unfold fewB; rw [this]; rfl
      obtain ⟨n, hn⟩ : ∃ n, d[k].2.length = n := ⟨_, rfl⟩
      rw [hn] at qi hst hbad hma
      by_cases h40 : n ≤ 40
      · have hf := Lib.hid (hst h40)
        clear hst hbad hal hn hI
        go_wp2_with fail
        go_roundw
        case rel => exact ⟨k + 1, by go_num, by omega, hf.out, rfl⟩
        case measure => simp [intOf]; omega
      · have hf := Lib.hid (hbad (by omega))
        clear hst hbad hal hn hI
        go_wp2_with fail
        go_ret
        exact ⟨ret_bool hf.out.symm, rfl⟩
    · rw [List.take_of_length_le (by omega)] at hal
      have hf : fewB d = decide (d.length ≤ 40) := by unfold fewB; rw [hal, Bool.true_and]
      have hfH := Lib.hid hf
      clear hal hf
      go_wp2_with fail
      go_ret
      refine ⟨ret_bool ?_, rfl⟩
      rw [hfH.out, Bool.eq_iff_iff]; simp; omega
def smallTr (a b : Sg) (d : Ways) : Bool := smallT a [] && (smallT b [] && fewB d)
set_option maxHeartbeats 1000000 in
theorem smallTr_any {S1 S2 S3 : Nat → Prop} (a1 a2 a3 : Option Addr) (c1 c2 c3 : Nat) (a b : Sg) (d : Ways) (w : World) (h1 : Sign S1 w a1 c1 a) (h2 : Sign S2 w a2 c2 b) (h3 : WaysL S3 w a3 c3 d) :
    Calls Tryz.prog 18 #[.agg #[.slice a1 a.length c1, .slice a2 b.length c2, .slice a3 d.length c3]] w fun e w' => e = .returned (.bool (smallTr a b d)) ∧ Below w.heap.size w w' := by
  have m1 := h1.le
  have m2 := h2.le
  have m3 := h3.le
  obtain ⟨W, hW⟩ : ∃ W, w.alloc (.cells #[.slice a1 a.length c1, .slice a2 b.length c2, .slice a3 d.length c3] 34) = W := ⟨_, rfl⟩
  have hB : Below w.heap.size w W := by rw [← hW]; exact below1 w _
  have q0 : W.cell? ⟨w.heap.size, 0, none⟩ = some (.slice a1 a.length c1) := by rw [← hW]; clear hW; go_simp
  have q1 : W.cell? ⟨w.heap.size, 1, none⟩ = some (.slice a2 b.length c2) := by rw [← hW]; clear hW; go_simp
  have q2 : W.cell? ⟨w.heap.size, 2, none⟩ = some (.slice a3 d.length c3) := by rw [← hW]; clear hW; go_simp
  have s1 : Calls Tryz.prog 12 #[.slice a1 a.length c1, .slice none 0 0] W fun e w' => e = .returned (.bool (smallT a [])) ∧ W = w' := Small_any a1 none c1 0 a [] W (h1.below hB) (Sl.empty (S := fun _ => True))
  have s2 : Calls Tryz.prog 12 #[.slice a2 b.length c2, .slice none 0 0] W fun e w' => e = .returned (.bool (smallT b [])) ∧ W = w' := Small_any a2 none c2 0 b [] W (h2.below hB) (Sl.empty (S := fun _ => True))
  have s3 := few_any a3 c3 d W (h3.below hB)
  have s1H := Lib.hid s1
  have s2H := Lib.hid s2
  have s3H := Lib.hid s3
  have hBH := Lib.hid hB
  clear s1 s2 s3 hB h1 h2 h3
  unfold smallTr
  cases hx : smallT a [] with
  | false =>
    rw [hx] at s1H
    clear hx
    go_enter Tryz.func18, Tryz.ntmps18
    go_wp2_with fail
    try rw [hW]
    go_wp2_with fail
    refine s1H.out.mono ?_
    rintro e w1 ⟨rfl, rfl⟩
    go_wp2_with fail
    go_ret
    exact ⟨rfl, hBH.out⟩
  | true =>
  rw [hx] at s1H
  cases hy : smallT b [] with
  | false =>
    rw [hy] at s2H
    clear hx hy
    go_enter Tryz.func18, Tryz.ntmps18
    go_wp2_with fail
    try rw [hW]
    go_wp2_with fail
    refine s1H.out.mono ?_
    rintro e w1 ⟨rfl, rfl⟩
    go_wp2_with fail
    refine s2H.out.mono ?_
    rintro e w1 ⟨rfl, rfl⟩
    go_wp2_with fail
    go_ret
    exact ⟨rfl, hBH.out⟩
  | true =>
  rw [hy] at s2H
  obtain ⟨z, hz⟩ : ∃ z, fewB d = z := ⟨_, rfl⟩
  rw [hz] at s3H ⊢
  clear hx hy hz
  go_enter Tryz.func18, Tryz.ntmps18
  go_wp2_with fail
  try rw [hW]
  go_wp2_with fail
  refine s1H.out.mono ?_
  rintro e w1 ⟨rfl, rfl⟩
  go_wp2_with fail
  refine s2H.out.mono ?_
  rintro e w1 ⟨rfl, rfl⟩
  go_wp2_with fail
  refine s3H.out.mono ?_
  rintro e w1 ⟨rfl, rfl⟩
  go_wp2_with fail
  go_ret
  exact ⟨by simp, hBH.out⟩
end Go.Proofs.YtfjodhgbbefkjaaGreatDoor

/- The law TongueComposes, walked. -/
namespace Go.Proofs.YtfjodhgbbefkjaaGreatDoor
open Go Go.RowKit Go.Maps

theorem valid_argsC {a b : Sg} {d : Ways} (h : validD a b d = true) : ∀ x ∈ d, x.2.length ≤ 1000 := fun x hx => by
  obtain ⟨i, hi, rfl⟩ := List.getElem_of_mem hx
  obtain ⟨h1, -, h3, -⟩ := validD_parts h
  obtain ⟨-, -, -, v4, -⟩ := validD_at h (i := i) (by omega)
  obtain ⟨n, e1, e2, e3, e4⟩ := arAt_nat h1 (k := i) (by omega)
  rw [getD_at hi] at v4
  omega
theorem cmpE_cases (a b c : Sg) (d e : Ways) : ((cmpE a b c d e).2 ≠ 0) ∨ (validD a b d = true ∧ validD b c e = true ∧ cmpE a b c d e = (compD d e d.length, 0)) := by
  unfold cmpE
  cases h1 : validD a b d
  · left; simp
  · cases h2 : validD b c e
    · left; simp
    · right; simp
theorem crdE_casesC (a b : Sg) (d : Ways) (t : List Int) : ((crdE a b d t).2 ≠ 0) ∨ (validD a b d = true ∧ okT a t = true ∧ crdE a b d t = (carT a d t, 0)) := by
  unfold crdE
  cases h1 : validD a b d
  · left; simp
  · cases h2 : okT a t
    · left; simp
    · right; simp
theorem cmpE_ok {a b c : Sg} {d e : Ways} (h1 : validD a b d = true) (h2 : validD b c e = true) : cmpE a b c d e = (compD d e d.length, 0) := by
  unfold cmpE
  rw [h1, h2, Bool.and_self, if_pos rfl]
theorem crdE_ok {a b : Sg} {d : Ways} {t : List Int} (h1 : validD a b d = true) (h2 : okT a t = true) : crdE a b d t = (carT a d t, 0) := by
  unfold crdE
  rw [h1, h2, Bool.and_self, if_pos rfl]
set_option maxRecDepth 100000 in
set_option maxHeartbeats 16000000 in
theorem TongueComposes_walk {R0 R1 R2 R3 Q0 Q1 Q2 S4 : Nat → Prop} (a0 : Option Addr) (c0 : Nat) (s0 : Sg) (a1 : Option Addr) (c1 : Nat) (s1 : Sg) (a2 : Option Addr) (c2 : Nat) (s2 : Sg) (a3 : Option Addr) (c3 : Nat) (s3 : Sg)
    (b0 : Option Addr) (k0 : Nat) (d : Ways) (b1 : Option Addr) (k1 : Nat) (e : Ways) (b2 : Option Addr) (k2 : Nat) (f : Ways) (a4 : Option Addr) (c4 : Nat) (t : List Int) (w : World)
    (h0 : Sign R0 w a0 c0 s0) (h1 : Sign R1 w a1 c1 s1) (h2 : Sign R2 w a2 c2 s2) (h3 : Sign R3 w a3 c3 s3) (g0 : WaysL Q0 w b0 k0 d) (g1 : WaysL Q1 w b1 k1 e) (g2 : WaysL Q2 w b2 k2 f) (h4 : Ints S4 w a4 c4 t) :
    Calls Tryz.prog 6 #[.agg #[.slice a0 s0.length c0, .slice a1 s1.length c1, .slice a2 s2.length c2, .slice a3 s3.length c3, .slice b0 d.length k0, .slice b1 e.length k1, .slice b2 f.length k2], .slice a4 t.length c4] w fun e w' => e = .returned (.bool true) ∧ Below w.heap.size w w' := by
  have m0 := h0.le
  have m1 := h1.le
  have m2 := h2.le
  have m3 := h3.le
  have n0 := g0.le
  have n1 := g1.le
  have n2 := g2.le
  have m4 := h4.le
  obtain ⟨W0, hW0⟩ : ∃ W, w.alloc (.cells #[.slice a0 s0.length c0, .slice a1 s1.length c1, .slice a2 s2.length c2, .slice a3 s3.length c3, .slice b0 d.length k0, .slice b1 e.length k1, .slice b2 f.length k2] 54) = W := ⟨_, rfl⟩
  have hB0 : Below w.heap.size w W0 := by rw [← hW0]; exact below1 w _
  have q0 : W0.cell? ⟨w.heap.size, 0, none⟩ = some (.slice a0 s0.length c0) := by rw [← hW0]; clear hW0; go_simp
  have q1 : W0.cell? ⟨w.heap.size, 1, none⟩ = some (.slice a1 s1.length c1) := by rw [← hW0]; clear hW0; go_simp
  have q2 : W0.cell? ⟨w.heap.size, 2, none⟩ = some (.slice a2 s2.length c2) := by rw [← hW0]; clear hW0; go_simp
  have q3 : W0.cell? ⟨w.heap.size, 3, none⟩ = some (.slice a3 s3.length c3) := by rw [← hW0]; clear hW0; go_simp
  have q4 : W0.cell? ⟨w.heap.size, 4, none⟩ = some (.slice b0 d.length k0) := by rw [← hW0]; clear hW0; go_simp
  have q5 : W0.cell? ⟨w.heap.size, 5, none⟩ = some (.slice b1 e.length k1) := by rw [← hW0]; clear hW0; go_simp
  have q6 : W0.cell? ⟨w.heap.size, 6, none⟩ = some (.slice b2 f.length k2) := by rw [← hW0]; clear hW0; go_simp
  obtain ⟨W, hW⟩ : ∃ W, W0.alloc (.cells #[.slice a4 t.length c4] 41) = W := ⟨_, rfl⟩
  have hB1 : Below W0.heap.size W0 W := by rw [← hW]; exact below1 W0 _
  have hB : Below w.heap.size w W := bcall hB0 hB1
  have hTs := Sl.new (E := slE intE) (S := fun _ => True) W0 [[.slice a4 t.length c4]] [t] 41 rfl (by unfold big; simp) (fun i g1 g2 => by
      match i, g1 with
      | 0, _ => exact ⟨_, _, rfl, (h4.below hB0).any⟩)

  have u0 : Calls Tryz.prog 12 #[.slice a0 s0.length c0, .slice (some ⟨W0.heap.size, 0, none⟩) 1 1] W fun e w' => e = .returned (.bool (smallT s0 [t])) ∧ W = w' := Small_any a0 (some ⟨W0.heap.size, 0, none⟩) c0 1 s0 [t] W (h0.below hB) (by rw [← hW]; exact hTs.any)
  have u1 : Calls Tryz.prog 12 #[.slice a1 s1.length c1, .slice none 0 0] W fun e w' => e = .returned (.bool (smallT s1 [])) ∧ W = w' := Small_any a1 none c1 0 s1 [] W (h1.below hB) (Sl.empty (S := fun _ => True))
  have u2 : Calls Tryz.prog 12 #[.slice a2 s2.length c2, .slice none 0 0] W fun e w' => e = .returned (.bool (smallT s2 [])) ∧ W = w' := Small_any a2 none c2 0 s2 [] W (h2.below hB) (Sl.empty (S := fun _ => True))
  have u3 : Calls Tryz.prog 12 #[.slice a3 s3.length c3, .slice none 0 0] W fun e w' => e = .returned (.bool (smallT s3 [])) ∧ W = w' := Small_any a3 none c3 0 s3 [] W (h3.below hB) (Sl.empty (S := fun _ => True))
  have u4 := few_any b0 k0 d W (g0.below hB)
  have u5 := few_any b1 k1 e W (g1.below hB)
  have u6 := few_any b2 k2 f W (g2.below hB)
  have u0H := Lib.hid u0
  have u1H := Lib.hid u1
  have u2H := Lib.hid u2
  have u3H := Lib.hid u3
  have u4H := Lib.hid u4
  have u5H := Lib.hid u5
  have u6H := Lib.hid u6
  have aw := Lib.hid (fun W' (hb : Below w.heap.size w W') => aw3_from hb (Nat.le_refl _))
  have hBH := Lib.hid hB
  have p0 := cell_later hB1 q0
  have p1 := cell_later hB1 q1
  have p2 := cell_later hB1 q2
  have p3 := cell_later hB1 q3
  have p4 := cell_later hB1 q4
  have p5 := cell_later hB1 q5
  have p6 := cell_later hB1 q6
  have Q : ∀ W', Below W.heap.size W W' → Below w.heap.size w W' ∧ W'.cell? ⟨w.heap.size, 0, none⟩ = some (.slice a0 s0.length c0) ∧ W'.cell? ⟨w.heap.size, 1, none⟩ = some (.slice a1 s1.length c1) ∧ W'.cell? ⟨w.heap.size, 2, none⟩ = some (.slice a2 s2.length c2) ∧ W'.cell? ⟨w.heap.size, 3, none⟩ = some (.slice a3 s3.length c3) ∧ W'.cell? ⟨w.heap.size, 4, none⟩ = some (.slice b0 d.length k0) ∧ W'.cell? ⟨w.heap.size, 5, none⟩ = some (.slice b1 e.length k1) ∧ W'.cell? ⟨w.heap.size, 6, none⟩ = some (.slice b2 f.length k2) := fun W' hb =>
    ⟨bcall hBH.out hb, cell_later hb p0, cell_later hb p1, cell_later hb p2, cell_later hb p3, cell_later hb p4, cell_later hb p5, cell_later hb p6⟩
  have QH := Lib.hid Q
  have h0H := Lib.hid h0
  have h1H := Lib.hid h1
  have h2H := Lib.hid h2
  have h3H := Lib.hid h3
  have g0H := Lib.hid g0
  have g1H := Lib.hid g1
  have g2H := Lib.hid g2
  have h4H := Lib.hid h4
  clear h0 h1 h2 h3 g0 g1 g2 h4 hB0 hB1 hB hTs u0 u1 u2 u3 u4 u5 u6 Q
  cases z0 : smallT s0 [t] with
  | false =>
    rw [z0] at u0H
    go_enter Tryz.func6, Tryz.ntmps6
    go_wp2_with fail
    try rw [hW0]
    go_wp2_with fail
    try rw [hW]
    refine u0H.out.mono ?_
    rintro e w1 ⟨rfl, rfl⟩
    go_wp2_with fail
    refine (aw.out _ hBH.out).mono ?_
    rintro e w2 ⟨rfl, hb2⟩
    go_wp2_with fail
    go_ret
    exact ⟨rfl, hb2⟩
  | true =>
  rw [z0] at u0H
  cases z1 : smallT s1 [] with
  | false =>
    rw [z1] at u1H
    go_enter Tryz.func6, Tryz.ntmps6
    go_wp2_with fail
    try rw [hW0]
    go_wp2_with fail
    try rw [hW]
    refine u0H.out.mono ?_
    rintro e w1 ⟨rfl, rfl⟩
    go_wp2_with fail
    refine u1H.out.mono ?_
    rintro e w1 ⟨rfl, rfl⟩
    go_wp2_with fail
    refine (aw.out _ hBH.out).mono ?_
    rintro e w2 ⟨rfl, hb2⟩
    go_wp2_with fail
    go_ret
    exact ⟨rfl, hb2⟩
  | true =>
  rw [z1] at u1H
  cases z2 : smallT s2 [] with
  | false =>
    rw [z2] at u2H
    go_enter Tryz.func6, Tryz.ntmps6
    go_wp2_with fail
    try rw [hW0]
    go_wp2_with fail
    try rw [hW]
    refine u0H.out.mono ?_
    rintro e w1 ⟨rfl, rfl⟩
    go_wp2_with fail
    refine u1H.out.mono ?_
    rintro e w1 ⟨rfl, rfl⟩
    go_wp2_with fail
    refine u2H.out.mono ?_
    rintro e w1 ⟨rfl, rfl⟩
    go_wp2_with fail
    refine (aw.out _ hBH.out).mono ?_
    rintro e w2 ⟨rfl, hb2⟩
    go_wp2_with fail
    go_ret
    exact ⟨rfl, hb2⟩
  | true =>
  rw [z2] at u2H
  cases z3 : smallT s3 [] with
  | false =>
    rw [z3] at u3H
    go_enter Tryz.func6, Tryz.ntmps6
    go_wp2_with fail
    try rw [hW0]
    go_wp2_with fail
    try rw [hW]
    refine u0H.out.mono ?_
    rintro e w1 ⟨rfl, rfl⟩
    go_wp2_with fail
    refine u1H.out.mono ?_
    rintro e w1 ⟨rfl, rfl⟩
    go_wp2_with fail
    refine u2H.out.mono ?_
    rintro e w1 ⟨rfl, rfl⟩
    go_wp2_with fail
    refine u3H.out.mono ?_
    rintro e w1 ⟨rfl, rfl⟩
    go_wp2_with fail
    refine (aw.out _ hBH.out).mono ?_
    rintro e w2 ⟨rfl, hb2⟩
    go_wp2_with fail
    go_ret
    exact ⟨rfl, hb2⟩
  | true =>
  rw [z3] at u3H
  cases z4 : fewB d with
  | false =>
    rw [z4] at u4H
    go_enter Tryz.func6, Tryz.ntmps6
    go_wp2_with fail
    try rw [hW0]
    go_wp2_with fail
    try rw [hW]
    refine u0H.out.mono ?_
    rintro e w1 ⟨rfl, rfl⟩
    go_wp2_with fail
    refine u1H.out.mono ?_
    rintro e w1 ⟨rfl, rfl⟩
    go_wp2_with fail
    refine u2H.out.mono ?_
    rintro e w1 ⟨rfl, rfl⟩
    go_wp2_with fail
    refine u3H.out.mono ?_
    rintro e w1 ⟨rfl, rfl⟩
    go_wp2_with fail
    refine u4H.out.mono ?_
    rintro e w1 ⟨rfl, rfl⟩
    go_wp2_with fail
    refine (aw.out _ hBH.out).mono ?_
    rintro e w2 ⟨rfl, hb2⟩
    go_wp2_with fail
    go_ret
    exact ⟨rfl, hb2⟩
  | true =>
  rw [z4] at u4H
  cases z5 : fewB e with
  | false =>
    rw [z5] at u5H
    go_enter Tryz.func6, Tryz.ntmps6
    go_wp2_with fail
    try rw [hW0]
    go_wp2_with fail
    try rw [hW]
    refine u0H.out.mono ?_
    rintro e w1 ⟨rfl, rfl⟩
    go_wp2_with fail
    refine u1H.out.mono ?_
    rintro e w1 ⟨rfl, rfl⟩
    go_wp2_with fail
    refine u2H.out.mono ?_
    rintro e w1 ⟨rfl, rfl⟩
    go_wp2_with fail
    refine u3H.out.mono ?_
    rintro e w1 ⟨rfl, rfl⟩
    go_wp2_with fail
    refine u4H.out.mono ?_
    rintro e w1 ⟨rfl, rfl⟩
    go_wp2_with fail
    refine u5H.out.mono ?_
    rintro e w1 ⟨rfl, rfl⟩
    go_wp2_with fail
    refine (aw.out _ hBH.out).mono ?_
    rintro e w2 ⟨rfl, hb2⟩
    go_wp2_with fail
    go_ret
    exact ⟨rfl, hb2⟩
  | true =>
  rw [z5] at u5H
  cases z6 : fewB f with
  | false =>
    rw [z6] at u6H
    go_enter Tryz.func6, Tryz.ntmps6
    go_wp2_with fail
    try rw [hW0]
    go_wp2_with fail
    try rw [hW]
    refine u0H.out.mono ?_
    rintro e w1 ⟨rfl, rfl⟩
    go_wp2_with fail
    refine u1H.out.mono ?_
    rintro e w1 ⟨rfl, rfl⟩
    go_wp2_with fail
    refine u2H.out.mono ?_
    rintro e w1 ⟨rfl, rfl⟩
    go_wp2_with fail
    refine u3H.out.mono ?_
    rintro e w1 ⟨rfl, rfl⟩
    go_wp2_with fail
    refine u4H.out.mono ?_
    rintro e w1 ⟨rfl, rfl⟩
    go_wp2_with fail
    refine u5H.out.mono ?_
    rintro e w1 ⟨rfl, rfl⟩
    go_wp2_with fail
    refine u6H.out.mono ?_
    rintro e w1 ⟨rfl, rfl⟩
    go_wp2_with fail
    refine (aw.out _ hBH.out).mono ?_
    rintro e w2 ⟨rfl, hb2⟩
    go_wp2_with fail
    go_ret
    exact ⟨rfl, hb2⟩
  | true =>
  rw [z6] at u6H
  have hd : ∀ x ∈ d, x.2.length ≤ 1000 := (fewB_le z4).2
  have he : ∀ x ∈ e, x.2.length ≤ 1000 := (fewB_le z5).2
  have hf : ∀ x ∈ f, x.2.length ≤ 1000 := (fewB_le z6).2
  have hdH := Lib.hid hd
  have heH := Lib.hid he
  have hfH := Lib.hid hf
  clear hd he hf z0 z1 z2 z3 z4 z5 z6
  go_enter Tryz.func6, Tryz.ntmps6
  go_wp2_with fail
  try rw [hW0]
  go_wp2_with fail
  try rw [hW]
  refine u0H.out.mono ?_
  rintro e w1 ⟨rfl, rfl⟩
  go_wp2_with fail
  refine u1H.out.mono ?_
  rintro e w1 ⟨rfl, rfl⟩
  go_wp2_with fail
  refine u2H.out.mono ?_
  rintro e w1 ⟨rfl, rfl⟩
  go_wp2_with fail
  refine u3H.out.mono ?_
  rintro e w1 ⟨rfl, rfl⟩
  go_wp2_with fail
  refine u4H.out.mono ?_
  rintro e w1 ⟨rfl, rfl⟩
  go_wp2_with fail
  refine u5H.out.mono ?_
  rintro e w1 ⟨rfl, rfl⟩
  go_wp2_with fail
  refine u6H.out.mono ?_
  rintro e w1 ⟨rfl, rfl⟩
  have hT0H := Lib.hid (Below.refl W.heap.size W)
  have hw0H := Lib.hid hBH.out
  clear u0H u1H u2H u3H u4H u5H u6H hW0 hW q0 q1 q2 q3 q4 q5 q6
  obtain ⟨⟨X, E1⟩, hX⟩ : ∃ x, cmpE s0 s1 s2 d e = x := ⟨_, rfl⟩
  have hXc := Lib.hid (cmpE_cases s0 s1 s2 d e)
  have f1 : (E1 != E1) = false := by simp
  have cc10 := Composed_any a0 a1 a2 b0 b1 c0 c1 c2 k0 k1 s0 s1 s2 d e _ (h0H.out.below hw0H.out) (h1H.out.below hw0H.out) (h2H.out.below hw0H.out) (g0H.out.below hw0H.out) (g1H.out.below hw0H.out) hdH.out heH.out
  rw [hX] at cc10
  have cc1 := Lib.hid cc10
  clear cc10
  go_wp2_with fail
  refine cc1.out.mono ?_
  rintro e w1 ⟨aX, cX, rfl, hX, hb1⟩
  have hT1 := bcall hT0H.out hb1
  obtain ⟨hw1, p0, p1, p2, p3, p4, p5, p6⟩ := QH.out _ hT1
  have X_1 := Lib.hid hX
  have mX := hX.le
  have hT1H := Lib.hid hT1
  have hw1H := Lib.hid hw1
  clear hT1 hw1 hb1 hT0H hw0H hX cc1
  have cc20 := rComposed_any a0 a1 a2 b0 b1 c0 c1 c2 k0 k1 s0 s1 s2 d e _ (h0H.out.below hw1H.out) (h1H.out.below hw1H.out) (h2H.out.below hw1H.out) (g0H.out.below hw1H.out) (g1H.out.below hw1H.out)
  rw [hX] at cc20
  have cc2 := Lib.hid cc20
  clear cc20
  go_wp2_with fail
  refine cc2.out.mono ?_
  rintro e w2 ⟨aY, cY, rfl, hY, hb2⟩
  have hT2 := bcall hT1H.out hb2
  obtain ⟨hw2, p0, p1, p2, p3, p4, p5, p6⟩ := QH.out _ hT2
  have X_2 := Lib.hid (X_1.out.below hb2)
  have Y_2 := Lib.hid hY
  have mY := hY.le
  have hT2H := Lib.hid hT2
  have hw2H := Lib.hid hw2
  clear hT2 hw2 hb2 hT1H hw1H X_1 hY cc2
  have cc30 := rSame3_any aX aY cX cY X X _ X_2.out Y_2.out
  rw [decide_eq_true rfl] at cc30
  have cc3 := Lib.hid cc30
  clear cc30
  go_wp2_with fail
  refine cc3.out.mono ?_
  rintro e w3 ⟨rfl, hd3⟩
  have hb3 := hd3.below w2.heap.size
  have hT3 := bcall hT2H.out hb3
  obtain ⟨hw3, p0, p1, p2, p3, p4, p5, p6⟩ := QH.out _ hT3
  have X_3 := Lib.hid (X_2.out.below hb3)
  have Y_3 := Lib.hid (Y_2.out.below hb3)
  have hT3H := Lib.hid hT3
  have hw3H := Lib.hid hw3
  clear hT3 hw3 hb3 hT2H hw2H X_2 Y_2 cc3 hd3
  obtain ⟨⟨I, E2⟩, hI⟩ : ∃ x, itsE s0 = x := ⟨_, rfl⟩
  have f2 : (E2 != E2) = false := by simp
  have cc40 := Itself_any a0 c0 s0 _ (h0H.out.below hw3H.out)
  rw [hI] at cc40
  have cc4 := Lib.hid cc40
  clear cc40
  go_wp2_with fail
  refine cc4.out.mono ?_
  rintro e w4 ⟨aI, cI, rfl, hI, hb4⟩
  have hT4 := bcall hT3H.out hb4
  obtain ⟨hw4, p0, p1, p2, p3, p4, p5, p6⟩ := QH.out _ hT4
  have X_4 := Lib.hid (X_3.out.below hb4)
  have I_4 := Lib.hid hI
  have mI := hI.le
  have hT4H := Lib.hid hT4
  have hw4H := Lib.hid hw4
  clear hT4 hw4 hb4 hT3H hw3H X_3 hI Y_3 cc4
  have cc50 := rItself_any a0 c0 s0 _ (h0H.out.below hw4H.out)
  rw [hI] at cc50
  have cc5 := Lib.hid cc50
  clear cc50
  go_wp2_with fail
  refine cc5.out.mono ?_
  rintro e w5 ⟨aJ, cJ, rfl, hJ, hb5⟩
  have hT5 := bcall hT4H.out hb5
  obtain ⟨hw5, p0, p1, p2, p3, p4, p5, p6⟩ := QH.out _ hT5
  have X_5 := Lib.hid (X_4.out.below hb5)
  have I_5 := Lib.hid (I_4.out.below hb5)
  have J_5 := Lib.hid hJ
  have mJ := hJ.le
  have hT5H := Lib.hid hT5
  have hw5H := Lib.hid hw5
  clear hT5 hw5 hb5 hT4H hw4H X_4 I_4 hJ cc5
  have cc60 := rSame3_any aI aJ cI cJ I I _ I_5.out J_5.out
  rw [decide_eq_true rfl] at cc60
  have cc6 := Lib.hid cc60
  clear cc60
  go_wp2_with fail
  refine cc6.out.mono ?_
  rintro e w6 ⟨rfl, hd6⟩
  have hb6 := hd6.below w5.heap.size
  have hT6 := bcall hT5H.out hb6
  obtain ⟨hw6, p0, p1, p2, p3, p4, p5, p6⟩ := QH.out _ hT6
  have X_6 := Lib.hid (X_5.out.below hb6)
  have I_6 := Lib.hid (I_5.out.below hb6)
  have J_6 := Lib.hid (J_5.out.below hb6)
  have hT6H := Lib.hid hT6
  have hw6H := Lib.hid hw6
  clear hT6 hw6 hb6 hT5H hw5H X_5 I_5 J_5 cc6 hd6
  have hXc0 := hXc.out
  rw [hX] at hXc0
  rcases hXc0 with hF | ⟨vd, ve, hXe⟩
  · have f3 : (E1 != 0) = true := by simpa using hF
    clear hF hX hXc hI
    have ca7 := Lib.hid (aw.out _ hw6H.out)
    go_wp2_with fail
    refine ca7.out.mono ?_
    rintro e wZ ⟨rfl, hbZ⟩
    go_wp2_with fail
    go_ret
    exact ⟨rfl, hbZ⟩
  obtain ⟨rfl, rfl⟩ : X = compD d e d.length ∧ E1 = 0 := by
    injection hXe with x1 x2
    exact ⟨x1, x2⟩
  have hvX := comp_valid vd ve
  have hXa := Lib.hid (valid_argsC hvX)
  have hcar := Lib.hid (fun (ht : okT s0 t = true) => And.intro (carT_ok vd t.length ht (Nat.le_refl _)).1 (comp_carry vd ve t.length ht (Nat.le_refl _)))
  have hasc := Lib.hid (fun (vf : validD s2 s3 f = true) => comp_assoc vd ve vf)
  obtain ⟨X, hXX⟩ : ∃ X, compD d e d.length = X := ⟨_, rfl⟩
  rw [hXX] at hvX hXa hcar hasc
  rw [hXX] at X_6 mX
  try simp only [hXX]
  have vdH := Lib.hid vd
  have veH := Lib.hid ve
  have vXH := Lib.hid hvX
  clear vd ve hvX hX hXc hXe hXX f1 f2 hI
  have hRc := Lib.hid (crdE_casesC s0 s1 d t)
  obtain ⟨⟨U, E3⟩, hU⟩ : ∃ x, crdE s0 s1 d t = x := ⟨_, rfl⟩
  have cc70 := Carried_any a0 a1 b0 a4 c0 c1 k0 c4 s0 s1 d t _ (h0H.out.below hw6H.out) (h1H.out.below hw6H.out) (g0H.out.below hw6H.out) (h4H.out.below hw6H.out) hdH.out
  rw [hU] at cc70
  have cc7 := Lib.hid cc70
  clear cc70
  go_wp2_with fail
  refine cc7.out.mono ?_
  rintro e w7 ⟨aU, cU, rfl, hU, hb7⟩
  have hT7 := bcall hT6H.out hb7
  obtain ⟨hw7, p0, p1, p2, p3, p4, p5, p6⟩ := QH.out _ hT7
  have X_7 := Lib.hid (X_6.out.below hb7)
  have U_7 := Lib.hid hU
  have mU := hU.le
  have hT7H := Lib.hid hT7
  have hw7H := Lib.hid hw7
  clear hT7 hw7 hb7 hT6H hw6H X_6 hU I_6 J_6 cc7
  have hRc0 := hRc.out
  rw [hU] at hRc0
  rcases hRc0 with hF | ⟨-, ht, hUe⟩
  · have f3 : (E3 == 0) = false := by simpa using hF
    clear hF hU hRc
    have hYc := Lib.hid (cmpE_cases s1 s2 s3 e f)
    obtain ⟨⟨Y, E4⟩, hY⟩ : ∃ x, cmpE s1 s2 s3 e f = x := ⟨_, rfl⟩
    have cc80 := Composed_any a1 a2 a3 b1 b2 c1 c2 c3 k1 k2 s1 s2 s3 e f _ (h1H.out.below hw7H.out) (h2H.out.below hw7H.out) (h3H.out.below hw7H.out) (g1H.out.below hw7H.out) (g2H.out.below hw7H.out) heH.out hfH.out
    rw [hY] at cc80
    have cc8 := Lib.hid cc80
    clear cc80
    go_wp2_with fail
    refine cc8.out.mono ?_
    rintro e w8 ⟨aY, cY, rfl, hY, hb8⟩
    have hT8 := bcall hT7H.out hb8
    obtain ⟨hw8, p0, p1, p2, p3, p4, p5, p6⟩ := QH.out _ hT8
    have X_8 := Lib.hid (X_7.out.below hb8)
    have Y_8 := Lib.hid hY
    have mY := hY.le
    have hT8H := Lib.hid hT8
    have hw8H := Lib.hid hw8
    clear hT8 hw8 hb8 hT7H hw7H X_7 hY U_7 cc8
    have hYc0 := hYc.out
    rw [hY] at hYc0
    rcases hYc0 with hF | ⟨ve, vf, hYe⟩
    · have f4 : (E4 != 0) = true := by simpa using hF
      clear hF hY hYc
      have ca9 := Lib.hid (aw.out _ hw8H.out)
      go_wp2_with fail
      refine ca9.out.mono ?_
      rintro e wZ ⟨rfl, hbZ⟩
      go_wp2_with fail
      go_ret
      exact ⟨rfl, hbZ⟩
    obtain ⟨rfl, rfl⟩ : Y = compD e f e.length ∧ E4 = 0 := by
      injection hYe with x1 x2
      exact ⟨x1, x2⟩
    have hvY := comp_valid ve vf
    have hYa := Lib.hid (valid_argsC hvY)
    have has := hasc.out vf
    have o1 := cmpE_ok vXH.out vf
    have o2 := cmpE_ok vdH.out hvY
    obtain ⟨Y, hYY⟩ : ∃ Y, compD e f e.length = Y := ⟨_, rfl⟩
    rw [hYY] at hvY hYa has o2 Y_8 mY
    try simp only [hYY]
    rw [← has] at o2
    obtain ⟨Z, hZ⟩ : ∃ Z, compD X f X.length = Z := ⟨_, rfl⟩
    rw [hZ] at o1 o2
    have o1H := Lib.hid o1
    have o2H := Lib.hid o2
    clear ve vf hY hYc hYe hYY hvY has o1 o2 hZ
    have cc90 := Composed_any a0 a2 a3 aX b2 c0 c2 c3 cX k2 s0 s2 s3 X f _ (h0H.out.below hw8H.out) (h2H.out.below hw8H.out) (h3H.out.below hw8H.out) X_8.out (g2H.out.below hw8H.out) hXa.out hfH.out
    rw [o1H.out] at cc90
    have cc9 := Lib.hid cc90
    clear cc90
    go_wp2_with fail
    refine cc9.out.mono ?_
    rintro e w9 ⟨aZ, cZ, rfl, hZ, hb9⟩
    have hT9 := bcall hT8H.out hb9
    obtain ⟨hw9, p0, p1, p2, p3, p4, p5, p6⟩ := QH.out _ hT9
    have X_9 := Lib.hid (X_8.out.below hb9)
    have Y_9 := Lib.hid (Y_8.out.below hb9)
    have Z_9 := Lib.hid hZ
    have mZ := hZ.le
    have hT9H := Lib.hid hT9
    have hw9H := Lib.hid hw9
    clear hT9 hw9 hb9 hT8H hw8H X_8 Y_8 hZ cc9
    have cc100 := Composed_any a0 a1 a3 b0 aY c0 c1 c3 k0 cY s0 s1 s3 d Y _ (h0H.out.below hw9H.out) (h1H.out.below hw9H.out) (h3H.out.below hw9H.out) (g0H.out.below hw9H.out) Y_9.out hdH.out hYa.out
    rw [o2H.out] at cc100
    have cc10 := Lib.hid cc100
    clear cc100
    go_wp2_with fail
    refine cc10.out.mono ?_
    rintro e w10 ⟨aV, cV, rfl, hV, hb10⟩
    have hT10 := bcall hT9H.out hb10
    obtain ⟨hw10, p0, p1, p2, p3, p4, p5, p6⟩ := QH.out _ hT10
    have X_10 := Lib.hid (X_9.out.below hb10)
    have Y_10 := Lib.hid (Y_9.out.below hb10)
    have Z_10 := Lib.hid (Z_9.out.below hb10)
    have V_10 := Lib.hid hV
    have mV := hV.le
    have hT10H := Lib.hid hT10
    have hw10H := Lib.hid hw10
    clear hT10 hw10 hb10 hT9H hw9H X_9 Y_9 Z_9 hV cc10
    have cc110 := rSame3_any aZ aV cZ cV Z Z _ Z_10.out V_10.out
    rw [decide_eq_true rfl] at cc110
    have cc11 := Lib.hid cc110
    clear cc110
    go_wp2_with fail
    refine cc11.out.mono ?_
    rintro e w11 ⟨rfl, hd11⟩
    have hb11 := hd11.below w10.heap.size
    have hT11 := bcall hT10H.out hb11
    obtain ⟨hw11, p0, p1, p2, p3, p4, p5, p6⟩ := QH.out _ hT11
    have X_11 := Lib.hid (X_10.out.below hb11)
    have Y_11 := Lib.hid (Y_10.out.below hb11)
    have Z_11 := Lib.hid (Z_10.out.below hb11)
    have V_11 := Lib.hid (V_10.out.below hb11)
    have hT11H := Lib.hid hT11
    have hw11H := Lib.hid hw11
    clear hT11 hw11 hb11 hT10H hw10H X_10 Y_10 Z_10 V_10 cc11 hd11
    have ca12 := Lib.hid (aw.out _ hw11H.out)
    go_wp2_with fail
    refine ca12.out.mono ?_
    rintro e wZ ⟨rfl, hbZ⟩
    go_wp2_with fail
    go_ret
    exact ⟨rfl, hbZ⟩
  obtain ⟨rfl, rfl⟩ : U = carT s0 d t ∧ E3 = 0 := by
    injection hUe with x1 x2
    exact ⟨x1, x2⟩
  obtain ⟨hu, hcc⟩ := hcar.out ht
  have o3 := crdE_ok veH.out hu
  have o4 := crdE_ok vXH.out ht
  rw [← hcc] at o4
  obtain ⟨U, hUU⟩ : ∃ U, carT s0 d t = U := ⟨_, rfl⟩
  rw [hUU] at o3 o4 U_7 mU
  try simp only [hUU]
  obtain ⟨R, hRR⟩ : ∃ R, carT s1 e U = R := ⟨_, rfl⟩
  rw [hRR] at o3 o4
  have o3H := Lib.hid o3
  have o4H := Lib.hid o4
  clear hu hcc o3 o4 hU hRc hUe hUU hRR ht
  have cc80 := Carried_any a1 a2 b1 aU c1 c2 k1 cU s1 s2 e U _ (h1H.out.below hw7H.out) (h2H.out.below hw7H.out) (g1H.out.below hw7H.out) U_7.out heH.out
  rw [o3H.out] at cc80
  have cc8 := Lib.hid cc80
  clear cc80
  go_wp2_with fail
  refine cc8.out.mono ?_
  rintro e w8 ⟨aP, cP, rfl, hP, hb8⟩
  have hT8 := bcall hT7H.out hb8
  obtain ⟨hw8, p0, p1, p2, p3, p4, p5, p6⟩ := QH.out _ hT8
  have X_8 := Lib.hid (X_7.out.below hb8)
  have U_8 := Lib.hid (U_7.out.below hb8)
  have P_8 := Lib.hid hP
  have mP := hP.le
  have hT8H := Lib.hid hT8
  have hw8H := Lib.hid hw8
  clear hT8 hw8 hb8 hT7H hw7H X_7 U_7 hP cc8
  have cc90 := Carried_any a0 a2 aX a4 c0 c2 cX c4 s0 s2 X t _ (h0H.out.below hw8H.out) (h2H.out.below hw8H.out) X_8.out (h4H.out.below hw8H.out) hXa.out
  rw [o4H.out] at cc90
  have cc9 := Lib.hid cc90
  clear cc90
  go_wp2_with fail
  refine cc9.out.mono ?_
  rintro e w9 ⟨aO, cO, rfl, hO, hb9⟩
  have hT9 := bcall hT8H.out hb9
  obtain ⟨hw9, p0, p1, p2, p3, p4, p5, p6⟩ := QH.out _ hT9
  have X_9 := Lib.hid (X_8.out.below hb9)
  have U_9 := Lib.hid (U_8.out.below hb9)
  have P_9 := Lib.hid (P_8.out.below hb9)
  have O_9 := Lib.hid hO
  have mO := hO.le
  have hT9H := Lib.hid hT9
  have hw9H := Lib.hid hw9
  clear hT9 hw9 hb9 hT8H hw8H X_8 U_8 P_8 hO cc9
  have cc100 := Same_any aP aO cP cO R R _ P_9.out O_9.out
  rw [decide_eq_true rfl] at cc100
  have cc10 := Lib.hid cc100
  clear cc100
  go_wp2_with fail
  refine cc10.out.mono ?_
  rintro e w10 ⟨rfl, hd10⟩
  have hb10 := hd10.below w9.heap.size
  have hT10 := bcall hT9H.out hb10
  obtain ⟨hw10, p0, p1, p2, p3, p4, p5, p6⟩ := QH.out _ hT10
  have X_10 := Lib.hid (X_9.out.below hb10)
  have U_10 := Lib.hid (U_9.out.below hb10)
  have P_10 := Lib.hid (P_9.out.below hb10)
  have O_10 := Lib.hid (O_9.out.below hb10)
  have hT10H := Lib.hid hT10
  have hw10H := Lib.hid hw10
  clear hT10 hw10 hb10 hT9H hw9H X_9 U_9 P_9 O_9 cc10 hd10
  have hYc := Lib.hid (cmpE_cases s1 s2 s3 e f)
  obtain ⟨⟨Y, E4⟩, hY⟩ : ∃ x, cmpE s1 s2 s3 e f = x := ⟨_, rfl⟩
  have cc110 := Composed_any a1 a2 a3 b1 b2 c1 c2 c3 k1 k2 s1 s2 s3 e f _ (h1H.out.below hw10H.out) (h2H.out.below hw10H.out) (h3H.out.below hw10H.out) (g1H.out.below hw10H.out) (g2H.out.below hw10H.out) heH.out hfH.out
  rw [hY] at cc110
  have cc11 := Lib.hid cc110
  clear cc110
  go_wp2_with fail
  refine cc11.out.mono ?_
  rintro e w11 ⟨aY, cY, rfl, hY, hb11⟩
  have hT11 := bcall hT10H.out hb11
  obtain ⟨hw11, p0, p1, p2, p3, p4, p5, p6⟩ := QH.out _ hT11
  have X_11 := Lib.hid (X_10.out.below hb11)
  have Y_11 := Lib.hid hY
  have mY := hY.le
  have hT11H := Lib.hid hT11
  have hw11H := Lib.hid hw11
  clear hT11 hw11 hb11 hT10H hw10H X_10 hY U_10 P_10 O_10 cc11
  have hYc0 := hYc.out
  rw [hY] at hYc0
  rcases hYc0 with hF | ⟨ve, vf, hYe⟩
  · have f4 : (E4 != 0) = true := by simpa using hF
    clear hF hY hYc
    have ca12 := Lib.hid (aw.out _ hw11H.out)
    go_wp2_with fail
    refine ca12.out.mono ?_
    rintro e wZ ⟨rfl, hbZ⟩
    go_wp2_with fail
    go_ret
    exact ⟨rfl, hbZ⟩
  obtain ⟨rfl, rfl⟩ : Y = compD e f e.length ∧ E4 = 0 := by
    injection hYe with x1 x2
    exact ⟨x1, x2⟩
  have hvY := comp_valid ve vf
  have hYa := Lib.hid (valid_argsC hvY)
  have has := hasc.out vf
  have o1 := cmpE_ok vXH.out vf
  have o2 := cmpE_ok vdH.out hvY
  obtain ⟨Y, hYY⟩ : ∃ Y, compD e f e.length = Y := ⟨_, rfl⟩
  rw [hYY] at hvY hYa has o2 Y_11 mY
  try simp only [hYY]
  rw [← has] at o2
  obtain ⟨Z, hZ⟩ : ∃ Z, compD X f X.length = Z := ⟨_, rfl⟩
  rw [hZ] at o1 o2
  have o1H := Lib.hid o1
  have o2H := Lib.hid o2
  clear ve vf hY hYc hYe hYY hvY has o1 o2 hZ
  have cc120 := Composed_any a0 a2 a3 aX b2 c0 c2 c3 cX k2 s0 s2 s3 X f _ (h0H.out.below hw11H.out) (h2H.out.below hw11H.out) (h3H.out.below hw11H.out) X_11.out (g2H.out.below hw11H.out) hXa.out hfH.out
  rw [o1H.out] at cc120
  have cc12 := Lib.hid cc120
  clear cc120
  go_wp2_with fail
  refine cc12.out.mono ?_
  rintro e w12 ⟨aZ, cZ, rfl, hZ, hb12⟩
  have hT12 := bcall hT11H.out hb12
  obtain ⟨hw12, p0, p1, p2, p3, p4, p5, p6⟩ := QH.out _ hT12
  have X_12 := Lib.hid (X_11.out.below hb12)
  have Y_12 := Lib.hid (Y_11.out.below hb12)
  have Z_12 := Lib.hid hZ
  have mZ := hZ.le
  have hT12H := Lib.hid hT12
  have hw12H := Lib.hid hw12
  clear hT12 hw12 hb12 hT11H hw11H X_11 Y_11 hZ cc12
  have cc130 := Composed_any a0 a1 a3 b0 aY c0 c1 c3 k0 cY s0 s1 s3 d Y _ (h0H.out.below hw12H.out) (h1H.out.below hw12H.out) (h3H.out.below hw12H.out) (g0H.out.below hw12H.out) Y_12.out hdH.out hYa.out
  rw [o2H.out] at cc130
  have cc13 := Lib.hid cc130
  clear cc130
  go_wp2_with fail
  refine cc13.out.mono ?_
  rintro e w13 ⟨aV, cV, rfl, hV, hb13⟩
  have hT13 := bcall hT12H.out hb13
  obtain ⟨hw13, p0, p1, p2, p3, p4, p5, p6⟩ := QH.out _ hT13
  have X_13 := Lib.hid (X_12.out.below hb13)
  have Y_13 := Lib.hid (Y_12.out.below hb13)
  have Z_13 := Lib.hid (Z_12.out.below hb13)
  have V_13 := Lib.hid hV
  have mV := hV.le
  have hT13H := Lib.hid hT13
  have hw13H := Lib.hid hw13
  clear hT13 hw13 hb13 hT12H hw12H X_12 Y_12 Z_12 hV cc13
  have cc140 := rSame3_any aZ aV cZ cV Z Z _ Z_13.out V_13.out
  rw [decide_eq_true rfl] at cc140
  have cc14 := Lib.hid cc140
  clear cc140
  go_wp2_with fail
  refine cc14.out.mono ?_
  rintro e w14 ⟨rfl, hd14⟩
  have hb14 := hd14.below w13.heap.size
  have hT14 := bcall hT13H.out hb14
  obtain ⟨hw14, p0, p1, p2, p3, p4, p5, p6⟩ := QH.out _ hT14
  have X_14 := Lib.hid (X_13.out.below hb14)
  have Y_14 := Lib.hid (Y_13.out.below hb14)
  have Z_14 := Lib.hid (Z_13.out.below hb14)
  have V_14 := Lib.hid (V_13.out.below hb14)
  have hT14H := Lib.hid hT14
  have hw14H := Lib.hid hw14
  clear hT14 hw14 hb14 hT13H hw13H X_13 Y_13 Z_13 V_13 cc14 hd14
  have ca15 := Lib.hid (aw.out _ hw14H.out)
  go_wp2_with fail
  refine ca15.out.mono ?_
  rintro e wZ ⟨rfl, hbZ⟩
  go_wp2_with fail
  go_ret
  exact ⟨rfl, hbZ⟩
end Go.Proofs.YtfjodhgbbefkjaaGreatDoor

/- Facts of the program's types that the rows over the tongues want. -/
namespace Go.Proofs.YtfjodhgbbefkjaaGreatDoor
open Go Go.RowKit Go.ChangeShapes Go.WideShapes Go.ChangeAt Go.Deep

theorem gWay : Gives Tryz.prog 78 wayE := gives_pair Tryz.underlying78 rfl rfl (by kernel_rfl) (by kernel_rfl) (by kernel_rfl) gInt gInts
theorem gWays : Gives Tryz.prog 26 (slE wayE) := gives_slice Tryz.underlying26 (by kernel_rfl) gWay
theorem gTrade : Gives Tryz.prog 34 (pairE (slE symE) (pairE (slE symE) (slE wayE))) := gives3 Tryz.underlying34 rfl rfl rfl (by kernel_rfl) (by kernel_rfl) (by kernel_rfl) (by kernel_rfl) gSign gSign gWays
end Go.Proofs.YtfjodhgbbefkjaaGreatDoor

/- Facts of the program's types that the row over chains of dictionaries wants. -/
namespace Go.Proofs.YtfjodhgbbefkjaaGreatDoor
open Go Go.RowKit Go.ChangeShapes Go.WideShapes Go.ChangeAt Go.Deep

theorem gives_array4 {P : Program} {t e : TypeId} {α : Type} {E : Enc α} (ht : P.underlying t = some (.array 4 e)) (hc : P.cellsOf t = E.size + (E.size + (E.size + E.size))) (he : P.cellsOf e = E.size) (g : Gives P e E) : Gives P t (pairE E (pairE E (pairE E E))) := by
  intro H enc w base spare held n cs x h
  obtain ⟨xs, m, _, _, hl, hx, hf⟩ := DataW.trod_array ht h
  match xs, hx with
  | [x0, x1, x2, x3], _ =>
    obtain ⟨a, ha⟩ := g H enc w base spare held m _ _ (hf 0 (by omega))
    obtain ⟨b, hb⟩ := g H enc w base spare held m _ _ (hf 1 (by omega))
    obtain ⟨c, hcc⟩ := g H enc w base spare held m _ _ (hf 2 (by omega))
    obtain ⟨d, hd⟩ := g H enc w base spare held m _ _ (hf 3 (by omega))
    refine ⟨(a, b, c, d), _, _, ?_, ha, _, _, rfl, hb, _, _, rfl, hcc, hd⟩
    rw [he, Nat.zero_mul, Nat.one_mul, List.drop_zero, Nat.two_mul, show 3 * E.size = E.size + E.size + E.size by omega]
    have e1 : (cs.drop (E.size + E.size + E.size)).take E.size = cs.drop (E.size + E.size + E.size) := List.take_of_length_le (by simp; omega)
    have e2 : cs.drop (E.size + E.size) = (cs.drop E.size).drop E.size := by rw [List.drop_drop]
    have e3 : cs.drop (E.size + E.size + E.size) = ((cs.drop E.size).drop E.size).drop E.size := by rw [List.drop_drop, List.drop_drop, Nat.add_assoc]
    rw [e1, e3, e2, List.take_append_drop, List.take_append_drop, List.take_append_drop]
theorem gSigns4 : Gives Tryz.prog 51 (pairE (slE symE) (pairE (slE symE) (pairE (slE symE) (slE symE)))) := gives_array4 Tryz.underlying51 (by kernel_rfl) (by kernel_rfl) gSign
theorem gWays3 : Gives Tryz.prog 52 (pairE (slE wayE) (pairE (slE wayE) (slE wayE))) := gives_array3 Tryz.underlying52 (by kernel_rfl) (by kernel_rfl) gWays
theorem gChain : Gives Tryz.prog 54 (pairE (pairE (slE symE) (pairE (slE symE) (pairE (slE symE) (slE symE)))) (pairE (slE wayE) (pairE (slE wayE) (slE wayE)))) := gives_pair Tryz.underlying54 rfl rfl (by kernel_rfl) (by kernel_rfl) (by kernel_rfl) gSigns4 gWays3
end Go.Proofs.YtfjodhgbbefkjaaGreatDoor

/- The card of TongueComposes: for every input TongueComposes returns true and leaves its arguments as they were; the listed variables are tied to the program's text. No condition. -/
namespace Go.Proofs.YtfjodhgbbefkjaaGreatDoor
open Go Go.RowKit Go.ChangeShapes Go.WideShapes Go.ChangeAt

theorem tongueComposes_door (os : Os) (args : Array Value) : laidMetH Tryz.prog Rows.tongueComposesRow.laid ((World.doorLaid Tryz.prog 400 os).forCall (fun _ _ => 0) ⟨#[], args, []⟩).memory :=
  laidMetH_of_parts3 (fuel := 8) (laidMet_of_run' 8 (by kernel_rfl) (by kernel_rfl)) (by kernel_rfl) (by kernel_rfl)
set_option maxRecDepth 100000 in
theorem tongueComposes_lifted (os : Os) (started : os.Started) (H : Type) (enc : TypeId × Value → H) :
    ReturnsInHanded {} Tryz.checked os 6 .any (fun w args => (Rows.tongueComposesSpec.pre enc Tryz.prog Tryz.f6 [] false w args ∧ laidMetH Tryz.prog Rows.tongueComposesRow.laid w) ∧ sizedMet enc Tryz.prog Tryz.f6 (OpenSpec.ofChange Rows.tongueComposesSpec) false w args)
      (Rows.tongueComposesSpec.post enc Tryz.prog Tryz.f6 false true false false) := by
  refine returnsInHanded_of_change_and (C := Tryz.checked) (X := fun w _ => laidMetH Tryz.prog Rows.tongueComposesRow.laid w) (fun _ _ _ hh h => h.of_heap hh) Tryz.own started (by kernel_rfl) Tryz.func6
    (ChangeSpec.witness_shaped (enc := enc) (C := Tryz.checked) (os := os) (X := fun w _ => laidMetH Tryz.prog Rows.tongueComposesRow.laid w) false (World.doorLaid Tryz.prog 400 os) #[.agg #[.slice none 0 0, .slice none 0 0, .slice none 0 0, .slice none 0 0, .slice none 0 0, .slice none 0 0, .slice none 0 0], .slice none 0 0] 8 rfl (World.shaped_of_RefB (by kernel_rfl) (by kernel_rfl)) (by kernel_rfl) (by kernel_rfl) (by kernel_rfl) (tongueComposes_door os _)) ?_
  intro W base args ds gs before hval0 hW _ _ hL _
  clear hL
  have hval : ∀ (j : Nat) t v, Tryz.f6.params[j]? = some t → args[j]? = some v → Value.okWide Tryz.prog W .any base t v := hval0
  have hW' := hW
  obtain ⟨p, q, hA0, hV, rfl, hfz, hnd⟩ := hW
  have hA : DataW.TrodAll enc Tryz.prog W 0 (fun _ => true) true Tryz.f6.params.toList args.toList ds p := hA0
  rw [Tryz.params6] at hA hval
  obtain ⟨v0, v1, d0, d1, p0, p1, rfl, rfl, rfl, h0, h1⟩ := trodAll_two hA
  obtain ⟨rfl, rfl⟩ := trodVars_none hV
  clear hA0 hval0
  simp only [List.append_nil] at hW'
  have hlt : ∀ x ∈ p0 ++ p1, x.block < W.heap.size := fun x hx => hW'.lt x (by simpa using hx)
  have keep0 := fun (W' : World) (hn : Below W.heap.size W W') => Below.trod Tryz.laidOut (by kernel_rfl) (of_decide_eq_true (by kernel_rfl)) h0 hn (fun x hx => hlt x (by simp [hx]))
  have keep1 := fun (W' : World) (hn : Below W.heap.size W W') => Below.trod Tryz.laidOut (by kernel_rfl) (of_decide_eq_true (by kernel_rfl)) h1 hn (fun x hx => hlt x (by simp [hx]))
  obtain ⟨⟨⟨t0, t1, t2, t3⟩, ⟨t4, t5, t6⟩⟩, vs, rfl, us, ts, rfl, ⟨us1, ts1, rfl, ⟨a00, c00, rfl, r00⟩, us2, ts2, rfl, ⟨a01, c01, rfl, r01⟩, us3, ts3, rfl, ⟨a02, c02, rfl, r02⟩, ⟨a03, c03, rfl, r03⟩⟩, us4, ts4, rfl, ⟨a04, c04, rfl, r04⟩, us5, ts5, rfl, ⟨a05, c05, rfl, r05⟩, ⟨a06, c06, rfl, r06⟩⟩ := gChain.argAgg h0 (let ⟨cs, h, _⟩ := okWide_struct Tryz.underlying54 (hval 0 54 v0 rfl rfl); ⟨cs, h⟩)
  obtain ⟨l1, a1, c1, rfl, r1⟩ := gTerm.arg h1 (okWide_slice Tryz.underlying41 (hval 1 41 v1 rfl rfl))
  refine (TongueComposes_walk _ _ _ _ _ _ _ _ _ _ _ _ _ _ _ _ _ _ _ _ _ _ _ _ W r00 r01 r02 r03 r04 r05 r06 r1).mono fun e W' ⟨he, hB⟩ => ?_
  subst he
  exact ⟨_, rfl, _, _, _, [], p0 ++ p1, [], hW', trodAll_mk1 (shut_bool Tryz.underlying4 true), trodAll_mk2 (keep0 _ hB) (keep1 _ hB), rfl, hB.frame _, fun h => by cases h⟩

/-- TongueComposes: for every input it returns true, and each argument reads as it did. -/
theorem tongueComposes_holds : Rows.TongueComposesSaid :=
  OpenClaim.holds_of_wide 6 Tryz.f6 rfl rfl rfl rfl rfl rfl rfl ⟨rfl, rfl, rfl, rfl, rfl⟩ rfl rfl rfl rfl rfl (by kernel_rfl) Tryz.func6 (by kernel_rfl)
    (of_decide_eq_true (by kernel_rfl)) (by unfold Func.isWrapper; first | (rw [if_pos (by decide +kernel)]; kernel_rfl) | (rw [if_neg (by decide +kernel)]; exact ⟨rfl, rfl⟩))
    (fun os started H enc _ => tongueComposes_lifted os started H enc)
/-- the card of TongueComposes -/
theorem tongueComposes_card_holds : Rows.TongueComposesCardSaid :=
  Claim7.holds_tied_plain_at .later [] [.data, .data, .data, .sentinel, .sentinel] true Rows.tongueComposesCard.stood.harness Rows.tongueComposesCard.stood.looks
    tongueComposes_holds (fun _ h => by cases h) (by kernel_rfl) (fun _ h => by cases h) tongueComposes_row_tie rfl ⟨rfl, rfl⟩ (by kernel_rfl) rfl
    (fun f fn hf hfn => by
      obtain rfl : f = 6 := Option.some.inj ((show Tryz.prog.funcNamed Rows.tongueComposesRow.func = some 6 by kernel_rfl).symm.trans hf) |>.symm
      obtain rfl : fn = Tryz.f6 := (Option.some.inj (Tryz.func6.symm.trans hfn)).symm
      exact ⟨by kernel_rfl, fun j t ht => by
        rw [Tryz.params6] at ht
        have hm : t ∈ [54, 41] := by simpa using Array.mem_of_getElem? ht
        have hall : ([54, 41].all fun u => !Tryz.prog.wantsStandIn u) = true := by kernel_rfl
        exact (show Tryz.prog.wantsStandIn t = false by simpa using List.all_eq_true.1 hall t hm)⟩)
    (by kernel_rfl)
end Go.Proofs.YtfjodhgbbefkjaaGreatDoor
