/- The card of TongueBack: for every input TongueBack returns true and leaves its arguments as they were; the listed variables are tied to the program's text. No condition. -/
import Derived.Test.YtfjodhgbbefkjaaGreatDoorWalkM
import Derived.Lib.AppendZeros
import Derived.Test.YtfjodhgbbefkjaaGreatDoorWalkJ
import Derived.Test.YtfjodhgbbefkjaaGreatDoorMsC
import Derived.Test.YtfjodhgbbefkjaaGreatDoorUniStep
import Derived.Deep.LoopGhost
import Derived.Test.YtfjodhgbbefkjaaGreatDoorWalkD
import Derived.Test.YtfjodhgbbefkjaaGreatDoorUSt
import Derived.Test.YtfjodhgbbefkjaaGreatDoorRegion
import Derived.Test.YtfjodhgbbefkjaaGreatDoorWalkG
import Derived.Test.YtfjodhgbbefkjaaGreatDoorBoxList
import Derived.Test.YtfjodhgbbefkjaaGreatDoorBase
import Derived.ProofKit
import Derived.LaidMore
import Derived.OpenShut
import Derived.Stop.Joined
import Derived.Test.YtfjodhgbbefkjaaGreatDoorMsB
import Derived.Test.YtfjodhgbbefkjaaGreatDoorMsD
import Derived.Test.YtfjodhgbbefkjaaGreatDoorCards
import Derived.Test.YtfjodhgbbefkjaaGreatDoorTie
/- Walks: slices.Grow, slices.Concat, of terms. -/
namespace Go.Proofs.YtfjodhgbbefkjaaGreatDoor
open Go Go.RowKit Go.Maps

theorem wpList_append_run2 {P : Program} {w : World} {ops : Array Oper} {rest : List Oper} {o : Oper} {a : Act} {Q : Exit → Act → World → Prop} (hgd : o.guard = none) (s x : Operand) (t t2 : TypeId)
    (ho : o.op = .call { callee := .builtin .append, args := #[s, x], argTypes := #[t, t2] }) {vs vx : Value} (hs : a.eval s = vs) (hx : a.eval x = vx) {v' : Value} {w' : World}
    (hr : (Builtin.append_ #[t, t2] o.type #[vs, vx]).run P w = .ok v' w') (h : wpList P ops Q rest (a.put o.dst v') w') : wpList P ops Q (o :: rest) a w := by
  refine wpList_plain hgd fun K hK => ?_
  unfold Oper.wp execOp
  simp only [ho, resolve, invoke, builtin, Sem.run_bind, Sem.run_pure, Result.andThen_ok, List.map_toArray, List.map_cons, List.map_nil, hs, hx, hr]
  exact hK _ _ h
theorem infoInt2 : ∃ i, Tryz.prog.info? 3 = some i ∧ i.zero = some (.int .i64 0) ∧ i.size = 1 ∧ i.bytes = 8 := by
  obtain ⟨i, h, h1, h2, h3⟩ := info_parts infoInt
  exact ⟨i, h, h1, h2, h3⟩
set_option maxRecDepth 20000 in
set_option maxHeartbeats 1000000 in
theorem Grow_any (n : Nat) (w : World) (hn : n ≤ lim) :
    Calls Tryz.prog 118 #[.slice none 0 0, .int .i64 n] w (retOwn w []) := by
  unfold lim at hn
  by_cases h0 : n = 0
  · subst h0
    go_enter Tryz.func118, Tryz.ntmps118
    go_wp2_with fail
    go_ret
    exact ⟨_, rfl, .nil _ _ _ _ _, .refl _ _⟩
  · obtain ⟨i, hi, hz, hsz, hby⟩ := infoInt2
    have hrun := Lib.run_append_nil_zeros (P := Tryz.prog) w 41 3 41 3 i (.int .i64 0) .i64 .i64 Tryz.underlying41 Tryz.underlying3 hi hz n (by omega) (by omega) (by omega) (by rw [hby]; omega)
    obtain ⟨cap, hcap⟩ : ∃ cap, grownCap w n 0 3 = cap := ⟨_, rfl⟩
    have hc1 := grownCap_ge w n 0 3
    have hc2 := grownCap_le_maxLen w n 0 3 (by unfold maxLen; omega)
    rw [hcap] at hrun hc1 hc2
    unfold maxLen at hc2
    have hz1 : ∀ k, (Builtin.zeroCells (Value.cells (.int .i64 0)) k).size = k := fun k => by simp [Builtin.zeroCells, Value.cells]
    obtain ⟨cs, hcs⟩ : ∃ cs, Builtin.zeroCells (Value.cells (.int .i64 0)) n ++ Builtin.zeroCells (Value.cells (.int .i64 0)) (cap - n) = cs := ⟨_, rfl⟩
    have hcn : cs.size = cap * 1 := by rw [← hcs, Array.size_append, hz1, hz1]; omega
    rw [hcs] at hrun
    have ho : OwnI (w.drew.alloc (.cells cs 3)) w.heap.size (.slice (some ⟨w.heap.size, 0, none⟩) 0 cap) [] :=
      ⟨[], World.ownsRow_made w.drew cs cap (Nat.le_refl _) (by unfold maxLen; omega) hcn, rfl, fun i h => by simp at h⟩
    have hB : Below w.heap.size w (w.drew.alloc (.cells cs 3)) := (Below.refl _ _).drew.alloc (Nat.le_refl _) _
    have hrunH := Lib.hid hrun
    have hoH := Lib.hid ho
    have hBH := Lib.hid hB
    clear hrun ho hB hcs hcap hz1 hi hz hsz hby hcn
    go_enter Tryz.func118, Tryz.ntmps118
    go_wp2_with (at_builtin; refine wpList_append_run2 rfl (.tmp 20) (.tmp 21) _ _ rfl rfl rfl hrunH.out ?_)
    go_ret
    exact ⟨_, rfl, hoH.out, hBH.out⟩

theorem ints_append {S2 : Nat → Prop} {w : World} {base : Nat} {v : Value} {l l2 : List Int} {a : Option Addr} {c : Nat} (ho : OwnI w base v l) (h2 : Ints S2 w a c l2) (hl : l.length + l2.length ≤ 10000000) (hb : base ≤ w.heap.size) :
    ∃ v' w', RowKit.Hid ((Builtin.append_ #[41, 41] 41 #[v, .slice a l2.length c]).run Tryz.prog w = .ok v' w') ∧ RowKit.Hid (OwnI w' base v' (l ++ l2)) ∧ RowKit.Hid (Below base w w') := by
  obtain ⟨v', w', hrun, ho', hg, -, -⟩ := ho.append_run (P := Tryz.prog) (t := 41) (ty := 41) Tryz.underlying41 infoInt rfl h2 (fun _ _ _ h => h) (by omega) (by unfold big; omega) hb
  exact ⟨v', w', Lib.hid hrun, Lib.hid ho', Lib.hid ((Below.refl _ _).grown hg hb (fun k e => (ho.lt k e).1))⟩

def cat1Rel (L : List (List Int)) (w : World) (size i : Value) (wr : World) : Prop := ∃ k : Nat, i = .int .i64 k ∧ k ≤ L.length ∧ size = .int .i64 ((L.take k).flatten.length : Nat) ∧ wr = w
def cat2Rel (L : List (List Int)) (w : World) (out i : Value) (wr : World) : Prop := ∃ k : Nat, i = .int .i64 k ∧ k ≤ L.length ∧ OwnI wr w.heap.size out (L.take k).flatten ∧ Below w.heap.size w wr
theorem flat_take_le {L : List (List Int)} {q : Nat} : (L.take q).flatten.length ≤ L.flatten.length := by
  have : L.flatten.length = (L.take q).flatten.length + (L.drop q).flatten.length := by rw [← List.length_append, ← List.flatten_append, List.take_append_drop]
  omega
theorem flat_take_succ {L : List (List Int)} {q : Nat} (h : q < L.length) : (L.take (q + 1)).flatten = (L.take q).flatten ++ L[q] := by
  rw [List.take_succ_eq_append_getElem h, List.flatten_append]; simp
set_option maxHeartbeats 2000000 in
theorem Concat_any {S : Nat → Prop} (a : Option Addr) (c : Nat) (L : List (List Int)) (w : World) (h : Terms S w a c L) (hl : L.flatten.length ≤ lim) :
    Calls Tryz.prog 84 #[.slice a L.length c] w (retOwn w L.flatten) := by
  have m := h.le
  unfold lim at hl
  go_enter Tryz.func84, Tryz.ntmps84
  go_wp2_with fail
  go_loopw [3, 11] (fun size i wr => cat1Rel L w size i wr) (fun _ i _ => L.length - (intOf i).toNat)
  case atStart => exact ⟨0, rfl, Nat.zero_le _, rfl, rfl⟩
  case round =>
    obtain ⟨k, rfl, hk, rfl, rfl⟩ := hrel
    by_cases hlt : k < L.length
    · obtain ⟨b, o, a', c', rfl, -, q, -⟩ := h.sub k hlt
      have hs := congrArg List.length (flat_take_succ hlt)
      rw [List.length_append] at hs
      have hle := flat_take_le (L := L) (q := k + 1)
      obtain ⟨M, hM⟩ : ∃ M : Nat, (L.take k).flatten.length = M := ⟨_, rfl⟩
      rw [hM] at hs ⊢
      rw [hs] at hle
      have hsH := Lib.hid hs
      clear hs hM h
      go_wp2_with fail
      go_roundw
      case rel => exact ⟨k + 1, by go_num, by omega, by rw [hsH.out]; go_num, rfl⟩
      case measure => simp [intOf]; omega
    · have hkn : L.take k = L := List.take_of_length_le (by omega)
      rw [hkn]
      obtain ⟨N, hN⟩ : ∃ N : Nat, L.flatten.length = N := ⟨_, rfl⟩
      rw [hN]
      have cg := Grow_any N wr (by unfold lim; omega)
      have cgH := Lib.hid cg
      clear cg hkn hN
      go_wp2_with (go_at_call 118; refine cgH.out.mono ?_; rintro e w1 ⟨v, rfl, ho, hb⟩; have hoH := Lib.hid ho; have hbH := Lib.hid hb; clear ho hb)
      go_loopw [6, 27] (fun out i wr2 => cat2Rel L wr out i wr2) (fun _ i _ => L.length - (intOf i).toNat)
      case atStart => exact ⟨0, rfl, Nat.zero_le _, hoH.out, hbH.out⟩
      case round =>
        obtain ⟨k, rfl, hk, ho, hB⟩ := hrel
        by_cases hlt : k < L.length
        · obtain ⟨b, o, a', c', rfl, -, q, hI⟩ := h.sub k hlt
          have q' := (hB.cell (p := ⟨b, o + k, none⟩) (World.block_lt_of_cell? _ _ q)).trans q
          have hs := flat_take_succ hlt
          have hle := flat_take_le (L := L) (q := k + 1)
          rw [hs, List.length_append] at hle
          obtain ⟨v', w', hrunH, ho', hb'⟩ := ints_append ho (hI.below hB) (by omega) hB.size
          have hsH := Lib.hid hs
          have hBH := Lib.hid (hB.trans hb'.out)
          clear hs ho hI hB h q hb'
          go_wp2_with (at_builtin; refine wpList_append_run rfl _ _ _ rfl rfl rfl hrunH.out ?_)
          go_roundw
          case rel => exact ⟨k + 1, by go_num, by omega, by rw [hsH.out]; exact ho'.out, hBH.out⟩
          case measure => simp [intOf]; omega
        · have hkn : L.take k = L := List.take_of_length_le (by omega)
          rw [hkn] at ho
          have hoH := Lib.hid ho
          have hBH := Lib.hid hB
          clear ho hB hkn h
          go_wp2_with fail
          go_ret
          exact ⟨_, rfl, hoH.out, hBH.out⟩
end Go.Proofs.YtfjodhgbbefkjaaGreatDoor

/- Walks: Built, of both. -/
namespace Go.Proofs.YtfjodhgbbefkjaaGreatDoor
open Go Go.RowKit Go.Maps

theorem Drew.trans {a b c : World} (h : Drew a b) (h2 : Drew b c) : Drew a c := by obtain ⟨n, rfl⟩ := h2; exact drew_more h n
def idxTPost (s : Sg) (L : List (List Int)) (w : World) (e : Ending) (w' : World) : Prop := ∃ n : Int, e = .returned (.int .i64 n) ∧ -1 ≤ n ∧ decide (0 ≤ n) = !(L.all (okT s)) ∧ Below w.heap.size w w'
def builtE (s : Sg) (y : Int) (L : List (List Int)) : List Int × Int :=
  if okSign s = true ∧ L.all (okT s) = true then
    (if 0 ≤ y ∧ y < s.length then (if (L.length : Int) = (s.getD y.toNat default).2 then (if 1 + L.flatten.length ≤ 60 then (y :: L.flatten, 0) else ([], 4)) else ([], 9)) else ([], 5))
  else ([], 1)
theorem builtE_1 {s : Sg} {y : Int} {L : List (List Int)} (h : ¬ (okSign s = true ∧ L.all (okT s) = true)) : builtE s y L = ([], 1) := by rw [builtE, if_neg h]
theorem builtE_5 {s : Sg} {y : Int} {L : List (List Int)} (h : okSign s = true ∧ L.all (okT s) = true) (h1 : ¬ (0 ≤ y ∧ y < s.length)) : builtE s y L = ([], 5) := by rw [builtE, if_pos h, if_neg h1]
theorem builtE_9 {s : Sg} {y : Int} {L : List (List Int)} (h : okSign s = true ∧ L.all (okT s) = true) (h1 : 0 ≤ y ∧ y < s.length) (h2 : ¬ (L.length : Int) = (s.getD y.toNat default).2) : builtE s y L = ([], 9) := by rw [builtE, if_pos h, if_pos h1, if_neg h2]
theorem builtE_4 {s : Sg} {y : Int} {L : List (List Int)} (h : okSign s = true ∧ L.all (okT s) = true) (h1 : 0 ≤ y ∧ y < s.length) (h2 : (L.length : Int) = (s.getD y.toNat default).2) (h3 : ¬ (1 + L.flatten.length ≤ 60)) : builtE s y L = ([], 4) := by rw [builtE, if_pos h, if_pos h1, if_pos h2, if_neg h3]
theorem builtE_0 {s : Sg} {y : Int} {L : List (List Int)} (h : okSign s = true ∧ L.all (okT s) = true) (h1 : 0 ≤ y ∧ y < s.length) (h2 : (L.length : Int) = (s.getD y.toNat default).2) (h3 : 1 + L.flatten.length ≤ 60) : builtE s y L = (y :: L.flatten, 0) := by rw [builtE, if_pos h, if_pos h1, if_pos h2, if_pos h3]
theorem rbelow {W W' : World} {l : List Int × Int} {e : Ending} (h : retE l W e W') : Below W.heap.size W W' := by obtain ⟨_, _, _, h⟩ := h; exact h

def brRel (y : Int) (L : List (List Int)) (w : World) (B : Nat) (out i : Value) (wr : World) : Prop := ∃ k : Nat, i = .int .i64 k ∧ k ≤ L.length ∧ OwnI wr B out (y :: (L.take k).flatten) ∧ Below B w wr
end Go.Proofs.YtfjodhgbbefkjaaGreatDoor

/- Walks: Built. -/
namespace Go.Proofs.YtfjodhgbbefkjaaGreatDoor
open Go Go.RowKit Go.Maps

theorem OwnTs.lit1 {w : World} {a : Option Addr} {c : Nat} {u : List Int} {T : Nat → Prop} (h : Ints T w a c u) :
    OwnTs (fun _ => True) (w.alloc (.cells #[.slice a u.length c] 41)) w.heap.size (.slice (some ⟨w.heap.size, 0, none⟩) 1 1) [u] := by
  have hr := World.ownsRow_lit (base := w.heap.size) (e := 41) (size := 1) w #[.slice a u.length c] 1 (Nat.le_refl _) (by unfold maxLen; omega) (by simp)
  refine ⟨[[.slice a u.length c]], hr, rfl, fun i h1 h2 => ?_⟩
  match i, h1 with
  | 0, _ => exact ⟨a, c, rfl, (h.lt.weak (S' := Off (fun _ => True) (.slice (some ⟨w.heap.size, 0, none⟩) 1 1)) (fun b hb => ⟨trivial, fun e => by simp [Value.ownBlock] at e; omega⟩)).below (below1 _ _)⟩

theorem lit_append {S2 : Nat → Prop} {w w2 : World} {a2 : Option Addr} {c2 : Nat} {L : List (List Int)} (n : Int) (hn : inRange n) (h2 : Terms S2 w a2 c2 L) (hB : Below w.heap.size w w2) (hl : L.length ≤ 1000000) :
    ∃ a c w', RowKit.Hid ((Builtin.append_ #[68, 68] 68 #[.slice (some ⟨w2.heap.size + 1, 0, none⟩) 1 1, .slice a2 L.length c2]).run Tryz.prog ((w2.alloc (.cells #[.int .i64 n] 3)).alloc (.cells #[.slice (some ⟨w2.heap.size, 0, none⟩) 1 1] 41)) = .ok (.slice a (L.length + 1) c) w') ∧
      RowKit.Hid (Terms (fun _ => True) w' a c ([n] :: L)) ∧ RowKit.Hid (Below w2.heap.size w2 w') := by
  have hI : Ints (fun _ => True) (w2.alloc (.cells #[.int .i64 n] 3)) (some ⟨w2.heap.size, 0, none⟩) 1 [n] := by
    have := OwnL.lit (S := fun _ => False) w2 [n] 3 (by simpa using hn) (by unfold maxLen; simp)
    obtain ⟨a, c, he, hI⟩ := OwnI.ints this
    simp at he
    obtain ⟨rfl, rfl⟩ := he
    exact hI.any
  have ho := OwnTs.lit1 hI
  simp only [World.size_alloc] at ho
  have hB' : Below w.heap.size w ((w2.alloc (.cells #[.int .i64 n] 3)).alloc (.cells #[.slice (some ⟨w2.heap.size, 0, none⟩) 1 1] 41)) := hB.trans ((below2 _ _ _).mono hB.size)
  obtain ⟨v', w', hrun, ho', hg, -, -⟩ := ho.append_run (P := Tryz.prog) (t := 68) (ty := 68) Tryz.underlying68 infoTerm rfl (h2.lt.below hB') (fun i hi vs h => (slE intE).mono h (fun b _ hb => ⟨trivial, fun e => by have := hB.size; simp [Value.ownBlock] at e; omega⟩) (.refl _ _)) (by simp; omega) (by unfold big; simp; omega) (by simp)
  have hBn := (below2 w2 (.cells #[.int .i64 n] 3) (.cells #[.slice (some ⟨w2.heap.size, 0, none⟩) 1 1] 41)).grown hg (by simp; omega) (fun k e => by simp [Value.ownBlock] at e; omega)
  obtain ⟨a, c, rfl, hT⟩ := ho'.sl
  refine ⟨a, c, w', Lib.hid ?_, Lib.hid hT.any, Lib.hid hBn⟩
  simpa [Nat.add_comm] using hrun

end Go.Proofs.YtfjodhgbbefkjaaGreatDoor

/- Walks of package unify: a solver in the world; look. -/
namespace Go.Proofs.YtfjodhgbbefkjaaGreatDoor
open Go Go.RowKit Go.Maps

/-- looked up in k steps -/
def LkdN (B : Bd) (p : List Int) : Nat → List Int → Prop
  | 0, t => t = p ∧ ∀ n r, t = n :: r → n < 0 → B n = none
  | k + 1, t => ∃ n r u, t = n :: r ∧ n < 0 ∧ B n = some u ∧ LkdN B p k u
theorem Lkd.num {B : Bd} {t p : List Int} (h : Lkd B t p) : ∃ k, LkdN B p k t := by
  induction h with
  | stop h => exact ⟨0, rfl, h⟩
  | go hn hB _ ih => obtain ⟨k, hk⟩ := ih; exact ⟨k + 1, _, _, _, rfl, hn, hB, hk⟩

/-- the solver's own data: the sign and the map of what is bound -/
structure SolvW (w0 w : World) (xb mb n : Nat) (a1 : Option Addr) (c1 : Nat) (s : Sg) (B : Bd) : Prop where
  k0 : w.cell? ⟨xb, 0, none⟩ = some (.slice a1 s.length c1)
  k1 : w.cell? ⟨xb, 1, none⟩ = some (.map (some mb))
  map : BdMap w0 w mb n B
  bx : w0.heap.size ≤ xb
  bm : w0.heap.size ≤ mb
  ne : xb ≠ mb
  sg : Sign (fun b => b < w0.heap.size) w0 a1 c1 s
  bel : Below w0.heap.size w0 w
  wf : ∀ n u, B n = some u → W1 s u
theorem SolvW.lt {w0 w : World} {xb mb n : Nat} {a1 : Option Addr} {c1 : Nat} {s : Sg} {B : Bd} (h : SolvW w0 w xb mb n a1 c1 s B) : xb < w.heap.size := World.block_lt_of_cell? _ _ h.k0
theorem SolvW.below {w0 w w' : World} {xb mb n : Nat} {a1 : Option Addr} {c1 : Nat} {s : Sg} {B : Bd} (h : SolvW w0 w xb mb n a1 c1 s B) (hb : Below w.heap.size w w') : SolvW w0 w' xb mb n a1 c1 s B :=
  ⟨cell_later hb h.k0, cell_later hb h.k1, h.map.below hb h.map.lt, h.bx, h.bm, h.ne, h.sg, bcall h.bel hb, h.wf⟩

abbrev T0 (w0 : World) (a : Option Addr) (c : Nat) (t : List Int) : Prop := Ints (fun b => b < w0.heap.size) w0 a c t
/-- looked up in k steps, with where it lies -/
def LkF (w0 : World) (f : Int → Option Value) (B : Bd) (p : List Int) (a' : Option Addr) (c' : Nat) : Nat → Option Addr → Nat → List Int → Prop
  | 0, a, c, t => (t = p ∧ a = a' ∧ c = c') ∧ ∀ n r, t = n :: r → n < 0 → B n = none
  | k + 1, _, _, t => ∃ n r u a3 c3, t = n :: r ∧ n < 0 ∧ B n = some u ∧ f n = some (.slice a3 u.length c3) ∧ T0 w0 a3 c3 u ∧ LkF w0 f B p a' c' k a3 c3 u
theorem LkF.ex {w0 : World} {f : Int → Option Value} {B : Bd} {p : List Int} (h3 : ∀ x u, B x = some u → ∃ a c, f x = some (.slice a u.length c) ∧ T0 w0 a c u) :
    ∀ (k : Nat) (t : List Int) (a : Option Addr) (c : Nat), T0 w0 a c t → LkdN B p k t → ∃ a' c', LkF w0 f B p a' c' k a c t ∧ T0 w0 a' c' p
  | 0, t, a, c, hT, ⟨h1, h2⟩ => ⟨a, c, ⟨⟨h1, rfl, rfl⟩, h2⟩, h1 ▸ hT⟩
  | k + 1, t, a, c, hT, ⟨n, r, u, h1, h2, hB, h4⟩ => by
    obtain ⟨a3, c3, g1, g2⟩ := h3 n u hB
    obtain ⟨a', c', g3, g4⟩ := LkF.ex h3 k u a3 c3 g2 h4
    exact ⟨a', c', ⟨n, r, u, a3, c3, h1, h2, hB, g1, g2, g3⟩, g4⟩
def lookRel (w0 w : World) (s : Sg) (f : Int → Option Value) (B : Bd) (p : List Int) (a' : Option Addr) (c' : Nat) (k : Nat) (tv : Value) (wr : World) : Prop :=
  ∃ t a c, tv = .slice a (List.length t) c ∧ T0 w0 a c t ∧ W1 s t ∧ LkF w0 f B p a' c' k a c t ∧ Drew w wr
end Go.Proofs.YtfjodhgbbefkjaaGreatDoor

/- Walks of package unify: whether a variable comes. -/
namespace Go.Proofs.YtfjodhgbbefkjaaGreatDoor
open Go Go.RowKit Go.Maps

/-- what was met from M to M' is not v, and all that stands for it was met, too -/
def Mets (B : Bd) (v : Int) (M M' : Bd) : Prop := ∀ m, M m = none → (M' m).isSome = true → m ≠ v ∧ ∀ u, B m = some u → ∀ k ∈ u, k < 0 → (M' k).isSome = true
def Sub (M M' : Bd) : Prop := ∀ m, (M m).isSome = true → (M' m).isSome = true
theorem Sub.refl (M : Bd) : Sub M M := fun _ h => h
theorem Sub.trans {A B C : Bd} (h : Sub A B) (k : Sub B C) : Sub A C := fun m hm => k m (h m hm)
theorem Sub.up {M : Bd} {x : Int} {q : List Int} : Sub M (upB M x q) := fun m hm => by
  unfold upB; split
  · rfl
  · exact hm
theorem upB_same {M : Bd} {x : Int} {q : List Int} : (upB M x q) x = some q := by unfold upB; rw [if_pos rfl]
theorem upB_other {M : Bd} {x m : Int} {q : List Int} (h : m ≠ x) : (upB M x q) m = M m := by unfold upB; rw [if_neg h]
theorem isSome_none {α : Type} {o : Option α} (h : ¬ o.isSome = true) : o = none := by cases o <;> simp_all
theorem Mets.refl (B : Bd) (v : Int) (M : Bd) : Mets B v M M := fun m h1 h2 => by rw [h1] at h2; cases h2
theorem Mets.leaf {B M M1 : Bd} {v x : Int} (h : Mets B v M M1) (hx : x ≠ v) (hB : B x = none) : Mets B v M (upB M1 x []) := fun m h1 h2 => by
  by_cases e : m = x
  · subst e; exact ⟨hx, fun u hu => by rw [hB] at hu; cases hu⟩
  · rw [upB_other e] at h2
    obtain ⟨g1, g2⟩ := h m h1 h2
    exact ⟨g1, fun u hu k hk h0 => Sub.up _ (g2 u hu k hk h0)⟩
theorem Mets.node {B M M1 M2 : Bd} {v x : Int} {u : List Int} (h : Mets B v M M1) (hx : x ≠ v) (hB : B x = some u) (h2 : Mets B v (upB M1 x []) M2) (hs : Sub (upB M1 x []) M2) (hu : ∀ k ∈ u, k < 0 → (M2 k).isSome = true) : Mets B v M M2 := fun m g1 g2 => by
  by_cases e : m = x
  · subst e; exact ⟨hx, fun u' hu' => by rw [hB] at hu'; cases hu'; exact hu⟩
  · by_cases e1 : (M1 m).isSome = true
    · obtain ⟨k1, k2⟩ := h m g1 e1
      exact ⟨k1, fun u' hu' k hk h0 => hs k (Sub.up k (k2 u' hu' k hk h0))⟩
    · exact h2 m (by rw [upB_other e]; exact isSome_none e1) g2
theorem mets_not {s : Sg} {B : Bd} {θ : Int → List Int} {ρ : Int → Nat} (h : Slv s B θ ρ) {v : Int} {M : Bd} (hm : Mets B v (fun _ => none) M) : ∀ (K : Nat) (t : List Int), (∀ n ∈ t, n < 0 → (M n).isSome = true) → (∀ n ∈ t, n < 0 → ρ n < K) → v < 0 → v ∉ ap θ t
  | K, t, h1, h2, hv, hmem => by
    rcases mem_ap.1 hmem with ⟨-, e⟩ | ⟨n, hn, h0, hvn⟩
    · exact e hv
    · obtain ⟨g1, g2⟩ := hm n rfl (h1 n hn h0)
      cases hB : B n with
      | none => rw [h.free n h0 hB, List.mem_singleton] at hvn; exact g1 hvn.symm
      | some u =>
        rw [h.bnd n u hB] at hvn
        cases K with
        | zero => have := h2 n hn h0; omega
        | succ K =>
          exact mets_not h hm K u (g2 u hB) (fun m hm' h0' => by have := h.rk n u hB m hm' h0'; have := h2 n hn h0; omega) hv hvn

/-- the map of what was met -/
def MetW (w : World) (mm n : Nat) (M : Bd) : Prop := ∃ f, VMap KI w mm n f ∧ ∀ x, f x = (M x).map fun _ => .bool true
theorem MetW.made (w : World) : MetW (w.alloc (.map #[] 0)) w.heap.size 0 (fun _ => none) := ⟨_, VMap.made KI w, fun _ => rfl⟩
theorem MetW.lt {w : World} {mm n : Nat} {M : Bd} (h : MetW w mm n M) : mm < w.heap.size := by obtain ⟨f, h1, -⟩ := h; exact h1.lt
theorem MetW.below {w w' : World} {mm n K : Nat} {M : Bd} (h : MetW w mm n M) (hb : Below K w w') (hm : mm < K) : MetW w' mm n M := by
  obtain ⟨f, h1, h2⟩ := h; exact ⟨f, h1.below hb hm, h2⟩
theorem MetW.look {w : World} {mm n : Nat} {M : Bd} (h : MetW w mm n M) (x : Int) (hx : inRange x) :
    (Instr.lookup 128 (.map (some mm)) (.int .i64 x) false).run Tryz.prog w = .ok (.bool (M x).isSome) w := by
  obtain ⟨f, h1, h2⟩ := h
  have := h1.look (tm := 128) (te := 4) Tryz.underlying128 (zBool w) x hx
  rw [h2 x] at this
  cases hM : M x with
  | none => rw [hM] at this; exact this
  | some u => rw [hM] at this; exact this
theorem MetW.store {w : World} {mm n : Nat} {M : Bd} (h : MetW w mm n M) (hn : n < maxLen) (x : Int) (hx : inRange x) (hM : M x = none) :
    ∃ w', RowKit.Hid ((Instr.mapUpdate 128 (.map (some mm)) (.int .i64 x) (.bool true)).run Tryz.prog w = .ok () w') ∧ RowKit.Hid (MetW w' mm (n + 1) (upB M x [])) ∧ RowKit.Hid (w.grownBy w' (some mm)) := by
  obtain ⟨f, h1, h2⟩ := h
  obtain ⟨w', r, hv, hg⟩ := h1.store (tm := 128) (te := 4) Tryz.underlying128 hn x hx (.bool true)
  rw [if_neg (by rw [h2 x, hM]; simp)] at hv
  refine ⟨w', Lib.hid r, Lib.hid ⟨_, hv, fun y => ?_⟩, Lib.hid hg⟩
  unfold upB
  by_cases e : y = x
  · rw [if_pos e, if_pos e]; rfl
  · rw [if_neg e, if_neg e]; exact h2 y
theorem SolvW.grown {w0 w w' : World} {xb mb n k : Nat} {a1 : Option Addr} {c1 : Nat} {s : Sg} {B : Bd} (h : SolvW w0 w xb mb n a1 c1 s B) (hg : w.grownBy w' (some k)) (h1 : k ≠ xb) (h2 : k ≠ mb) (h3 : w0.heap.size ≤ k) : SolvW w0 w' xb mb n a1 c1 s B := by
  have hx : w'.heap[xb]? = w.heap[xb]? := hg.block xb h.lt (fun e => h1 (by injection e with e; exact e.symm))
  obtain ⟨f, m1, m2, m3⟩ := h.map
  exact ⟨(World.cell?_of_block (a := ⟨xb, 0, none⟩) hx).trans h.k0, (World.cell?_of_block (a := ⟨xb, 1, none⟩) hx).trans h.k1, ⟨f, m1.same (hg.block mb m1.lt (fun e => h2 (by injection e with e; exact e.symm))), m2, m3⟩, h.bx, h.bm, h.ne, h.sg,
    h.bel.grown hg h.bel.size (fun j e => by injection e with e; omega), h.wf⟩

theorem MetW.drawn {w : World} {mm n : Nat} {M : Bd} (h : MetW w mm n M) (m : Nat) : MetW (w.drewN m) mm n M := h.below ((Drew.mk w m).below w.heap.size) h.lt
end Go.Proofs.YtfjodhgbbefkjaaGreatDoor

/- Walks of package unify: comes, walked. -/
namespace Go.Proofs.YtfjodhgbbefkjaaGreatDoor
open Go Go.RowKit Go.Maps

def comesRet (B : Bd) (θ : Int → List Int) (v : Int) (t : List Int) (mm : Nat) (M : Bd) (w : World) (e : Ending) (w' : World) : Prop :=
  ∃ (M' : Bd) (n' : Nat) (r : Bool), e = .returned (.bool r) ∧ MetW w' mm n' M' ∧ n' + free M' ≤ 24 ∧ w.grownBy w' (some mm) ∧ Sub M M' ∧ (r = true → v ∈ ap θ t) ∧
    (r = false → (∀ n ∈ t, n < 0 → (M' n).isSome = true) ∧ Mets B v M M')
def comesRel (B : Bd) (v : Int) (t : List Int) (mm : Nat) (M : Bd) (w : World) (jv : Value) (wr : World) : Prop :=
  ∃ (j n : Nat) (M' : Bd), jv = .int .i64 j ∧ j ≤ t.length ∧ MetW wr mm n M' ∧ n + free M' ≤ 24 ∧ w.grownBy wr (some mm) ∧ Sub M M' ∧ (∀ n ∈ t.take j, n < 0 → (M' n).isSome = true) ∧ Mets B v M M'
theorem take_all {t : List Int} {j : Nat} {P : Int → Prop} (h : ∀ n ∈ t.take j, P n) (hj : j < t.length) (hp : P t[j]) : ∀ n ∈ t.take (j + 1), P n := by
  intro n hn
  rw [List.take_succ_eq_append_getElem hj, List.mem_append, List.mem_singleton] at hn
  rcases hn with e | e
  · exact h n e
  · rw [e]; exact hp

theorem grown_by' {w w1 w2 : World} {o : Option Nat} (h : w.grownBy w1 o) (b : w1.grownBy w2 o) : w.grownBy w2 o :=
  ⟨b.os.trans h.os, b.tape.trans h.tape, b.output.trans h.output, Nat.le_trans h.size b.size, fun x hx hne => (b.block x (Nat.lt_of_lt_of_le hx h.size) hne).trans (h.block x hx hne)⟩
theorem free_none : free (fun _ => none) = 24 := by decide
theorem rank_bound (ρ : Int → Nat) : ∀ t : List Int, ∃ K, ∀ m ∈ t, m < 0 → ρ m < K
  | [] => ⟨0, fun _ h => by cases h⟩
  | x :: t => by
    obtain ⟨K, hK⟩ := rank_bound ρ t
    refine ⟨max K (ρ x + 1), fun m hm h0 => ?_⟩
    rcases List.mem_cons.1 hm with e | e
    · subst e; omega
    · have := hK m e h0; omega
end Go.Proofs.YtfjodhgbbefkjaaGreatDoor

/- Walks of package unify: the stack of pairs; where arguments lie; after of a logic; the step of unification. -/
namespace Go.Proofs.YtfjodhgbbefkjaaGreatDoor
open Go Go.RowKit Go.Maps

abbrev prE : Enc (List Int × List Int) := pairE (slE intE) (slE intE)
section
variable {S : Nat → Prop} {w : World} {base g n cap : Nat} {L : Prs}
theorem pr_len {xs : List (List Value)} {T : Nat → Prop} (hl : xs.length = L.length) (hx : ∀ i (h1 : i < xs.length) (h2 : i < L.length), prE.R T w xs[i] L[i]) : ∀ x ∈ xs, x.length = 2 := by
  intro x hxm
  obtain ⟨i, hi, rfl⟩ := List.getElem_of_mem hxm
  exact prE.len (hx i hi (by omega))
end

/-- the places of the arguments -/
def apos (s : Sg) (t : List Int) (m : Nat) : Nat := 1 + ((argsW s t).take m).flatten.length
theorem apos_zero (s : Sg) (t : List Int) : apos s t 0 = 1 := rfl
theorem args_at {s : Sg} {n : Int} {x : List Int} (h : W1 s (n :: x)) {m : Nat} (hm : m < arW s n) (hl : m < (argsW s (n :: x)).length) :
    skw s 1 ((n :: x).drop (apos s (n :: x) m)) = some ((n :: x).drop (apos s (n :: x) (m + 1))) ∧ apos s (n :: x) m < apos s (n :: x) (m + 1) ∧ apos s (n :: x) (m + 1) ≤ (n :: x).length ∧
      ((n :: x).drop (apos s (n :: x) m)).take (apos s (n :: x) (m + 1) - apos s (n :: x) m) = (argsW s (n :: x))[m] := by
  obtain ⟨h1, h2, h3, -⟩ := h.args
  obtain ⟨A, hA⟩ : ∃ A, argsW s (n :: x) = A := ⟨_, rfl⟩
  rw [hA] at h1 h2 h3
  simp only [apos, hA]
  have hd : ∀ k, (n :: x).drop (1 + (A.take k).flatten.length) = (A.drop k).flatten := fun k => by
    rw [Nat.add_comm, List.drop_succ_cons, ← h2]
    conv => lhs; rw [← List.take_append_drop k A]
    rw [List.flatten_append]
    have : ((A.take k ++ A.drop k).take k) = A.take k := by rw [List.take_append_drop]
    rw [this, List.drop_left]
  have ht : (A.take (m + 1)).flatten.length = (A.take m).flatten.length + (A[m]'(by omega)).length := by
    rw [List.take_succ_eq_append_getElem (by omega), List.flatten_append, List.length_append]; simp
  have hdm : (A.drop m).flatten = A[m]'(by omega) ++ (A.drop (m + 1)).flatten := by rw [List.drop_eq_getElem_cons (by omega), List.flatten_cons]
  have hw := h3 _ (List.getElem_mem (by omega : m < A.length))
  have hle : (A.take (m + 1)).flatten.length ≤ x.length := by
    rw [← h2]
    conv => rhs; rw [← List.take_append_drop (m + 1) A]
    rw [List.flatten_append, List.length_append]; omega
  have hwl := hw.len
  refine ⟨?_, by omega, by rw [List.length_cons]; omega, ?_⟩
  · rw [hd, hd, hdm, skw_append s 1 _ _ _ hw]; rfl
  · rw [hd, ht, hdm, show 1 + ((A.take m).flatten.length + (A[m]'(by omega)).length) - (1 + (A.take m).flatten.length) = (A[m]'(by omega)).length by omega, List.take_left]
theorem args_all {s : Sg} {t : List Int} (h : W1 s t) {n : Int} (hn : t.headD 0 = n) : (argsW s t).length = arW s n ∧ n < s.length ∧ ∀ m (hm : m < (argsW s t).length), skw s 1 (t.drop (apos s t m)) = some (t.drop (apos s t (m + 1))) ∧ apos s t m < apos s t (m + 1) ∧ apos s t (m + 1) ≤ t.length ∧
    (t.drop (apos s t m)).take (apos s t (m + 1) - apos s t m) = (argsW s t)[m] := by
  cases t with
  | nil => exact (h.ne rfl).elim
  | cons k x =>
    simp only [List.headD_cons] at hn
    subst hn
    exact ⟨h.args.1, h.args.2.2.2, fun m hm => args_at h (by rw [← h.args.1]; exact hm) hm⟩
theorem drop_len {t : List Int} {k : Nat} (h : k ≤ t.length) : t.length - (t.drop k).length = k := by rw [List.length_drop]; omega

end Go.Proofs.YtfjodhgbbefkjaaGreatDoor

/- Walks of package unify: solve. -/
namespace Go.Proofs.YtfjodhgbbefkjaaGreatDoor
open Go Go.RowKit Go.Maps

theorem T0.back {w0 w : World} (hB : Below w0.heap.size w0 w) {S : Nat → Prop} {a : Option Addr} {c : Nat} {t : List Int} (h : Ints S w a c t) (hS : ∀ b, S b → b < w0.heap.size) : T0 w0 a c t :=
  h.mono (fun b _ hb => hS b hb) (fun b hb _ => (hB.block b (hS b hb)).symm)

def solRet (w0 : World) (xb mb : Nat) (a1 : Option Addr) (c1 : Nat) (s : Sg) (a b : List Int) (e : Ending) (w' : World) : Prop :=
  ∃ r, e = .returned (.bool r) ∧ Below w0.heap.size w0 w' ∧ (r = false → ∀ η, Wsub s η → ap η a ≠ ap η b) ∧
    (r = true → ∃ B θ ρ n, Slv s B θ ρ ∧ RgB B ∧ (∀ η, Wsub s η → (Sat B η ↔ ap η a = ap η b)) ∧ SolvW w0 w' xb mb n a1 c1 s B ∧ ∀ n u, B n = some u → InfT a b u)
section
variable {P : Program} {Q : Exit → Act → World → Prop} {md : Region.Mode} {S : World → Prop} {l : List Oper} {listed : Array Bool} {fuel : Nat} {a : Act} {w : World}
/-- two operations either of which may come up -/
theorem region_2 (i j : Nat) {o o' : Oper} (hi : l[i]? = some o) (hj : l[j]? = some o') (hr : Region.ready md l.toArray listed = [i, j])
    (h : ∀ K' : Act → World → Prop, Shut (∀ a w, S w → (S w → wpAnyH P md l.toArray Q S fuel (listed.setIfInBounds i true) a w) → K' a w) → if Region.wanted o (yielded l.toArray a.tmps) = true then Oper.wp P o a w K' Q else K' (a.put o.dst undef) w)
    (h' : ∀ K' : Act → World → Prop, Shut (∀ a w, S w → (S w → wpAnyH P md l.toArray Q S fuel (listed.setIfInBounds j true) a w) → K' a w) → if Region.wanted o' (yielded l.toArray a.tmps) = true then Oper.wp P o' a w K' Q else K' (a.put o'.dst undef) w) :
    wpAnyH P md l.toArray Q S (fuel + 1) listed a w :=
  wpAnyH_ready hr (by simp) (AllReadyH.cons (by simpa using hi) h (AllReadyH.cons (by simpa using hj) h' AllReadyH.nil))
end
theorem SolvW.keep {w0 w w' : World} {xb mb n K : Nat} {a1 : Option Addr} {c1 : Nat} {s : Sg} {B : Bd} (h : SolvW w0 w xb mb n a1 c1 s B) (hb : Below K w w') (h1 : xb < K) (h2 : mb < K) (h3 : w0.heap.size ≤ K) : SolvW w0 w' xb mb n a1 c1 s B :=
  ⟨(World.cell?_of_block (a := ⟨xb, 0, none⟩) (hb.block xb h1)).trans h.k0, (World.cell?_of_block (a := ⟨xb, 1, none⟩) (hb.block xb h1)).trans h.k1, h.map.below hb h2, h.bx, h.bm, h.ne, h.sg, h.bel.trans (hb.mono h3), h.wf⟩
theorem SolvW.stored {w0 w w' : World} {xb mb n n' : Nat} {a1 : Option Addr} {c1 : Nat} {s : Sg} {B : Bd} {v : Int} {q : List Int} (h : SolvW w0 w xb mb n a1 c1 s B) (hg : w.grownBy w' (some mb)) (hD : BdMap w0 w' mb n' (upB B v q)) (hq : W1 s q) : SolvW w0 w' xb mb n' a1 c1 s (upB B v q) := by
  have hx : w'.heap[xb]? = w.heap[xb]? := hg.block xb h.lt (fun e => h.ne (by injection e))
  refine ⟨(World.cell?_of_block (a := ⟨xb, 0, none⟩) hx).trans h.k0, (World.cell?_of_block (a := ⟨xb, 1, none⟩) hx).trans h.k1, hD, h.bx, h.bm, h.ne, h.sg, h.bel.grown hg h.bel.size (fun j e => by have := h.bm; injection e with e; omega), fun m u hu => ?_⟩
  unfold upB at hu
  split at hu
  · cases hu; exact hq
  · exact h.wf m u hu
theorem rank_head (ρ : Int → Nat) (t : List Int) : ∀ n r, t = n :: r → n < 0 → ρ n < ρ (t.headD 0) + 1 := fun n r e _ => by rw [e]; simp
theorem last_snoc {α : Type} {L : List α} (h : 0 < L.length) : ∃ L0 e, L = L0 ++ [e] ∧ L0.length + 1 = L.length := by
  rcases List.eq_nil_or_concat L with rfl | ⟨L0, e, rfl⟩
  · simp at h
  · exact ⟨L0, e, by rw [List.concat_eq_append], by simp⟩
end Go.Proofs.YtfjodhgbbefkjaaGreatDoor

/- Walks of package unify: solved, apart, Meets, Unifiable. -/
namespace Go.Proofs.YtfjodhgbbefkjaaGreatDoor
open Go Go.RowKit Go.Maps

def apRel (t : List Int) (w : World) (B0 g cap : Nat) (i : Value) (wr : World) : Prop :=
  ∃ k : Nat, i = .int .i64 k ∧ k ≤ t.length ∧ OwnI wr B0 (.slice (some ⟨g, 0, none⟩) t.length cap) (doneTo apN t k) ∧ Below w.heap.size w wr
def solvedRet (w : World) (a1 : Option Addr) (c1 : Nat) (s : Sg) (a b : List Int) (e : Ending) (w' : World) : Prop :=
  ∃ xb mb r, e = .returned (.tuple #[.pointer (some ⟨xb, 0, none⟩), .bool r]) ∧ Below w.heap.size w w' ∧ (r = false → ∀ η, Wsub s η → ap η a ≠ ap η b) ∧
    (r = true → ∃ B θ ρ n, Slv s B θ ρ ∧ RgB B ∧ IsMgu s a b θ ∧ SolvW w w' xb mb n a1 c1 s B)
theorem solved_uniB {w w' : World} {a1 : Option Addr} {c1 xb mb : Nat} {s : Sg} {a b : List Int} {r : Bool} (hf : r = false → ∀ η, Wsub s η → ap η a ≠ ap η b) (ht : r = true → ∃ B θ ρ n, Slv s B θ ρ ∧ RgB B ∧ IsMgu s a b θ ∧ SolvW w w' xb mb n a1 c1 s B) : r = uniB s a b := by
  cases r with
  | false => exact (uniB_none (hf rfl)).symm
  | true => obtain ⟨B, θ, ρ, n, -, -, h, -⟩ := ht rfl; exact (uniB_some h).symm

end Go.Proofs.YtfjodhgbbefkjaaGreatDoor

/- Walks of package unify: code, named. -/
namespace Go.Proofs.YtfjodhgbbefkjaaGreatDoor
open Go Go.RowKit Go.Maps

def namRel (t : List Int) (w : World) (out i : Value) (wr : World) : Prop :=
  ∃ k : Nat, i = .int .i64 k ∧ k ≤ t.length ∧ IMap Tryz.prog 3 3 wr w.heap.size (varsC (t.take k)).length (nameF t k) ∧ OwnI wr (w.heap.size + 1) out ((t.take k).map (canonW (varsC t))) ∧ Below w.heap.size w wr
theorem nam_push {w : World} {base : Nat} {v : Value} {l : List Int} (ho : OwnI w base v l) (x : Int) (hx : inRange x) (hl : l.length ≤ 10000000) (hb : base ≤ w.heap.size) :
    ∃ v' w', RowKit.Hid ((Builtin.append_ #[41, 41] 41 #[v, .slice (some ⟨w.heap.size, 0, none⟩) 1 1]).run Tryz.prog (w.alloc (.cells #[.int .i64 x] 3)) = .ok v' w') ∧ RowKit.Hid (OwnI w' base v' (l ++ [x])) ∧ RowKit.Hid (w.grownBy w' v.ownBlock) := by
  obtain ⟨v', w', hrun, ho', hg, -⟩ := ho.push (P := Tryz.prog) (t := 41) (ty := 41) Tryz.underlying41 infoInt rfl (vs := [.int .i64 x]) (x := x) ⟨rfl, hx⟩ (by omega) (by unfold big; omega) hb
  exact ⟨v', w', Lib.hid hrun, Lib.hid ho', Lib.hid hg⟩
end Go.Proofs.YtfjodhgbbefkjaaGreatDoor

/- Walks of package unify: full, made, Meet. -/
namespace Go.Proofs.YtfjodhgbbefkjaaGreatDoor
open Go Go.RowKit Go.Maps

/-- only what lies from K on, and the box B0, has turned -/
structure FB (K B0 : Nat) (w w' : World) : Prop where
  os : w'.os = w.os
  tape : w'.tape = w.tape
  output : w'.output = w.output
  size : w.heap.size ≤ w'.heap.size
  block : ∀ b, b < K → b ≠ B0 → w'.heap[b]? = w.heap[b]?
section
variable {K B0 : Nat} {w w1 w2 : World}
theorem FB.refl (K B0 : Nat) (w : World) : FB K B0 w w := ⟨rfl, rfl, rfl, Nat.le_refl _, fun _ _ _ => rfl⟩
theorem FB.trans (h : FB K B0 w w1) (k : FB K B0 w1 w2) : FB K B0 w w2 := ⟨k.os.trans h.os, k.tape.trans h.tape, k.output.trans h.output, Nat.le_trans h.size k.size, fun b hb hne => (k.block b hb hne).trans (h.block b hb hne)⟩
theorem FB.below (h : FB K B0 w w1) {C : Nat} (h1 : C ≤ K) (h2 : C ≤ B0) : Below C w w1 := ⟨h.os, h.tape, h.output, h.size, fun b hb => h.block b (by omega) (by omega)⟩
theorem FB.cell (h : FB K B0 w w1) {b off : Nat} {v : Value} (hb : b < K) (hne : b ≠ B0) (hc : w.cell? ⟨b, off, none⟩ = some v) : w1.cell? ⟨b, off, none⟩ = some v := (World.cell?_of_block (w := w) (h.block b hb hne)).trans hc
end
section
variable {w0 w w1 : World} {xb mb nb : Nat} {a1 : Option Addr} {c1 : Nat} {s : Sg} {B : Bd} {xx wb ob K : Nat} {o o' : List Int}
end
theorem len_app (a b : List Int) : (a ++ b).length = a.length + b.length := List.length_append
theorem ap_cut {θ : Int → List Int} {t : List Int} {j : Nat} (h : j < t.length) : ap θ (t.take (j + 1)) = ap θ (t.take j) ++ ap θ [t[j]] ∧ (ap θ (t.take j) ++ ap θ [t[j]]).length ≤ (ap θ t).length := by
  have e : ap θ (t.take (j + 1)) = ap θ (t.take j) ++ ap θ [t[j]] := by rw [List.take_succ_eq_append_getElem h, ap_append]
  refine ⟨e, ?_⟩
  rw [← e]
  have : ap θ t = ap θ (t.take (j + 1)) ++ ap θ (t.drop (j + 1)) := by rw [← ap_append, List.take_append_drop]
  rw [this, List.length_append]; omega
end Go.Proofs.YtfjodhgbbefkjaaGreatDoor

/- Walks of package unify: full, made, Meet. -/
namespace Go.Proofs.YtfjodhgbbefkjaaGreatDoor
open Go Go.RowKit Go.Maps

theorem retE.below {r : List Int × Int} {w w1 : World} {e : Ending} {w' : World} (h : retE r w1 e w') (hb : Below w.heap.size w w1) : retE r w e w' := by
  obtain ⟨v, h1, h2, h3⟩ := h
  exact ⟨v, h1, OwnL.baseMono h2 hb.size, bcall hb h3⟩
end Go.Proofs.YtfjodhgbbefkjaaGreatDoor

/- Walks of package kernel: steps in memory; right, valid, ValidGivens, asked. -/
namespace Go.Proofs.YtfjodhgbbefkjaaGreatDoor
open Go Go.RowKit Go.Maps

/-- struct { Kind, A, B int } -/
def stpE : Enc Stp := pairE intE (pairE intE intE)
abbrev Steps := Sl stpE
abbrev stpV (x : Stp) : Value := .agg #[.int .i64 x.1, .int .i64 x.2.1, .int .i64 x.2.2]
def stpR (x : Stp) : Prop := inRange x.1 ∧ inRange x.2.1 ∧ inRange x.2.2
theorem Sl.stp {S : Nat → Prop} {w : World} {a : Option Addr} {c : Nat} {l : List Stp} (h : Steps S w a c l) (i : Nat) (hi : i < l.length) :
    ∃ b off, a = some ⟨b, off, none⟩ ∧ S b ∧ w.cell? ⟨b, off + i * 3, none⟩ = some (.int .i64 l[i].1) ∧ w.cell? ⟨b, off + i * 3 + 1, none⟩ = some (.int .i64 l[i].2.1) ∧ w.cell? ⟨b, off + i * 3 + 2, none⟩ = some (.int .i64 l[i].2.2) ∧ stpR l[i] := by
  obtain ⟨b, off, ha, hb, _, vs, _, hv, hr⟩ := h.at1 i hi
  obtain ⟨us, ts, rfl, ⟨rfl, h1⟩, us', ts', rfl, ⟨rfl, h2⟩, ⟨rfl, h3⟩⟩ := hr
  have h0 := hv 0 (by simp)
  have h4 := hv 1 (by simp)
  have h5 := hv 2 (by simp)
  simp [stpE, pairE, intE] at h0 h4 h5
  exact ⟨b, off, ha, hb, h0, h4, h5, h1, h2, h3⟩

theorem okSteps_snoc {G : Int} : ∀ (p : List Stp) (n : Nat) (x : Stp), okSteps G n (p ++ [x]) = (okSteps G n p && rightB G (n + p.length) x)
  | [], n, x => by simp [okSteps]
  | y :: p, n, x => by
    rw [List.cons_append, okSteps, okSteps, okSteps_snoc p (n + 1) x, Bool.and_assoc, List.length_cons, show n + 1 + p.length = n + (p.length + 1) by omega]
theorem okSteps_take {G : Int} : ∀ (p : List Stp) (n k : Nat), okSteps G n p = true → okSteps G n (p.take k) = true
  | [], _, _, _ => by simp [okSteps]
  | x :: p, n, 0, _ => rfl
  | x :: p, n, k + 1, h => by
    simp only [okSteps, Bool.and_eq_true] at h
    rw [List.take_succ_cons, okSteps, Bool.and_eq_true]
    exact ⟨h.1, okSteps_take p (n + 1) k h.2⟩
end Go.Proofs.YtfjodhgbbefkjaaGreatDoor

/- Facts of the program's types that the rows over the kernel want; the start of a row that lists variables. -/
namespace Go.Proofs.YtfjodhgbbefkjaaGreatDoor
open Go Go.RowKit Go.ChangeShapes Go.WideShapes Go.ChangeAt Go.Deep

theorem gives3 {P : Program} {t : TypeId} {α β γ : Type} {E : Enc α} {F : Enc β} {G : Enc γ} {f0 f1 f2 : Field} (ht : P.underlying t = some (.struct #[f0, f1, f2])) (h0 : f0.offset = 0) (h1 : f1.offset = E.size) (h2 : f2.offset = E.size + F.size) (hc : P.cellsOf t = E.size + (F.size + G.size))
    (hc0 : P.cellsOf f0.type = E.size) (hc1 : P.cellsOf f1.type = F.size) (hc2 : P.cellsOf f2.type = G.size) (g0 : Gives P f0.type E) (g1 : Gives P f1.type F) (g2 : Gives P f2.type G) : Gives P t (pairE E (pairE F G)) := by
  intro H enc w base spare held n cs x h
  obtain ⟨y0, y1, y2, n', _, hl, r0, r1, r2⟩ := trod_struct3 ht h
  obtain ⟨a, ha⟩ := g0 H enc w base spare held n' _ _ r0
  obtain ⟨b, hb⟩ := g1 H enc w base spare held n' _ _ r1
  obtain ⟨c, hcc⟩ := g2 H enc w base spare held n' _ _ r2
  refine ⟨(a, b, c), _, _, ?_, ha, _, _, rfl, hb, hcc⟩
  rw [h0, h1, h2, hc0, hc1, hc2, List.drop_zero]
  have e1 : (cs.drop (E.size + F.size)).take G.size = cs.drop (E.size + F.size) := List.take_of_length_le (by simp; omega)
  rw [e1, ← List.drop_drop, List.take_append_drop, List.take_append_drop]
theorem gives_array2 {P : Program} {t e : TypeId} {α : Type} {E : Enc α} (ht : P.underlying t = some (.array 2 e)) (hc : P.cellsOf t = E.size + E.size) (he : P.cellsOf e = E.size) (g : Gives P e E) : Gives P t (pairE E E) := by
  intro H enc w base spare held n cs x h
  obtain ⟨xs, m, _, _, hl, hx, hf⟩ := DataW.trod_array ht h
  match xs, hx with
  | [x0, x1], _ =>
    obtain ⟨a, ha⟩ := g H enc w base spare held m _ _ (hf 0 (by omega))
    obtain ⟨b, hb⟩ := g H enc w base spare held m _ _ (hf 1 (by omega))
    refine ⟨(a, b), _, _, ?_, ha, hb⟩
    rw [he, Nat.zero_mul, Nat.one_mul, List.drop_zero]
    have e1 : (cs.drop E.size).take E.size = cs.drop E.size := List.take_of_length_le (by simp; omega)
    rw [e1, List.take_append_drop]
end Go.Proofs.YtfjodhgbbefkjaaGreatDoor

/- Walks: few, small of the laws on tongues. -/
namespace Go.Proofs.YtfjodhgbbefkjaaGreatDoor
open Go Go.RowKit Go.Maps

def fewB (d : Ways) : Bool := d.all (fun x => decide (x.2.length ≤ 40)) && decide (d.length ≤ 40)
theorem fewB_le {d : Ways} (h : fewB d = true) : d.length ≤ 40 ∧ ∀ x ∈ d, x.2.length ≤ 1000 := by
  unfold fewB at h
  rw [Bool.and_eq_true, List.all_eq_true, decide_eq_true_eq] at h
  refine ⟨h.2, fun x hx => ?_⟩
  have := h.1 x hx
  rw [decide_eq_true_eq] at this
  omega
def fewRel (d : Ways) (w : World) (i : Value) (wr : World) : Prop := ∃ k : Nat, i = .int .i64 k ∧ k ≤ d.length ∧ (d.take k).all (fun x => decide (x.2.length ≤ 40)) = true ∧ w = wr
theorem few_any {S3 : Nat → Prop} (a3 : Option Addr) (c3 : Nat) (d : Ways) (w : World) (h3 : WaysL S3 w a3 c3 d) :
    Calls Tryz.prog 34 #[.slice a3 d.length c3] w fun e w' => e = .returned (.bool (fewB d)) ∧ w = w' := by
  have m3 := h3.le
  have h3H := Lib.hid h3
  clear h3
  go_enter Tryz.func34, Tryz.ntmps34
  go_wp2_with fail
  go_loopw [3] (fun i wr => fewRel d w i wr) (fun i _ => d.length - (intOf i).toNat)
  case atStart => exact ⟨0, rfl, Nat.zero_le _, by simp, rfl⟩
  case round =>
    obtain ⟨k, rfl, hk, hal, rfl⟩ := hrel
    by_cases hlt : k < d.length
    · obtain ⟨b3, o3, ai, ci, rfl, -, -, qi, -, hI⟩ := h3H.out.way k hlt
      have hma := hI.le
      have hst : d[k].2.length ≤ 40 → (d.take (k + 1)).all (fun x => decide (x.2.length ≤ 40)) = true := fun h => by
        rw [List.take_succ_eq_append_getElem hlt, List.all_append, hal]
        simpa using h
      have hbad : 40 < d[k].2.length → fewB d = false := fun h => by
        have : d.all (fun x => decide (x.2.length ≤ 40)) = false := by rw [List.all_eq_false]; exact ⟨d[k], List.getElem_mem hlt, by simpa using h⟩
        unfold fewB; rw [this]; rfl
      obtain ⟨n, hn⟩ : ∃ n, d[k].2.length = n := ⟨_, rfl⟩
      rw [hn] at qi hst hbad hma
      by_cases h40 : n ≤ 40
      · have hf := Lib.hid (hst h40)
        clear hst hbad hal hn hI
        go_wp2_with fail
        go_roundw
        case rel => exact ⟨k + 1, by go_num, by omega, hf.out, rfl⟩
        case measure => simp [intOf]; omega
      · have hf := Lib.hid (hbad (by omega))
        clear hst hbad hal hn hI
        go_wp2_with fail
        go_ret
        exact ⟨ret_bool hf.out.symm, rfl⟩
    · rw [List.take_of_length_le (by omega)] at hal
      have hf : fewB d = decide (d.length ≤ 40) := by unfold fewB; rw [hal, Bool.true_and]
      have hfH := Lib.hid hf
      clear hal hf
      go_wp2_with fail
      go_ret
      refine ⟨ret_bool ?_, rfl⟩
      rw [hfH.out, Bool.eq_iff_iff]; simp; omega
def smallTr (a b : Sg) (d : Ways) : Bool := smallT a [] && (smallT b [] && fewB d)
set_option maxHeartbeats 1000000 in
theorem smallTr_any {S1 S2 S3 : Nat → Prop} (a1 a2 a3 : Option Addr) (c1 c2 c3 : Nat) (a b : Sg) (d : Ways) (w : World) (h1 : Sign S1 w a1 c1 a) (h2 : Sign S2 w a2 c2 b) (h3 : WaysL S3 w a3 c3 d) :
    Calls Tryz.prog 18 #[.agg #[.slice a1 a.length c1, .slice a2 b.length c2, .slice a3 d.length c3]] w fun e w' => e = .returned (.bool (smallTr a b d)) ∧ Below w.heap.size w w' := by
  have m1 := h1.le
  have m2 := h2.le
  have m3 := h3.le
  obtain ⟨W, hW⟩ : ∃ W, w.alloc (.cells #[.slice a1 a.length c1, .slice a2 b.length c2, .slice a3 d.length c3] 34) = W := ⟨_, rfl⟩
  have hB : Below w.heap.size w W := by rw [← hW]; exact below1 w _
  have q0 : W.cell? ⟨w.heap.size, 0, none⟩ = some (.slice a1 a.length c1) := by rw [← hW]; clear hW; go_simp
  have q1 : W.cell? ⟨w.heap.size, 1, none⟩ = some (.slice a2 b.length c2) := by rw [← hW]; clear hW; go_simp
  have q2 : W.cell? ⟨w.heap.size, 2, none⟩ = some (.slice a3 d.length c3) := by rw [← hW]; clear hW; go_simp
  have s1 : Calls Tryz.prog 12 #[.slice a1 a.length c1, .slice none 0 0] W fun e w' => e = .returned (.bool (smallT a [])) ∧ W = w' := Small_any a1 none c1 0 a [] W (h1.below hB) (Sl.empty (S := fun _ => True))
  have s2 : Calls Tryz.prog 12 #[.slice a2 b.length c2, .slice none 0 0] W fun e w' => e = .returned (.bool (smallT b [])) ∧ W = w' := Small_any a2 none c2 0 b [] W (h2.below hB) (Sl.empty (S := fun _ => True))
  have s3 := few_any a3 c3 d W (h3.below hB)
  have s1H := Lib.hid s1
  have s2H := Lib.hid s2
  have s3H := Lib.hid s3
  have hBH := Lib.hid hB
  clear s1 s2 s3 hB h1 h2 h3
  unfold smallTr
  cases hx : smallT a [] with
  | false =>
    rw [hx] at s1H
    clear hx
    go_enter Tryz.func18, Tryz.ntmps18
    go_wp2_with fail
    try rw [hW]
    go_wp2_with fail
    refine s1H.out.mono ?_
    rintro e w1 ⟨rfl, rfl⟩
    go_wp2_with fail
    go_ret
    exact ⟨rfl, hBH.out⟩
  | true =>
  rw [hx] at s1H
  cases hy : smallT b [] with
  | false =>
    rw [hy] at s2H
    clear hx hy
    go_enter Tryz.func18, Tryz.ntmps18
    go_wp2_with fail
    try rw [hW]
    go_wp2_with fail
    refine s1H.out.mono ?_
    rintro e w1 ⟨rfl, rfl⟩
    go_wp2_with fail
    refine s2H.out.mono ?_
    rintro e w1 ⟨rfl, rfl⟩
    go_wp2_with fail
    go_ret
    exact ⟨rfl, hBH.out⟩
  | true =>
  rw [hy] at s2H
  obtain ⟨z, hz⟩ : ∃ z, fewB d = z := ⟨_, rfl⟩
  rw [hz] at s3H ⊢
  clear hx hy hz
  go_enter Tryz.func18, Tryz.ntmps18
  go_wp2_with fail
  try rw [hW]
  go_wp2_with fail
  refine s1H.out.mono ?_
  rintro e w1 ⟨rfl, rfl⟩
  go_wp2_with fail
  refine s2H.out.mono ?_
  rintro e w1 ⟨rfl, rfl⟩
  go_wp2_with fail
  refine s3H.out.mono ?_
  rintro e w1 ⟨rfl, rfl⟩
  go_wp2_with fail
  go_ret
  exact ⟨by simp, hBH.out⟩
end Go.Proofs.YtfjodhgbbefkjaaGreatDoor

/- The law TongueBack, walked. -/
namespace Go.Proofs.YtfjodhgbbefkjaaGreatDoor
open Go Go.RowKit Go.Maps

theorem valid_args {a b : Sg} {d : Ways} (h : validD a b d = true) : ∀ x ∈ d, x.2.length ≤ 1000 := fun x hx => by
  obtain ⟨i, hi, rfl⟩ := List.getElem_of_mem hx
  obtain ⟨h1, -, h3, -⟩ := validD_parts h
  obtain ⟨-, -, -, v4, -⟩ := validD_at h (i := i) (by omega)
  obtain ⟨n, e1, e2, e3, e4⟩ := arAt_nat h1 (k := i) (by omega)
  rw [getD_at hi] at v4
  omega
/-- an inverse, if there is one -/
theorem invE_cases (a b : Sg) (d : Ways) : ((invE a b d).2 ≠ 0) ∨ (validD a b d = true ∧ oneB a b d = true ∧ invE a b d = (invD d b.length d.length, 0)) := by
  unfold invE
  cases h1 : validD a b d
  · left; simp
  · cases h2 : oneB a b d
    · left; simp
    · right; simp
theorem crdE_cases (a b : Sg) (d : Ways) (t : List Int) : ((crdE a b d t).2 ≠ 0) ∨ (validD a b d = true ∧ okT a t = true ∧ crdE a b d t = (carT a d t, 0)) := by
  unfold crdE
  cases h1 : validD a b d
  · left; simp
  · cases h2 : okT a t
    · left; simp
    · right; simp
set_option maxRecDepth 100000 in
set_option maxHeartbeats 8000000 in
theorem TongueBack_walk {S1 S2 S3 S4 : Nat → Prop} (a1 : Option Addr) (c1 : Nat) (a : Sg) (a2 : Option Addr) (c2 : Nat) (b : Sg) (a3 : Option Addr) (c3 : Nat) (d : Ways) (a4 : Option Addr) (c4 : Nat) (t : List Int) (w : World) (h1 : Sign S1 w a1 c1 a) (h2 : Sign S2 w a2 c2 b) (h3 : WaysL S3 w a3 c3 d) (h4 : Ints S4 w a4 c4 t) :
    Calls Tryz.prog 7 #[.agg #[.slice a1 a.length c1, .slice a2 b.length c2, .slice a3 d.length c3], .slice a4 t.length c4] w fun e w' => e = .returned (.bool true) ∧ Below w.heap.size w w' := by
  have m1 := h1.le
  have m2 := h2.le
  have m3 := h3.le
  have m4 := h4.le
  obtain ⟨W, hW⟩ : ∃ W, w.alloc (.cells #[.slice a1 a.length c1, .slice a2 b.length c2, .slice a3 d.length c3] 34) = W := ⟨_, rfl⟩
  have hB : Below w.heap.size w W := by rw [← hW]; exact below1 w _
  have q0 : W.cell? ⟨w.heap.size, 0, none⟩ = some (.slice a1 a.length c1) := by rw [← hW]; clear hW; go_simp
  have q1 : W.cell? ⟨w.heap.size, 1, none⟩ = some (.slice a2 b.length c2) := by rw [← hW]; clear hW; go_simp
  have q2 : W.cell? ⟨w.heap.size, 2, none⟩ = some (.slice a3 d.length c3) := by rw [← hW]; clear hW; go_simp
  have sm := smallTr_any a1 a2 a3 c1 c2 c3 a b d W (h1.below hB) (h2.below hB) (h3.below hB)
  have aw := Lib.hid (fun W' (hb : Below w.heap.size w W') => aw3_from hb (Nat.le_refl _))
  have hBH := Lib.hid hB
  cases hs : smallTr a b d with
  | false =>
    rw [hs] at sm
    have smH := Lib.hid sm
    clear hB h1 h2 h3 h4 sm hs
    go_enter Tryz.func7, Tryz.ntmps7
    go_wp2_with fail
    try rw [hW]
    go_wp2_with fail
    refine smH.out.mono ?_
    rintro e w1 ⟨rfl, hb1⟩
    go_wp2_with fail
    refine (aw.out _ (bcall hBH.out hb1)).mono ?_
    rintro e w2 ⟨rfl, hb2⟩
    go_wp2_with fail
    go_ret
    exact ⟨rfl, hb2⟩
  | true =>
  rw [hs] at sm
  have smH := Lib.hid sm
  have hda : ∀ x ∈ d, x.2.length ≤ 1000 := by
    unfold smallTr at hs
    simp only [Bool.and_eq_true] at hs
    exact (fewB_le hs.2.2).2
  have Q : ∀ W', Below W.heap.size W W' → Below w.heap.size w W' ∧ W'.cell? ⟨w.heap.size, 0, none⟩ = some (.slice a1 a.length c1) ∧ W'.cell? ⟨w.heap.size, 1, none⟩ = some (.slice a2 b.length c2) ∧ W'.cell? ⟨w.heap.size, 2, none⟩ = some (.slice a3 d.length c3) := fun W' hb =>
    ⟨bcall hBH.out hb, cell_later hb q0, cell_later hb q1, cell_later hb q2⟩
  have QH := Lib.hid Q
  have st : ∀ W', Below w.heap.size w W' → Calls Tryz.prog 12 #[.slice none 0 0, .slice (some ⟨W'.heap.size, 0, none⟩) 1 1] (W'.alloc (.cells #[.slice a4 t.length c4] 41)) fun e w' => e = .returned (.bool (smallT [] [t])) ∧ W'.alloc (.cells #[.slice a4 t.length c4] 41) = w' := fun W' hb =>
    Small_any none (some ⟨W'.heap.size, 0, none⟩) 0 1 [] [t] _ (Sl.empty (S := fun _ => True)) (Sl.new (E := slE intE) (S := fun _ => True) W' [[.slice a4 t.length c4]] [t] 41 rfl (by unfold big; simp) (fun i g1 g2 => by
      match i, g1 with
      | 0, _ => exact ⟨_, _, rfl, (h4.below hb).any⟩))
  have stH := Lib.hid st
  have n1 := fun W' (hb : Below w.heap.size w W') => Inverse_any a1 a2 a3 c1 c2 c3 a b d W' (h1.below hb) (h2.below hb) (h3.below hb) hda
  have k1 := fun W' (hb : Below w.heap.size w W') => Carried_any a1 a2 a3 a4 c1 c2 c3 c4 a b d t W' (h1.below hb) (h2.below hb) (h3.below hb) (h4.below hb) hda
  have n1H := Lib.hid n1
  have k1H := Lib.hid k1
  have h1H := Lib.hid h1
  have h2H := Lib.hid h2
  have h3H := Lib.hid h3
  have h4H := Lib.hid h4
  have hdaH := Lib.hid hda
  clear hB h1 h2 h3 h4 sm hs hda n1 k1 Q st
  cases hz : smallT [] [t] with
  | false =>
    go_enter Tryz.func7, Tryz.ntmps7
    go_wp2_with fail
    try rw [hW]
    go_wp2_with fail
    refine smH.out.mono ?_
    rintro e w1 ⟨rfl, hb1⟩
    have hBB := bcall hBH.out hb1
    have st1 := stH.out w1 hBB
    rw [hz] at st1
    have st1H := Lib.hid st1
    clear st1
    go_wp2_with fail
    refine st1H.out.mono ?_
    rintro e w2 ⟨rfl, rfl⟩
    go_wp2_with fail
    refine (aw.out _ (bcall hBB (below1 _ _))).mono ?_
    rintro e w2 ⟨rfl, hb2⟩
    go_wp2_with fail
    go_ret
    exact ⟨rfl, hb2⟩
  | true =>
  have hic := invE_cases a b d
  obtain ⟨⟨V, F⟩, hN⟩ : ∃ x, invE a b d = x := ⟨_, rfl⟩
  rw [hN] at hic
  simp only [hN] at n1H
  rcases hic with hF | ⟨hv, ho, hVF⟩
  · have hF' : (F != 0) = true := by simpa using hF
    clear hF hN
    go_enter Tryz.func7, Tryz.ntmps7
    go_wp2_with fail
    try rw [hW]
    go_wp2_with fail
    refine smH.out.mono ?_
    rintro e w1 ⟨rfl, hb1⟩
    have hBB := bcall hBH.out hb1
    have st1 := stH.out w1 hBB
    rw [hz] at st1
    have st1H := Lib.hid st1
    have hb2 := bcall hb1 (below1 w1 (.cells #[.slice a4 t.length c4] 41))
    obtain ⟨hb3, p0, p1, p2⟩ := QH.out _ hb2
    have cc := Lib.hid (n1H.out _ hb3)
    clear st1 hb2 hb3 hBB hW
    go_wp2_with fail
    refine st1H.out.mono ?_
    rintro e w2 ⟨rfl, rfl⟩
    go_wp2_with fail
    refine cc.out.mono ?_
    rintro e w3 ⟨aI, cI, rfl, hI, hb3⟩
    have ca := Lib.hid (aw.out _ (bcall (bcall (bcall hBH.out hb1) (below1 w1 _)) hb3))
    clear hI hb3 cc
    go_wp2_with fail
    refine ca.out.mono ?_
    rintro e w4 ⟨rfl, hb4⟩
    go_wp2_with fail
    go_ret
    exact ⟨rfl, hb4⟩
  -- there is an inverse
  obtain ⟨E, hE⟩ : ∃ E, invD d b.length d.length = E := ⟨_, rfl⟩
  have e1 := inv_valid hv ho
  have e2 := inv_one hv ho
  have e3 := inv_inv hv ho
  have e4 := inv_comp hv ho
  have e5 := fun (ht : okT a t = true) => back_carry hv ho ht
  have e6 := fun (ht : okT a t = true) => (carT_ok hv t.length ht (Nat.le_refl _)).1
  rw [hE] at e1 e2 e3 e4 hVF
  simp only [hE] at e5
  obtain ⟨rfl, rfl⟩ : V = E ∧ F = 0 := by
    injection hVF with x1 x2
    exact ⟨x1, x2⟩
  have r1 : invE b a V = (d, 0) := by unfold invE; rw [if_pos e1, if_pos e2, e3]
  have r2 : cmpE a b a d V = (itsD a a.length, 0) := by unfold cmpE; rw [hv, e1, Bool.and_self, if_pos rfl, e4]
  have r3 : itsE a = (itsD a a.length, 0) := by unfold itsE; rw [if_pos (validD_parts hv).1]
  have r4 := fun (ht : okT a t = true) => show crdE b a V (carT a d t) = (t, 0) by unfold crdE; rw [e1, e6 ht, Bool.and_self, if_pos rfl, e5 ht]
  have hea := valid_args e1
  have n2 := fun W' (hb : Below w.heap.size w W') aI cI (hI : WaysL (fun _ => True) W' aI cI V) => Inverse_any a2 a1 aI c2 c1 cI b a V W' (h2H.out.below hb) (h1H.out.below hb) hI hea
  have n3 := fun W' (hb : Below w.heap.size w W') aI cI (hI : WaysL (fun _ => True) W' aI cI V) => Composed_any a1 a2 a1 a3 aI c1 c2 c1 c3 cI a b a d V W' (h1H.out.below hb) (h2H.out.below hb) (h1H.out.below hb) (h3H.out.below hb) hI hdaH.out hea
  have n4 := fun W' (hb : Below w.heap.size w W') => Itself_any a1 c1 a W' (h1H.out.below hb)
  have n5 := fun W' (hb : Below w.heap.size w W') aI cI (hI : WaysL (fun _ => True) W' aI cI V) S5 aU cU (u : List Int) (hU : Ints S5 W' aU cU u) => Carried_any a2 a1 aI aU c2 c1 cI cU b a V u W' (h2H.out.below hb) (h1H.out.below hb) hI hU hea
  obtain ⟨I, hI0⟩ : ∃ I, itsD a a.length = I := ⟨_, rfl⟩
  rw [hI0] at r2 r3
  simp only [r1] at n2
  simp only [r2] at n3
  simp only [r3] at n4
  have n2H := Lib.hid n2
  have n3H := Lib.hid n3
  have n4H := Lib.hid n4
  have n5H := Lib.hid n5
  have r4H := Lib.hid r4
  have hkc := Lib.hid (crdE_cases a b d t)
  clear hv ho hVF hE e1 e2 e3 e4 e5 e6 r1 r2 r3 r4 hea n2 n3 n4 n5 hN hI0
  go_enter Tryz.func7, Tryz.ntmps7
  go_wp2_with fail
  try rw [hW]
  go_wp2_with fail
  refine smH.out.mono ?_
  rintro e w1 ⟨rfl, hb1⟩
  have hBB := bcall hBH.out hb1
  have st1 := stH.out w1 hBB
  obtain ⟨W2, hW2⟩ : ∃ W2, w1.alloc (.cells #[.slice a4 t.length c4] 41) = W2 := ⟨_, rfl⟩
  rw [hz, hW2] at st1
  have st1H := Lib.hid st1
  have hb2 := bcall hb1 (below1 w1 (.cells #[.slice a4 t.length c4] 41))
  rw [hW2] at hb2
  obtain ⟨hb3, p0, p1, p2⟩ := QH.out _ hb2
  have cc := Lib.hid (n1H.out _ hb3)
  have hb2H := Lib.hid hb2
  clear st1 hb2 hb3 hBB hW hb1 hz
  go_wp2_with fail
  refine st1H.out.mono ?_
  rintro e w2 ⟨rfl, rfl⟩
  clear st1H smH hW2
  go_wp2_with fail
  refine cc.out.mono ?_
  rintro e w3 ⟨aI, cI, rfl, hI, hb3⟩
  have hb3B := bcall hb2H.out hb3
  obtain ⟨hb4, p0, p1, p2⟩ := QH.out _ hb3B
  have cc2 := Lib.hid (n2H.out _ hb4 aI cI hI)
  have hIH := Lib.hid hI
  have hb3H := Lib.hid hb3B
  have mI := hI.le
  clear hI hb3 hb3B hb4 cc n1H n2H hb2H
  go_wp2_with fail
  refine cc2.out.mono ?_
  rintro e w4 ⟨aB, cB, rfl, hBk, hb4⟩
  have hb4B := bcall hb3H.out hb4
  obtain ⟨hb5, p0, p1, p2⟩ := QH.out _ hb4B
  have cc3 := Lib.hid (n3H.out _ hb5 aI cI (hIH.out.below hb4))
  have hI4 := Lib.hid (hIH.out.below hb4)
  have hBkH := Lib.hid hBk
  have hb4H := Lib.hid hb4B
  clear hBk hb4 hb4B hb5 cc2 n3H hb3H hIH
  go_wp2_with fail
  refine cc3.out.mono ?_
  rintro e w5 ⟨aO, cO, rfl, hO, hb5⟩
  have hb5B := bcall hb4H.out hb5
  obtain ⟨hb6, p0, p1, p2⟩ := QH.out _ hb5B
  have cc4 := Lib.hid (n4H.out _ hb6)
  have hI5 := Lib.hid (hI4.out.below hb5)
  have hBk5 := Lib.hid (hBkH.out.below hb5)
  have hOH := Lib.hid hO
  have hb5H := Lib.hid hb5B
  clear hO hb5 hb5B hb6 cc3 n4H hb4H hI4 hBkH
  go_wp2_with fail
  refine cc4.out.mono ?_
  rintro e w6 ⟨aS, cS, rfl, hS, hb6⟩
  have hb6B := bcall hb5H.out hb6
  obtain ⟨hb7, p0, p1, p2⟩ := QH.out _ hb6B
  have sB := rSame3_any aB a3 cB c3 d d w6 (hBk5.out.below hb6) (h3H.out.below hb7)
  rw [decide_eq_true rfl] at sB
  have sBH := Lib.hid sB
  have sO := fun W' (hb : Below w6.heap.size w6 W') => rSame3_any aO aS cO cS I I W' ((hOH.out.below hb6).below hb) (hS.below hb)
  simp only [decide_true] at sO
  have sOH := Lib.hid sO
  have hI6 := Lib.hid (hI5.out.below hb6)
  have hb6H := Lib.hid hb6B
  have mO := hS.le
  clear hS hb6 hb6B hb7 cc4 hb5H hI5 hBk5 hOH sB sO
  go_wp2_with fail
  refine sBH.out.mono ?_
  rintro e w7 ⟨rfl, hd7⟩
  have hb7 := hd7.below w6.heap.size
  have cO2 := Lib.hid (sOH.out _ hb7)
  have hb7H := Lib.hid hb7
  clear hd7 hb7 sBH sOH
  go_wp2_with fail
  refine cO2.out.mono ?_
  rintro e w8 ⟨rfl, hd8⟩
  have hb8 := bcall hb7H.out (hd8.below _)
  have hb8B := bcall hb6H.out hb8
  obtain ⟨hb9, p0, p1, p2⟩ := QH.out _ hb8B
  have ck := k1H.out _ hb9
  have hI8 := Lib.hid (hI6.out.below hb8)
  have hb8H := Lib.hid hb8B
  have hb9H := Lib.hid hb9
  clear hd8 hb8 hb8B hb9 hb7H hb6H hI6 cO2
  rcases hkc.out with hF | ⟨hv, ht, hVF⟩
  · obtain ⟨⟨U, G⟩, hU⟩ : ∃ x, crdE a b d t = x := ⟨_, rfl⟩
    rw [hU] at hF ck
    have hF' : (G != 0) = true := by simpa using hF
    have ckH := Lib.hid ck
    clear ck hF hU
    go_wp2_with fail
    refine ckH.out.mono ?_
    rintro e w9 ⟨aU, cU, rfl, hU, hb9⟩
    have ca := Lib.hid (aw.out _ (bcall hb9H.out hb9))
    clear hU hb9 ckH
    go_wp2_with fail
    refine ca.out.mono ?_
    rintro e w10 ⟨rfl, hb10⟩
    go_wp2_with fail
    go_ret
    exact ⟨rfl, hb10⟩
  · rw [hVF] at ck
    have r4 := r4H.out ht
    obtain ⟨U, hU⟩ : ∃ U, carT a d t = U := ⟨_, rfl⟩
    rw [hU] at ck r4
    have ckH := Lib.hid ck
    have r4K := Lib.hid r4
    clear ck hv ht hVF hU r4
    go_wp2_with fail
    refine ckH.out.mono ?_
    rintro e w9 ⟨aU, cU, rfl, hU, hb9⟩
    have hb9B := bcall hb8H.out hb9
    obtain ⟨hb10, p0, p1, p2⟩ := QH.out _ hb9B
    have c5 := n5H.out _ hb10 aI cI (hI8.out.below hb9) _ aU cU U hU
    rw [r4K.out] at c5
    have c5H := Lib.hid c5
    have hb9H2 := Lib.hid hb9B
    have mU := hU.le
    clear hU hb9 hb9B hb10 ckH c5 r4K hb8H hb9H hI8
    go_wp2_with fail
    refine c5H.out.mono ?_
    rintro e w10 ⟨aX, cX, rfl, hX, hb10⟩
    have hb10B := bcall hb9H2.out hb10
    obtain ⟨hb11, -, -, -⟩ := QH.out _ hb10B
    have sT := Same_any aX a4 cX c4 t t w10 hX (h4H.out.below hb11)
    rw [decide_eq_true rfl] at sT
    have sTH := Lib.hid sT
    have hb11H := Lib.hid hb11
    clear hX hb10 hb10B hb11 c5H hb9H2 sT
    go_wp2_with fail
    refine sTH.out.mono ?_
    rintro e w11 ⟨rfl, hd11⟩
    have ca := Lib.hid (aw.out _ (bcall hb11H.out (hd11.below _)))
    clear hd11 sTH
    go_wp2_with fail
    refine ca.out.mono ?_
    rintro e w12 ⟨rfl, hb12⟩
    go_wp2_with fail
    go_ret
    exact ⟨rfl, hb12⟩
end Go.Proofs.YtfjodhgbbefkjaaGreatDoor

/- Facts of the program's types that the rows over the tongues want. -/
namespace Go.Proofs.YtfjodhgbbefkjaaGreatDoor
open Go Go.RowKit Go.ChangeShapes Go.WideShapes Go.ChangeAt Go.Deep

theorem gWay : Gives Tryz.prog 78 wayE := gives_pair Tryz.underlying78 rfl rfl (by kernel_rfl) (by kernel_rfl) (by kernel_rfl) gInt gInts
theorem gWays : Gives Tryz.prog 26 (slE wayE) := gives_slice Tryz.underlying26 (by kernel_rfl) gWay
theorem gTrade : Gives Tryz.prog 34 (pairE (slE symE) (pairE (slE symE) (slE wayE))) := gives3 Tryz.underlying34 rfl rfl rfl (by kernel_rfl) (by kernel_rfl) (by kernel_rfl) (by kernel_rfl) gSign gSign gWays
end Go.Proofs.YtfjodhgbbefkjaaGreatDoor

/- The card of TongueBack: for every input TongueBack returns true and leaves its arguments as they were; the listed variables are tied to the program's text. No condition. -/
namespace Go.Proofs.YtfjodhgbbefkjaaGreatDoor
open Go Go.RowKit Go.ChangeShapes Go.WideShapes Go.ChangeAt

theorem tongueBack_door (os : Os) (args : Array Value) : laidMetH Tryz.prog Rows.tongueBackRow.laid ((World.doorLaid Tryz.prog 400 os).forCall (fun _ _ => 0) ⟨#[], args, []⟩).memory :=
  laidMetH_of_parts3 (fuel := 8) (laidMet_of_run' 8 (by kernel_rfl) (by kernel_rfl)) (by kernel_rfl) (by kernel_rfl)
set_option maxRecDepth 100000 in
theorem tongueBack_lifted (os : Os) (started : os.Started) (H : Type) (enc : TypeId × Value → H) :
    ReturnsInHanded {} Tryz.checked os 7 .any (fun w args => (Rows.tongueBackSpec.pre enc Tryz.prog Tryz.f7 [] false w args ∧ laidMetH Tryz.prog Rows.tongueBackRow.laid w) ∧ sizedMet enc Tryz.prog Tryz.f7 (OpenSpec.ofChange Rows.tongueBackSpec) false w args)
      (Rows.tongueBackSpec.post enc Tryz.prog Tryz.f7 false true false false) := by
  refine returnsInHanded_of_change_and (C := Tryz.checked) (X := fun w _ => laidMetH Tryz.prog Rows.tongueBackRow.laid w) (fun _ _ _ hh h => h.of_heap hh) Tryz.own started (by kernel_rfl) Tryz.func7
    (ChangeSpec.witness_shaped (enc := enc) (C := Tryz.checked) (os := os) (X := fun w _ => laidMetH Tryz.prog Rows.tongueBackRow.laid w) false (World.doorLaid Tryz.prog 400 os) #[.agg #[.slice none 0 0, .slice none 0 0, .slice none 0 0], .slice none 0 0] 8 rfl (World.shaped_of_RefB (by kernel_rfl) (by kernel_rfl)) (by kernel_rfl) (by kernel_rfl) (by kernel_rfl) (tongueBack_door os _)) ?_
  intro W base args ds gs before hval0 hW _ _ hL _
  clear hL
  have hval : ∀ (j : Nat) t v, Tryz.f7.params[j]? = some t → args[j]? = some v → Value.okWide Tryz.prog W .any base t v := hval0
  have hW' := hW
  obtain ⟨p, q, hA0, hV, rfl, hfz, hnd⟩ := hW
  have hA : DataW.TrodAll enc Tryz.prog W 0 (fun _ => true) true Tryz.f7.params.toList args.toList ds p := hA0
  rw [Tryz.params7] at hA hval
  obtain ⟨v0, v1, d0, d1, p0, p1, rfl, rfl, rfl, h0, h1⟩ := trodAll_two hA
  obtain ⟨rfl, rfl⟩ := trodVars_none hV
  clear hA0 hval0
  simp only [List.append_nil] at hW'
  have hlt : ∀ x ∈ p0 ++ p1, x.block < W.heap.size := fun x hx => hW'.lt x (by simpa using hx)
  have keep0 := fun (W' : World) (hn : Below W.heap.size W W') => Below.trod Tryz.laidOut (by kernel_rfl) (of_decide_eq_true (by kernel_rfl)) h0 hn (fun x hx => hlt x (by simp [hx]))
  have keep1 := fun (W' : World) (hn : Below W.heap.size W W') => Below.trod Tryz.laidOut (by kernel_rfl) (of_decide_eq_true (by kernel_rfl)) h1 hn (fun x hx => hlt x (by simp [hx]))
  obtain ⟨⟨t0, t1, t2⟩, vs, rfl, us, ts, rfl, ⟨a00, c00, rfl, r00⟩, us1, ts1, rfl, ⟨a01, c01, rfl, r01⟩, ⟨a02, c02, rfl, r02⟩⟩ := gTrade.argAgg h0 (let ⟨cs, h, _⟩ := okWide_struct Tryz.underlying34 (hval 0 34 v0 rfl rfl); ⟨cs, h⟩)
  obtain ⟨l1, a1, c1, rfl, r1⟩ := gTerm.arg h1 (okWide_slice Tryz.underlying41 (hval 1 41 v1 rfl rfl))
  refine (TongueBack_walk _ _ _ _ _ _ _ _ _ _ _ _ W r00 r01 r02 r1).mono fun e W' ⟨he, hB⟩ => ?_
  subst he
  exact ⟨_, rfl, _, _, _, [], p0 ++ p1, [], hW', trodAll_mk1 (shut_bool Tryz.underlying4 true), trodAll_mk2 (keep0 _ hB) (keep1 _ hB), rfl, hB.frame _, fun h => by cases h⟩

/-- TongueBack: for every input it returns true, and each argument reads as it did. -/
theorem tongueBack_holds : Rows.TongueBackSaid :=
  OpenClaim.holds_of_wide 7 Tryz.f7 rfl rfl rfl rfl rfl rfl rfl ⟨rfl, rfl, rfl, rfl, rfl⟩ rfl rfl rfl rfl rfl (by kernel_rfl) Tryz.func7 (by kernel_rfl)
    (of_decide_eq_true (by kernel_rfl)) (by unfold Func.isWrapper; first | (rw [if_pos (by decide +kernel)]; kernel_rfl) | (rw [if_neg (by decide +kernel)]; exact ⟨rfl, rfl⟩))
    (fun os started H enc _ => tongueBack_lifted os started H enc)
/-- the card of TongueBack -/
theorem tongueBack_card_holds : Rows.TongueBackCardSaid :=
  Claim7.holds_tied_plain_at .later [] [.data, .data, .data, .sentinel, .sentinel] true Rows.tongueBackCard.stood.harness Rows.tongueBackCard.stood.looks
    tongueBack_holds (fun _ h => by cases h) (by kernel_rfl) (fun _ h => by cases h) tongueBack_row_tie rfl ⟨rfl, rfl⟩ (by kernel_rfl) rfl
    (fun f fn hf hfn => by
      obtain rfl : f = 7 := Option.some.inj ((show Tryz.prog.funcNamed Rows.tongueBackRow.func = some 7 by kernel_rfl).symm.trans hf) |>.symm
      obtain rfl : fn = Tryz.f7 := (Option.some.inj (Tryz.func7.symm.trans hfn)).symm
      exact ⟨by kernel_rfl, fun j t ht => by
        rw [Tryz.params7] at ht
        have hm : t ∈ [34, 41] := by simpa using Array.mem_of_getElem? ht
        have hall : ([34, 41].all fun u => !Tryz.prog.wantsStandIn u) = true := by kernel_rfl
        exact (show Tryz.prog.wantsStandIn t = false by simpa using List.all_eq_true.1 hall t hm)⟩)
    (by kernel_rfl)
end Go.Proofs.YtfjodhgbbefkjaaGreatDoor
