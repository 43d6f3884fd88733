/- The card of TongueValid: for every input TongueValid returns true and leaves its arguments as they were; the listed variables are tied to the program's text. No condition. -/
import Derived.Test.YtfjodhgbbefkjaaGreatDoorWalkM
import Derived.Lib.AppendZeros
import Derived.Test.YtfjodhgbbefkjaaGreatDoorWalkJ
import Derived.Test.YtfjodhgbbefkjaaGreatDoorMsC
import Derived.Test.YtfjodhgbbefkjaaGreatDoorUniStep
import Derived.Deep.LoopGhost
import Derived.Test.YtfjodhgbbefkjaaGreatDoorWalkD
import Derived.Test.YtfjodhgbbefkjaaGreatDoorUSt
import Derived.Test.YtfjodhgbbefkjaaGreatDoorRegion
import Derived.Test.YtfjodhgbbefkjaaGreatDoorWalkG
import Derived.Test.YtfjodhgbbefkjaaGreatDoorBoxList
import Derived.Test.YtfjodhgbbefkjaaGreatDoorBase
import Derived.ProofKit
import Derived.LaidMore
import Derived.OpenShut
import Derived.Stop.Joined
import Derived.Test.YtfjodhgbbefkjaaGreatDoorMsB
import Derived.Test.YtfjodhgbbefkjaaGreatDoorCards
import Derived.Test.YtfjodhgbbefkjaaGreatDoorTie
/- Walks: slices.Grow, slices.Concat, of terms. -/
namespace Go.Proofs.YtfjodhgbbefkjaaGreatDoor
open Go Go.RowKit Go.Maps

theorem wpList_append_run2 {P : Program} {w : World} {ops : Array Oper} {rest : List Oper} {o : Oper} {a : Act} {Q : Exit → Act → World → Prop} (hgd : o.guard = none) (s x : Operand) (t t2 : TypeId)
    (ho : o.op = .call { callee := .builtin .append, args := #[s, x], argTypes := #[t, t2] }) {vs vx : Value} (hs : a.eval s = vs) (hx : a.eval x = vx) {v' : Value} {w' : World}
    (hr : (Builtin.append_ #[t, t2] o.type #[vs, vx]).run P w = .ok v' w') (h : wpList P ops Q rest (a.put o.dst v') w') : wpList P ops Q (o :: rest) a w := by
  refine wpList_plain hgd fun K hK => ?_
  unfold Oper.wp execOp
  simp only [ho, resolve, invoke, builtin, Sem.run_bind, Sem.run_pure, Result.andThen_ok, List.map_toArray, List.map_cons, List.map_nil, hs, hx, hr]
  exact hK _ _ h
theorem infoInt2 : ∃ i, Tryz.prog.info? 3 = some i ∧ i.zero = some (.int .i64 0) ∧ i.size = 1 ∧ i.bytes = 8 := by
  obtain ⟨i, h, h1, h2, h3⟩ := info_parts infoInt
  exact ⟨i, h, h1, h2, h3⟩
set_option maxRecDepth 20000 in
set_option maxHeartbeats 1000000 in
theorem Grow_any (n : Nat) (w : World) (hn : n ≤ lim) :
    Calls Tryz.prog 118 #[.slice none 0 0, .int .i64 n] w (retOwn w []) := by
  unfold lim at hn
  by_cases h0 : n = 0
  · subst h0
    go_enter Tryz.func118, Tryz.ntmps118
    go_wp2_with fail
    go_ret
    exact ⟨_, rfl, .nil _ _ _ _ _, .refl _ _⟩
  · obtain ⟨i, hi, hz, hsz, hby⟩ := infoInt2
    have hrun := Lib.run_append_nil_zeros (P := Tryz.prog) w 41 3 41 3 i (.int .i64 0) .i64 .i64 Tryz.underlying41 Tryz.underlying3 hi hz n (by omega) (by omega) (by omega) (by rw [hby]; omega)
    obtain ⟨cap, hcap⟩ : ∃ cap, grownCap w n 0 3 = cap := ⟨_, rfl⟩
    have hc1 := grownCap_ge w n 0 3
    have hc2 := grownCap_le_maxLen w n 0 3 (by unfold maxLen; omega)
    rw [hcap] at hrun hc1 hc2
    unfold maxLen at hc2
    have hz1 : ∀ k, (Builtin.zeroCells (Value.cells (.int .i64 0)) k).size = k := fun k => by simp [Builtin.zeroCells, Value.cells]
    obtain ⟨cs, hcs⟩ : ∃ cs, Builtin.zeroCells (Value.cells (.int .i64 0)) n ++ Builtin.zeroCells (Value.cells (.int .i64 0)) (cap - n) = cs := ⟨_, rfl⟩
    have hcn : cs.size = cap * 1 := by rw [← hcs, Array.size_append, hz1, hz1]; omega
    rw [hcs] at hrun
    have ho : OwnI (w.drew.alloc (.cells cs 3)) w.heap.size (.slice (some ⟨w.heap.size, 0, none⟩) 0 cap) [] :=
      ⟨[], World.ownsRow_made w.drew cs cap (Nat.le_refl _) (by unfold maxLen; omega) hcn, rfl, fun i h => by simp at h⟩
    have hB : Below w.heap.size w (w.drew.alloc (.cells cs 3)) := (Below.refl _ _).drew.alloc (Nat.le_refl _) _
    have hrunH := Lib.hid hrun
    have hoH := Lib.hid ho
    have hBH := Lib.hid hB
    clear hrun ho hB hcs hcap hz1 hi hz hsz hby hcn
    go_enter Tryz.func118, Tryz.ntmps118
    go_wp2_with (at_builtin; refine wpList_append_run2 rfl (.tmp 20) (.tmp 21) _ _ rfl rfl rfl hrunH.out ?_)
    go_ret
    exact ⟨_, rfl, hoH.out, hBH.out⟩

theorem ints_append {S2 : Nat → Prop} {w : World} {base : Nat} {v : Value} {l l2 : List Int} {a : Option Addr} {c : Nat} (ho : OwnI w base v l) (h2 : Ints S2 w a c l2) (hl : l.length + l2.length ≤ 10000000) (hb : base ≤ w.heap.size) :
    ∃ v' w', RowKit.Hid ((Builtin.append_ #[41, 41] 41 #[v, .slice a l2.length c]).run Tryz.prog w = .ok v' w') ∧ RowKit.Hid (OwnI w' base v' (l ++ l2)) ∧ RowKit.Hid (Below base w w') := by
  obtain ⟨v', w', hrun, ho', hg, -, -⟩ := ho.append_run (P := Tryz.prog) (t := 41) (ty := 41) Tryz.underlying41 infoInt rfl h2 (fun _ _ _ h => h) (by omega) (by unfold big; omega) hb
  exact ⟨v', w', Lib.hid hrun, Lib.hid ho', Lib.hid ((Below.refl _ _).grown hg hb (fun k e => (ho.lt k e).1))⟩

def cat1Rel (L : List (List Int)) (w : World) (size i : Value) (wr : World) : Prop := ∃ k : Nat, i = .int .i64 k ∧ k ≤ L.length ∧ size = .int .i64 ((L.take k).flatten.length : Nat) ∧ wr = w
def cat2Rel (L : List (List Int)) (w : World) (out i : Value) (wr : World) : Prop := ∃ k : Nat, i = .int .i64 k ∧ k ≤ L.length ∧ OwnI wr w.heap.size out (L.take k).flatten ∧ Below w.heap.size w wr
theorem flat_take_le {L : List (List Int)} {q : Nat} : (L.take q).flatten.length ≤ L.flatten.length := by
  have : L.flatten.length = (L.take q).flatten.length + (L.drop q).flatten.length := by rw [← List.length_append, ← List.flatten_append, List.take_append_drop]
  omega
theorem flat_take_succ {L : List (List Int)} {q : Nat} (h : q < L.length) : (L.take (q + 1)).flatten = (L.take q).flatten ++ L[q] := by
  rw [List.take_succ_eq_append_getElem h, List.flatten_append]; simp
set_option maxHeartbeats 2000000 in
theorem Concat_any {S : Nat → Prop} (a : Option Addr) (c : Nat) (L : List (List Int)) (w : World) (h : Terms S w a c L) (hl : L.flatten.length ≤ lim) :
    Calls Tryz.prog 84 #[.slice a L.length c] w (retOwn w L.flatten) := by
  have m := h.le
  unfold lim at hl
  go_enter Tryz.func84, Tryz.ntmps84
  go_wp2_with fail
  go_loopw [3, 11] (fun size i wr => cat1Rel L w size i wr) (fun _ i _ => L.length - (intOf i).toNat)
  case atStart => exact ⟨0, rfl, Nat.zero_le _, rfl, rfl⟩
  case round =>
    obtain ⟨k, rfl, hk, rfl, rfl⟩ := hrel
    by_cases hlt : k < L.length
    · obtain ⟨b, o, a', c', rfl, -, q, -⟩ := h.sub k hlt
      have hs := congrArg List.length (flat_take_succ hlt)
      rw [List.length_append] at hs
      have hle := flat_take_le (L := L) (q := k + 1)
      obtain ⟨M, hM⟩ : ∃ M : Nat, (L.take k).flatten.length = M := ⟨_, rfl⟩
      rw [hM] at hs ⊢
      rw [hs] at hle
      have hsH := Lib.hid hs
      clear hs hM h
      go_wp2_with fail
      go_roundw
      case rel => exact ⟨k + 1, by go_num, by omega, by rw [hsH.out]; go_num, rfl⟩
      case measure => simp [intOf]; omega
    · have hkn : L.take k = L := List.take_of_length_le (by omega)
      rw [hkn]
      obtain ⟨N, hN⟩ : ∃ N : Nat, L.flatten.length = N := ⟨_, rfl⟩
      rw [hN]
      have cg := Grow_any N wr (by unfold lim; omega)
      have cgH := Lib.hid cg
      clear cg hkn hN
      go_wp2_with (go_at_call 118; refine cgH.out.mono ?_; rintro e w1 ⟨v, rfl, ho, hb⟩; have hoH := Lib.hid ho; have hbH := Lib.hid hb; clear ho hb)
      go_loopw [6, 27] (fun out i wr2 => cat2Rel L wr out i wr2) (fun _ i _ => L.length - (intOf i).toNat)
      case atStart => exact ⟨0, rfl, Nat.zero_le _, hoH.out, hbH.out⟩
      case round =>
        obtain ⟨k, rfl, hk, ho, hB⟩ := hrel
        by_cases hlt : k < L.length
        · obtain ⟨b, o, a', c', rfl, -, q, hI⟩ := h.sub k hlt
          have q' := (hB.cell (p := ⟨b, o + k, none⟩) (World.block_lt_of_cell? _ _ q)).trans q
          have hs := flat_take_succ hlt
          have hle := flat_take_le (L := L) (q := k + 1)
          rw [hs, List.length_append] at hle
          obtain ⟨v', w', hrunH, ho', hb'⟩ := ints_append ho (hI.below hB) (by omega) hB.size
          have hsH := Lib.hid hs
          have hBH := Lib.hid (hB.trans hb'.out)
          clear hs ho hI hB h q hb'
          go_wp2_with (at_builtin; refine wpList_append_run rfl _ _ _ rfl rfl rfl hrunH.out ?_)
          go_roundw
          case rel => exact ⟨k + 1, by go_num, by omega, by rw [hsH.out]; exact ho'.out, hBH.out⟩
          case measure => simp [intOf]; omega
        · have hkn : L.take k = L := List.take_of_length_le (by omega)
          rw [hkn] at ho
          have hoH := Lib.hid ho
          have hBH := Lib.hid hB
          clear ho hB hkn h
          go_wp2_with fail
          go_ret
          exact ⟨_, rfl, hoH.out, hBH.out⟩
end Go.Proofs.YtfjodhgbbefkjaaGreatDoor

/- Walks: Built, of both. -/
namespace Go.Proofs.YtfjodhgbbefkjaaGreatDoor
open Go Go.RowKit Go.Maps

theorem Drew.trans {a b c : World} (h : Drew a b) (h2 : Drew b c) : Drew a c := by obtain ⟨n, rfl⟩ := h2; exact drew_more h n
def idxTPost (s : Sg) (L : List (List Int)) (w : World) (e : Ending) (w' : World) : Prop := ∃ n : Int, e = .returned (.int .i64 n) ∧ -1 ≤ n ∧ decide (0 ≤ n) = !(L.all (okT s)) ∧ Below w.heap.size w w'
def builtE (s : Sg) (y : Int) (L : List (List Int)) : List Int × Int :=
  if okSign s = true ∧ L.all (okT s) = true then
    (if 0 ≤ y ∧ y < s.length then (if (L.length : Int) = (s.getD y.toNat default).2 then (if 1 + L.flatten.length ≤ 60 then (y :: L.flatten, 0) else ([], 4)) else ([], 9)) else ([], 5))
  else ([], 1)
theorem builtE_1 {s : Sg} {y : Int} {L : List (List Int)} (h : ¬ (okSign s = true ∧ L.all (okT s) = true)) : builtE s y L = ([], 1) := by rw [builtE, if_neg h]
theorem builtE_5 {s : Sg} {y : Int} {L : List (List Int)} (h : okSign s = true ∧ L.all (okT s) = true) (h1 : ¬ (0 ≤ y ∧ y < s.length)) : builtE s y L = ([], 5) := by rw [builtE, if_pos h, if_neg h1]
theorem builtE_9 {s : Sg} {y : Int} {L : List (List Int)} (h : okSign s = true ∧ L.all (okT s) = true) (h1 : 0 ≤ y ∧ y < s.length) (h2 : ¬ (L.length : Int) = (s.getD y.toNat default).2) : builtE s y L = ([], 9) := by rw [builtE, if_pos h, if_pos h1, if_neg h2]
theorem builtE_4 {s : Sg} {y : Int} {L : List (List Int)} (h : okSign s = true ∧ L.all (okT s) = true) (h1 : 0 ≤ y ∧ y < s.length) (h2 : (L.length : Int) = (s.getD y.toNat default).2) (h3 : ¬ (1 + L.flatten.length ≤ 60)) : builtE s y L = ([], 4) := by rw [builtE, if_pos h, if_pos h1, if_pos h2, if_neg h3]
theorem builtE_0 {s : Sg} {y : Int} {L : List (List Int)} (h : okSign s = true ∧ L.all (okT s) = true) (h1 : 0 ≤ y ∧ y < s.length) (h2 : (L.length : Int) = (s.getD y.toNat default).2) (h3 : 1 + L.flatten.length ≤ 60) : builtE s y L = (y :: L.flatten, 0) := by rw [builtE, if_pos h, if_pos h1, if_pos h2, if_pos h3]
theorem rbelow {W W' : World} {l : List Int × Int} {e : Ending} (h : retE l W e W') : Below W.heap.size W W' := by obtain ⟨_, _, _, h⟩ := h; exact h

def brRel (y : Int) (L : List (List Int)) (w : World) (B : Nat) (out i : Value) (wr : World) : Prop := ∃ k : Nat, i = .int .i64 k ∧ k ≤ L.length ∧ OwnI wr B out (y :: (L.take k).flatten) ∧ Below B w wr
end Go.Proofs.YtfjodhgbbefkjaaGreatDoor

/- Walks: Built. -/
namespace Go.Proofs.YtfjodhgbbefkjaaGreatDoor
open Go Go.RowKit Go.Maps

theorem OwnTs.lit1 {w : World} {a : Option Addr} {c : Nat} {u : List Int} {T : Nat → Prop} (h : Ints T w a c u) :
    OwnTs (fun _ => True) (w.alloc (.cells #[.slice a u.length c] 41)) w.heap.size (.slice (some ⟨w.heap.size, 0, none⟩) 1 1) [u] := by
  have hr := World.ownsRow_lit (base := w.heap.size) (e := 41) (size := 1) w #[.slice a u.length c] 1 (Nat.le_refl _) (by unfold maxLen; omega) (by simp)
  refine ⟨[[.slice a u.length c]], hr, rfl, fun i h1 h2 => ?_⟩
  match i, h1 with
  | 0, _ => exact ⟨a, c, rfl, (h.lt.weak (S' := Off (fun _ => True) (.slice (some ⟨w.heap.size, 0, none⟩) 1 1)) (fun b hb => ⟨trivial, fun e => by simp [Value.ownBlock] at e; omega⟩)).below (below1 _ _)⟩

theorem lit_append {S2 : Nat → Prop} {w w2 : World} {a2 : Option Addr} {c2 : Nat} {L : List (List Int)} (n : Int) (hn : inRange n) (h2 : Terms S2 w a2 c2 L) (hB : Below w.heap.size w w2) (hl : L.length ≤ 1000000) :
    ∃ a c w', RowKit.Hid ((Builtin.append_ #[68, 68] 68 #[.slice (some ⟨w2.heap.size + 1, 0, none⟩) 1 1, .slice a2 L.length c2]).run Tryz.prog ((w2.alloc (.cells #[.int .i64 n] 3)).alloc (.cells #[.slice (some ⟨w2.heap.size, 0, none⟩) 1 1] 41)) = .ok (.slice a (L.length + 1) c) w') ∧
      RowKit.Hid (Terms (fun _ => True) w' a c ([n] :: L)) ∧ RowKit.Hid (Below w2.heap.size w2 w') := by
  have hI : Ints (fun _ => True) (w2.alloc (.cells #[.int .i64 n] 3)) (some ⟨w2.heap.size, 0, none⟩) 1 [n] := by
    have := OwnL.lit (S := fun _ => False) w2 [n] 3 (by simpa using hn) (by unfold maxLen; simp)
    obtain ⟨a, c, he, hI⟩ := OwnI.ints this
    simp at he
    obtain ⟨rfl, rfl⟩ := he
    exact hI.any
  have ho := OwnTs.lit1 hI
  simp only [World.size_alloc] at ho
  have hB' : Below w.heap.size w ((w2.alloc (.cells #[.int .i64 n] 3)).alloc (.cells #[.slice (some ⟨w2.heap.size, 0, none⟩) 1 1] 41)) := hB.trans ((below2 _ _ _).mono hB.size)
  obtain ⟨v', w', hrun, ho', hg, -, -⟩ := ho.append_run (P := Tryz.prog) (t := 68) (ty := 68) Tryz.underlying68 infoTerm rfl (h2.lt.below hB') (fun i hi vs h => (slE intE).mono h (fun b _ hb => ⟨trivial, fun e => by have := hB.size; simp [Value.ownBlock] at e; omega⟩) (.refl _ _)) (by simp; omega) (by unfold big; simp; omega) (by simp)
  have hBn := (below2 w2 (.cells #[.int .i64 n] 3) (.cells #[.slice (some ⟨w2.heap.size, 0, none⟩) 1 1] 41)).grown hg (by simp; omega) (fun k e => by simp [Value.ownBlock] at e; omega)
  obtain ⟨a, c, rfl, hT⟩ := ho'.sl
  refine ⟨a, c, w', Lib.hid ?_, Lib.hid hT.any, Lib.hid hBn⟩
  simpa [Nat.add_comm] using hrun

end Go.Proofs.YtfjodhgbbefkjaaGreatDoor

/- Walks of package unify: a solver in the world; look. -/
namespace Go.Proofs.YtfjodhgbbefkjaaGreatDoor
open Go Go.RowKit Go.Maps

/-- looked up in k steps -/
def LkdN (B : Bd) (p : List Int) : Nat → List Int → Prop
  | 0, t => t = p ∧ ∀ n r, t = n :: r → n < 0 → B n = none
  | k + 1, t => ∃ n r u, t = n :: r ∧ n < 0 ∧ B n = some u ∧ LkdN B p k u
theorem Lkd.num {B : Bd} {t p : List Int} (h : Lkd B t p) : ∃ k, LkdN B p k t := by
  induction h with
  | stop h => exact ⟨0, rfl, h⟩
  | go hn hB _ ih => obtain ⟨k, hk⟩ := ih; exact ⟨k + 1, _, _, _, rfl, hn, hB, hk⟩

/-- the solver's own data: the sign and the map of what is bound -/
structure SolvW (w0 w : World) (xb mb n : Nat) (a1 : Option Addr) (c1 : Nat) (s : Sg) (B : Bd) : Prop where
  k0 : w.cell? ⟨xb, 0, none⟩ = some (.slice a1 s.length c1)
  k1 : w.cell? ⟨xb, 1, none⟩ = some (.map (some mb))
  map : BdMap w0 w mb n B
  bx : w0.heap.size ≤ xb
  bm : w0.heap.size ≤ mb
  ne : xb ≠ mb
  sg : Sign (fun b => b < w0.heap.size) w0 a1 c1 s
  bel : Below w0.heap.size w0 w
  wf : ∀ n u, B n = some u → W1 s u
theorem SolvW.lt {w0 w : World} {xb mb n : Nat} {a1 : Option Addr} {c1 : Nat} {s : Sg} {B : Bd} (h : SolvW w0 w xb mb n a1 c1 s B) : xb < w.heap.size := World.block_lt_of_cell? _ _ h.k0
theorem SolvW.below {w0 w w' : World} {xb mb n : Nat} {a1 : Option Addr} {c1 : Nat} {s : Sg} {B : Bd} (h : SolvW w0 w xb mb n a1 c1 s B) (hb : Below w.heap.size w w') : SolvW w0 w' xb mb n a1 c1 s B :=
  ⟨cell_later hb h.k0, cell_later hb h.k1, h.map.below hb h.map.lt, h.bx, h.bm, h.ne, h.sg, bcall h.bel hb, h.wf⟩

abbrev T0 (w0 : World) (a : Option Addr) (c : Nat) (t : List Int) : Prop := Ints (fun b => b < w0.heap.size) w0 a c t
/-- looked up in k steps, with where it lies -/
def LkF (w0 : World) (f : Int → Option Value) (B : Bd) (p : List Int) (a' : Option Addr) (c' : Nat) : Nat → Option Addr → Nat → List Int → Prop
  | 0, a, c, t => (t = p ∧ a = a' ∧ c = c') ∧ ∀ n r, t = n :: r → n < 0 → B n = none
  | k + 1, _, _, t => ∃ n r u a3 c3, t = n :: r ∧ n < 0 ∧ B n = some u ∧ f n = some (.slice a3 u.length c3) ∧ T0 w0 a3 c3 u ∧ LkF w0 f B p a' c' k a3 c3 u
theorem LkF.ex {w0 : World} {f : Int → Option Value} {B : Bd} {p : List Int} (h3 : ∀ x u, B x = some u → ∃ a c, f x = some (.slice a u.length c) ∧ T0 w0 a c u) :
    ∀ (k : Nat) (t : List Int) (a : Option Addr) (c : Nat), T0 w0 a c t → LkdN B p k t → ∃ a' c', LkF w0 f B p a' c' k a c t ∧ T0 w0 a' c' p
  | 0, t, a, c, hT, ⟨h1, h2⟩ => ⟨a, c, ⟨⟨h1, rfl, rfl⟩, h2⟩, h1 ▸ hT⟩
  | k + 1, t, a, c, hT, ⟨n, r, u, h1, h2, hB, h4⟩ => by
    obtain ⟨a3, c3, g1, g2⟩ := h3 n u hB
    obtain ⟨a', c', g3, g4⟩ := LkF.ex h3 k u a3 c3 g2 h4
    exact ⟨a', c', ⟨n, r, u, a3, c3, h1, h2, hB, g1, g2, g3⟩, g4⟩
def lookRel (w0 w : World) (s : Sg) (f : Int → Option Value) (B : Bd) (p : List Int) (a' : Option Addr) (c' : Nat) (k : Nat) (tv : Value) (wr : World) : Prop :=
  ∃ t a c, tv = .slice a (List.length t) c ∧ T0 w0 a c t ∧ W1 s t ∧ LkF w0 f B p a' c' k a c t ∧ Drew w wr
end Go.Proofs.YtfjodhgbbefkjaaGreatDoor

/- Walks of package unify: whether a variable comes. -/
namespace Go.Proofs.YtfjodhgbbefkjaaGreatDoor
open Go Go.RowKit Go.Maps

/-- what was met from M to M' is not v, and all that stands for it was met, too -/
def Mets (B : Bd) (v : Int) (M M' : Bd) : Prop := ∀ m, M m = none → (M' m).isSome = true → m ≠ v ∧ ∀ u, B m = some u → ∀ k ∈ u, k < 0 → (M' k).isSome = true
def Sub (M M' : Bd) : Prop := ∀ m, (M m).isSome = true → (M' m).isSome = true
theorem Sub.refl (M : Bd) : Sub M M := fun _ h => h
theorem Sub.trans {A B C : Bd} (h : Sub A B) (k : Sub B C) : Sub A C := fun m hm => k m (h m hm)
theorem Sub.up {M : Bd} {x : Int} {q : List Int} : Sub M (upB M x q) := fun m hm => by
  unfold upB; split
  · rfl
  · exact hm
theorem upB_same {M : Bd} {x : Int} {q : List Int} : (upB M x q) x = some q := by unfold upB; rw [if_pos rfl]
theorem upB_other {M : Bd} {x m : Int} {q : List Int} (h : m ≠ x) : (upB M x q) m = M m := by unfold upB; rw [if_neg h]
theorem isSome_none {α : Type} {o : Option α} (h : ¬ o.isSome = true) : o = none := by cases o <;> simp_all
theorem Mets.refl (B : Bd) (v : Int) (M : Bd) : Mets B v M M := fun m h1 h2 => by rw [h1] at h2; cases h2
theorem Mets.leaf {B M M1 : Bd} {v x : Int} (h : Mets B v M M1) (hx : x ≠ v) (hB : B x = none) : Mets B v M (upB M1 x []) := fun m h1 h2 => by
  by_cases e : m = x
  · subst e; exact ⟨hx, fun u hu => by rw [hB] at hu; cases hu⟩
  · rw [upB_other e] at h2
    obtain ⟨g1, g2⟩ := h m h1 h2
    exact ⟨g1, fun u hu k hk h0 => Sub.up _ (g2 u hu k hk h0)⟩
theorem Mets.node {B M M1 M2 : Bd} {v x : Int} {u : List Int} (h : Mets B v M M1) (hx : x ≠ v) (hB : B x = some u) (h2 : Mets B v (upB M1 x []) M2) (hs : Sub (upB M1 x []) M2) (hu : ∀ k ∈ u, k < 0 → (M2 k).isSome = true) : Mets B v M M2 := fun m g1 g2 => by
  by_cases e : m = x
  · subst e; exact ⟨hx, fun u' hu' => by rw [hB] at hu'; cases hu'; exact hu⟩
  · by_cases e1 : (M1 m).isSome = true
    · obtain ⟨k1, k2⟩ := h m g1 e1
      exact ⟨k1, fun u' hu' k hk h0 => hs k (Sub.up k (k2 u' hu' k hk h0))⟩
    · exact h2 m (by rw [upB_other e]; exact isSome_none e1) g2
theorem mets_not {s : Sg} {B : Bd} {θ : Int → List Int} {ρ : Int → Nat} (h : Slv s B θ ρ) {v : Int} {M : Bd} (hm : Mets B v (fun _ => none) M) : ∀ (K : Nat) (t : List Int), (∀ n ∈ t, n < 0 → (M n).isSome = true) → (∀ n ∈ t, n < 0 → ρ n < K) → v < 0 → v ∉ ap θ t
  | K, t, h1, h2, hv, hmem => by
    rcases mem_ap.1 hmem with ⟨-, e⟩ | ⟨n, hn, h0, hvn⟩
    · exact e hv
    · obtain ⟨g1, g2⟩ := hm n rfl (h1 n hn h0)
      cases hB : B n with
      | none => rw [h.free n h0 hB, List.mem_singleton] at hvn; exact g1 hvn.symm
      | some u =>
        rw [h.bnd n u hB] at hvn
        cases K with
        | zero => have := h2 n hn h0; omega
        | succ K =>
          exact mets_not h hm K u (g2 u hB) (fun m hm' h0' => by have := h.rk n u hB m hm' h0'; have := h2 n hn h0; omega) hv hvn

/-- the map of what was met -/
def MetW (w : World) (mm n : Nat) (M : Bd) : Prop := ∃ f, VMap KI w mm n f ∧ ∀ x, f x = (M x).map fun _ => .bool true
theorem MetW.made (w : World) : MetW (w.alloc (.map #[] 0)) w.heap.size 0 (fun _ => none) := ⟨_, VMap.made KI w, fun _ => rfl⟩
theorem MetW.lt {w : World} {mm n : Nat} {M : Bd} (h : MetW w mm n M) : mm < w.heap.size := by obtain ⟨f, h1, -⟩ := h; exact h1.lt
theorem MetW.below {w w' : World} {mm n K : Nat} {M : Bd} (h : MetW w mm n M) (hb : Below K w w') (hm : mm < K) : MetW w' mm n M := by
  obtain ⟨f, h1, h2⟩ := h; exact ⟨f, h1.below hb hm, h2⟩
theorem MetW.look {w : World} {mm n : Nat} {M : Bd} (h : MetW w mm n M) (x : Int) (hx : inRange x) :
    (Instr.lookup 128 (.map (some mm)) (.int .i64 x) false).run Tryz.prog w = .ok (.bool (M x).isSome) w := by
  obtain ⟨f, h1, h2⟩ := h
  have := h1.look (tm := 128) (te := 4) Tryz.underlying128 (zBool w) x hx
  rw [h2 x] at this
  cases hM : M x with
  | none => rw [hM] at this; exact this
  | some u => rw [hM] at this; exact this
theorem MetW.store {w : World} {mm n : Nat} {M : Bd} (h : MetW w mm n M) (hn : n < maxLen) (x : Int) (hx : inRange x) (hM : M x = none) :
    ∃ w', RowKit.Hid ((Instr.mapUpdate 128 (.map (some mm)) (.int .i64 x) (.bool true)).run Tryz.prog w = .ok () w') ∧ RowKit.Hid (MetW w' mm (n + 1) (upB M x [])) ∧ RowKit.Hid (w.grownBy w' (some mm)) := by
  obtain ⟨f, h1, h2⟩ := h
  obtain ⟨w', r, hv, hg⟩ := h1.store (tm := 128) (te := 4) Tryz.underlying128 hn x hx (.bool true)
  rw [if_neg (by rw [h2 x, hM]; simp)] at hv
  refine ⟨w', Lib.hid r, Lib.hid ⟨_, hv, fun y => ?_⟩, Lib.hid hg⟩
  unfold upB
  by_cases e : y = x
  · rw [if_pos e, if_pos e]; rfl
  · rw [if_neg e, if_neg e]; exact h2 y
theorem SolvW.grown {w0 w w' : World} {xb mb n k : Nat} {a1 : Option Addr} {c1 : Nat} {s : Sg} {B : Bd} (h : SolvW w0 w xb mb n a1 c1 s B) (hg : w.grownBy w' (some k)) (h1 : k ≠ xb) (h2 : k ≠ mb) (h3 : w0.heap.size ≤ k) : SolvW w0 w' xb mb n a1 c1 s B := by
  have hx : w'.heap[xb]? = w.heap[xb]? := hg.block xb h.lt (fun e => h1 (by injection e with e; exact e.symm))
  obtain ⟨f, m1, m2, m3⟩ := h.map
  exact ⟨(World.cell?_of_block (a := ⟨xb, 0, none⟩) hx).trans h.k0, (World.cell?_of_block (a := ⟨xb, 1, none⟩) hx).trans h.k1, ⟨f, m1.same (hg.block mb m1.lt (fun e => h2 (by injection e with e; exact e.symm))), m2, m3⟩, h.bx, h.bm, h.ne, h.sg,
    h.bel.grown hg h.bel.size (fun j e => by injection e with e; omega), h.wf⟩

theorem MetW.drawn {w : World} {mm n : Nat} {M : Bd} (h : MetW w mm n M) (m : Nat) : MetW (w.drewN m) mm n M := h.below ((Drew.mk w m).below w.heap.size) h.lt
end Go.Proofs.YtfjodhgbbefkjaaGreatDoor

/- Walks of package unify: comes, walked. -/
namespace Go.Proofs.YtfjodhgbbefkjaaGreatDoor
open Go Go.RowKit Go.Maps

def comesRet (B : Bd) (θ : Int → List Int) (v : Int) (t : List Int) (mm : Nat) (M : Bd) (w : World) (e : Ending) (w' : World) : Prop :=
  ∃ (M' : Bd) (n' : Nat) (r : Bool), e = .returned (.bool r) ∧ MetW w' mm n' M' ∧ n' + free M' ≤ 24 ∧ w.grownBy w' (some mm) ∧ Sub M M' ∧ (r = true → v ∈ ap θ t) ∧
    (r = false → (∀ n ∈ t, n < 0 → (M' n).isSome = true) ∧ Mets B v M M')
def comesRel (B : Bd) (v : Int) (t : List Int) (mm : Nat) (M : Bd) (w : World) (jv : Value) (wr : World) : Prop :=
  ∃ (j n : Nat) (M' : Bd), jv = .int .i64 j ∧ j ≤ t.length ∧ MetW wr mm n M' ∧ n + free M' ≤ 24 ∧ w.grownBy wr (some mm) ∧ Sub M M' ∧ (∀ n ∈ t.take j, n < 0 → (M' n).isSome = true) ∧ Mets B v M M'
theorem take_all {t : List Int} {j : Nat} {P : Int → Prop} (h : ∀ n ∈ t.take j, P n) (hj : j < t.length) (hp : P t[j]) : ∀ n ∈ t.take (j + 1), P n := by
  intro n hn
  rw [List.take_succ_eq_append_getElem hj, List.mem_append, List.mem_singleton] at hn
  rcases hn with e | e
  · exact h n e
  · rw [e]; exact hp

theorem grown_by' {w w1 w2 : World} {o : Option Nat} (h : w.grownBy w1 o) (b : w1.grownBy w2 o) : w.grownBy w2 o :=
  ⟨b.os.trans h.os, b.tape.trans h.tape, b.output.trans h.output, Nat.le_trans h.size b.size, fun x hx hne => (b.block x (Nat.lt_of_lt_of_le hx h.size) hne).trans (h.block x hx hne)⟩
theorem free_none : free (fun _ => none) = 24 := by decide
theorem rank_bound (ρ : Int → Nat) : ∀ t : List Int, ∃ K, ∀ m ∈ t, m < 0 → ρ m < K
  | [] => ⟨0, fun _ h => by cases h⟩
  | x :: t => by
    obtain ⟨K, hK⟩ := rank_bound ρ t
    refine ⟨max K (ρ x + 1), fun m hm h0 => ?_⟩
    rcases List.mem_cons.1 hm with e | e
    · subst e; omega
    · have := hK m e h0; omega
end Go.Proofs.YtfjodhgbbefkjaaGreatDoor

/- Walks of package unify: the stack of pairs; where arguments lie; after of a logic; the step of unification. -/
namespace Go.Proofs.YtfjodhgbbefkjaaGreatDoor
open Go Go.RowKit Go.Maps

abbrev prE : Enc (List Int × List Int) := pairE (slE intE) (slE intE)
section
variable {S : Nat → Prop} {w : World} {base g n cap : Nat} {L : Prs}
theorem pr_len {xs : List (List Value)} {T : Nat → Prop} (hl : xs.length = L.length) (hx : ∀ i (h1 : i < xs.length) (h2 : i < L.length), prE.R T w xs[i] L[i]) : ∀ x ∈ xs, x.length = 2 := by
  intro x hxm
  obtain ⟨i, hi, rfl⟩ := List.getElem_of_mem hxm
  exact prE.len (hx i hi (by omega))
end

/-- the places of the arguments -/
def apos (s : Sg) (t : List Int) (m : Nat) : Nat := 1 + ((argsW s t).take m).flatten.length
theorem apos_zero (s : Sg) (t : List Int) : apos s t 0 = 1 := rfl
theorem args_at {s : Sg} {n : Int} {x : List Int} (h : W1 s (n :: x)) {m : Nat} (hm : m < arW s n) (hl : m < (argsW s (n :: x)).length) :
    skw s 1 ((n :: x).drop (apos s (n :: x) m)) = some ((n :: x).drop (apos s (n :: x) (m + 1))) ∧ apos s (n :: x) m < apos s (n :: x) (m + 1) ∧ apos s (n :: x) (m + 1) ≤ (n :: x).length ∧
      ((n :: x).drop (apos s (n :: x) m)).take (apos s (n :: x) (m + 1) - apos s (n :: x) m) = (argsW s (n :: x))[m] := by
  obtain ⟨h1, h2, h3, -⟩ := h.args
  obtain ⟨A, hA⟩ : ∃ A, argsW s (n :: x) = A := ⟨_, rfl⟩
  rw [hA] at h1 h2 h3
  simp only [apos, hA]
  have hd : ∀ k, (n :: x).drop (1 + (A.take k).flatten.length) = (A.drop k).flatten := fun k => by
    rw [Nat.add_comm, List.drop_succ_cons, ← h2]
    conv => lhs; rw [← List.take_append_drop k A]
    rw [List.flatten_append]
    have : ((A.take k ++ A.drop k).take k) = A.take k := by rw [List.take_append_drop]
    rw [this, List.drop_left]
  have ht : (A.take (m + 1)).flatten.length = (A.take m).flatten.length + (A[m]'(by omega)).length := by
    rw [List.take_succ_eq_append_getElem (by omega), List.flatten_append, List.length_append]; simp
  have hdm : (A.drop m).flatten = A[m]'(by omega) ++ (A.drop (m + 1)).flatten := by rw [List.drop_eq_getElem_cons (by omega), List.flatten_cons]
  have hw := h3 _ (List.getElem_mem (by omega : m < A.length))
  have hle : (A.take (m + 1)).flatten.length ≤ x.length := by
    rw [← h2]
    conv => rhs; rw [← List.take_append_drop (m + 1) A]
    rw [List.flatten_append, List.length_append]; omega
  have hwl := hw.len
  refine ⟨?_, by omega, by rw [List.length_cons]; omega, ?_⟩
  · rw [hd, hd, hdm, skw_append s 1 _ _ _ hw]; rfl
  · rw [hd, ht, hdm, show 1 + ((A.take m).flatten.length + (A[m]'(by omega)).length) - (1 + (A.take m).flatten.length) = (A[m]'(by omega)).length by omega, List.take_left]
theorem args_all {s : Sg} {t : List Int} (h : W1 s t) {n : Int} (hn : t.headD 0 = n) : (argsW s t).length = arW s n ∧ n < s.length ∧ ∀ m (hm : m < (argsW s t).length), skw s 1 (t.drop (apos s t m)) = some (t.drop (apos s t (m + 1))) ∧ apos s t m < apos s t (m + 1) ∧ apos s t (m + 1) ≤ t.length ∧
    (t.drop (apos s t m)).take (apos s t (m + 1) - apos s t m) = (argsW s t)[m] := by
  cases t with
  | nil => exact (h.ne rfl).elim
  | cons k x =>
    simp only [List.headD_cons] at hn
    subst hn
    exact ⟨h.args.1, h.args.2.2.2, fun m hm => args_at h (by rw [← h.args.1]; exact hm) hm⟩
theorem drop_len {t : List Int} {k : Nat} (h : k ≤ t.length) : t.length - (t.drop k).length = k := by rw [List.length_drop]; omega

end Go.Proofs.YtfjodhgbbefkjaaGreatDoor

/- Walks of package unify: solve. -/
namespace Go.Proofs.YtfjodhgbbefkjaaGreatDoor
open Go Go.RowKit Go.Maps

theorem T0.back {w0 w : World} (hB : Below w0.heap.size w0 w) {S : Nat → Prop} {a : Option Addr} {c : Nat} {t : List Int} (h : Ints S w a c t) (hS : ∀ b, S b → b < w0.heap.size) : T0 w0 a c t :=
  h.mono (fun b _ hb => hS b hb) (fun b hb _ => (hB.block b (hS b hb)).symm)

def solRet (w0 : World) (xb mb : Nat) (a1 : Option Addr) (c1 : Nat) (s : Sg) (a b : List Int) (e : Ending) (w' : World) : Prop :=
  ∃ r, e = .returned (.bool r) ∧ Below w0.heap.size w0 w' ∧ (r = false → ∀ η, Wsub s η → ap η a ≠ ap η b) ∧
    (r = true → ∃ B θ ρ n, Slv s B θ ρ ∧ RgB B ∧ (∀ η, Wsub s η → (Sat B η ↔ ap η a = ap η b)) ∧ SolvW w0 w' xb mb n a1 c1 s B ∧ ∀ n u, B n = some u → InfT a b u)
section
variable {P : Program} {Q : Exit → Act → World → Prop} {md : Region.Mode} {S : World → Prop} {l : List Oper} {listed : Array Bool} {fuel : Nat} {a : Act} {w : World}
/-- two operations either of which may come up -/
theorem region_2 (i j : Nat) {o o' : Oper} (hi : l[i]? = some o) (hj : l[j]? = some o') (hr : Region.ready md l.toArray listed = [i, j])
    (h : ∀ K' : Act → World → Prop, Shut (∀ a w, S w → (S w → wpAnyH P md l.toArray Q S fuel (listed.setIfInBounds i true) a w) → K' a w) → if Region.wanted o (yielded l.toArray a.tmps) = true then Oper.wp P o a w K' Q else K' (a.put o.dst undef) w)
    (h' : ∀ K' : Act → World → Prop, Shut (∀ a w, S w → (S w → wpAnyH P md l.toArray Q S fuel (listed.setIfInBounds j true) a w) → K' a w) → if Region.wanted o' (yielded l.toArray a.tmps) = true then Oper.wp P o' a w K' Q else K' (a.put o'.dst undef) w) :
    wpAnyH P md l.toArray Q S (fuel + 1) listed a w :=
  wpAnyH_ready hr (by simp) (AllReadyH.cons (by simpa using hi) h (AllReadyH.cons (by simpa using hj) h' AllReadyH.nil))
end
theorem SolvW.keep {w0 w w' : World} {xb mb n K : Nat} {a1 : Option Addr} {c1 : Nat} {s : Sg} {B : Bd} (h : SolvW w0 w xb mb n a1 c1 s B) (hb : Below K w w') (h1 : xb < K) (h2 : mb < K) (h3 : w0.heap.size ≤ K) : SolvW w0 w' xb mb n a1 c1 s B :=
  ⟨(World.cell?_of_block (a := ⟨xb, 0, none⟩) (hb.block xb h1)).trans h.k0, (World.cell?_of_block (a := ⟨xb, 1, none⟩) (hb.block xb h1)).trans h.k1, h.map.below hb h2, h.bx, h.bm, h.ne, h.sg, h.bel.trans (hb.mono h3), h.wf⟩
theorem SolvW.stored {w0 w w' : World} {xb mb n n' : Nat} {a1 : Option Addr} {c1 : Nat} {s : Sg} {B : Bd} {v : Int} {q : List Int} (h : SolvW w0 w xb mb n a1 c1 s B) (hg : w.grownBy w' (some mb)) (hD : BdMap w0 w' mb n' (upB B v q)) (hq : W1 s q) : SolvW w0 w' xb mb n' a1 c1 s (upB B v q) := by
  have hx : w'.heap[xb]? = w.heap[xb]? := hg.block xb h.lt (fun e => h.ne (by injection e))
  refine ⟨(World.cell?_of_block (a := ⟨xb, 0, none⟩) hx).trans h.k0, (World.cell?_of_block (a := ⟨xb, 1, none⟩) hx).trans h.k1, hD, h.bx, h.bm, h.ne, h.sg, h.bel.grown hg h.bel.size (fun j e => by have := h.bm; injection e with e; omega), fun m u hu => ?_⟩
  unfold upB at hu
  split at hu
  · cases hu; exact hq
  · exact h.wf m u hu
theorem rank_head (ρ : Int → Nat) (t : List Int) : ∀ n r, t = n :: r → n < 0 → ρ n < ρ (t.headD 0) + 1 := fun n r e _ => by rw [e]; simp
theorem last_snoc {α : Type} {L : List α} (h : 0 < L.length) : ∃ L0 e, L = L0 ++ [e] ∧ L0.length + 1 = L.length := by
  rcases List.eq_nil_or_concat L with rfl | ⟨L0, e, rfl⟩
  · simp at h
  · exact ⟨L0, e, by rw [List.concat_eq_append], by simp⟩
end Go.Proofs.YtfjodhgbbefkjaaGreatDoor

/- Walks of package unify: solved, apart, Meets, Unifiable. -/
namespace Go.Proofs.YtfjodhgbbefkjaaGreatDoor
open Go Go.RowKit Go.Maps

def apRel (t : List Int) (w : World) (B0 g cap : Nat) (i : Value) (wr : World) : Prop :=
  ∃ k : Nat, i = .int .i64 k ∧ k ≤ t.length ∧ OwnI wr B0 (.slice (some ⟨g, 0, none⟩) t.length cap) (doneTo apN t k) ∧ Below w.heap.size w wr
def solvedRet (w : World) (a1 : Option Addr) (c1 : Nat) (s : Sg) (a b : List Int) (e : Ending) (w' : World) : Prop :=
  ∃ xb mb r, e = .returned (.tuple #[.pointer (some ⟨xb, 0, none⟩), .bool r]) ∧ Below w.heap.size w w' ∧ (r = false → ∀ η, Wsub s η → ap η a ≠ ap η b) ∧
    (r = true → ∃ B θ ρ n, Slv s B θ ρ ∧ RgB B ∧ IsMgu s a b θ ∧ SolvW w w' xb mb n a1 c1 s B)
theorem solved_uniB {w w' : World} {a1 : Option Addr} {c1 xb mb : Nat} {s : Sg} {a b : List Int} {r : Bool} (hf : r = false → ∀ η, Wsub s η → ap η a ≠ ap η b) (ht : r = true → ∃ B θ ρ n, Slv s B θ ρ ∧ RgB B ∧ IsMgu s a b θ ∧ SolvW w w' xb mb n a1 c1 s B) : r = uniB s a b := by
  cases r with
  | false => exact (uniB_none (hf rfl)).symm
  | true => obtain ⟨B, θ, ρ, n, -, -, h, -⟩ := ht rfl; exact (uniB_some h).symm

end Go.Proofs.YtfjodhgbbefkjaaGreatDoor

/- Walks of package unify: code, named. -/
namespace Go.Proofs.YtfjodhgbbefkjaaGreatDoor
open Go Go.RowKit Go.Maps

def namRel (t : List Int) (w : World) (out i : Value) (wr : World) : Prop :=
  ∃ k : Nat, i = .int .i64 k ∧ k ≤ t.length ∧ IMap Tryz.prog 3 3 wr w.heap.size (varsC (t.take k)).length (nameF t k) ∧ OwnI wr (w.heap.size + 1) out ((t.take k).map (canonW (varsC t))) ∧ Below w.heap.size w wr
theorem nam_push {w : World} {base : Nat} {v : Value} {l : List Int} (ho : OwnI w base v l) (x : Int) (hx : inRange x) (hl : l.length ≤ 10000000) (hb : base ≤ w.heap.size) :
    ∃ v' w', RowKit.Hid ((Builtin.append_ #[41, 41] 41 #[v, .slice (some ⟨w.heap.size, 0, none⟩) 1 1]).run Tryz.prog (w.alloc (.cells #[.int .i64 x] 3)) = .ok v' w') ∧ RowKit.Hid (OwnI w' base v' (l ++ [x])) ∧ RowKit.Hid (w.grownBy w' v.ownBlock) := by
  obtain ⟨v', w', hrun, ho', hg, -⟩ := ho.push (P := Tryz.prog) (t := 41) (ty := 41) Tryz.underlying41 infoInt rfl (vs := [.int .i64 x]) (x := x) ⟨rfl, hx⟩ (by omega) (by unfold big; omega) hb
  exact ⟨v', w', Lib.hid hrun, Lib.hid ho', Lib.hid hg⟩
end Go.Proofs.YtfjodhgbbefkjaaGreatDoor

/- Walks of package unify: full, made, Meet. -/
namespace Go.Proofs.YtfjodhgbbefkjaaGreatDoor
open Go Go.RowKit Go.Maps

/-- only what lies from K on, and the box B0, has turned -/
structure FB (K B0 : Nat) (w w' : World) : Prop where
  os : w'.os = w.os
  tape : w'.tape = w.tape
  output : w'.output = w.output
  size : w.heap.size ≤ w'.heap.size
  block : ∀ b, b < K → b ≠ B0 → w'.heap[b]? = w.heap[b]?
section
variable {K B0 : Nat} {w w1 w2 : World}
theorem FB.refl (K B0 : Nat) (w : World) : FB K B0 w w := ⟨rfl, rfl, rfl, Nat.le_refl _, fun _ _ _ => rfl⟩
theorem FB.trans (h : FB K B0 w w1) (k : FB K B0 w1 w2) : FB K B0 w w2 := ⟨k.os.trans h.os, k.tape.trans h.tape, k.output.trans h.output, Nat.le_trans h.size k.size, fun b hb hne => (k.block b hb hne).trans (h.block b hb hne)⟩
theorem FB.below (h : FB K B0 w w1) {C : Nat} (h1 : C ≤ K) (h2 : C ≤ B0) : Below C w w1 := ⟨h.os, h.tape, h.output, h.size, fun b hb => h.block b (by omega) (by omega)⟩
theorem FB.cell (h : FB K B0 w w1) {b off : Nat} {v : Value} (hb : b < K) (hne : b ≠ B0) (hc : w.cell? ⟨b, off, none⟩ = some v) : w1.cell? ⟨b, off, none⟩ = some v := (World.cell?_of_block (w := w) (h.block b hb hne)).trans hc
end
section
variable {w0 w w1 : World} {xb mb nb : Nat} {a1 : Option Addr} {c1 : Nat} {s : Sg} {B : Bd} {xx wb ob K : Nat} {o o' : List Int}
end
theorem len_app (a b : List Int) : (a ++ b).length = a.length + b.length := List.length_append
theorem ap_cut {θ : Int → List Int} {t : List Int} {j : Nat} (h : j < t.length) : ap θ (t.take (j + 1)) = ap θ (t.take j) ++ ap θ [t[j]] ∧ (ap θ (t.take j) ++ ap θ [t[j]]).length ≤ (ap θ t).length := by
  have e : ap θ (t.take (j + 1)) = ap θ (t.take j) ++ ap θ [t[j]] := by rw [List.take_succ_eq_append_getElem h, ap_append]
  refine ⟨e, ?_⟩
  rw [← e]
  have : ap θ t = ap θ (t.take (j + 1)) ++ ap θ (t.drop (j + 1)) := by rw [← ap_append, List.take_append_drop]
  rw [this, List.length_append]; omega
end Go.Proofs.YtfjodhgbbefkjaaGreatDoor

/- Walks of package unify: full, made, Meet. -/
namespace Go.Proofs.YtfjodhgbbefkjaaGreatDoor
open Go Go.RowKit Go.Maps

theorem retE.below {r : List Int × Int} {w w1 : World} {e : Ending} {w' : World} (h : retE r w1 e w') (hb : Below w.heap.size w w1) : retE r w e w' := by
  obtain ⟨v, h1, h2, h3⟩ := h
  exact ⟨v, h1, OwnL.baseMono h2 hb.size, bcall hb h3⟩
end Go.Proofs.YtfjodhgbbefkjaaGreatDoor

/- Walks of package kernel: steps in memory; right, valid, ValidGivens, asked. -/
namespace Go.Proofs.YtfjodhgbbefkjaaGreatDoor
open Go Go.RowKit Go.Maps

/-- struct { Kind, A, B int } -/
def stpE : Enc Stp := pairE intE (pairE intE intE)
abbrev Steps := Sl stpE
abbrev stpV (x : Stp) : Value := .agg #[.int .i64 x.1, .int .i64 x.2.1, .int .i64 x.2.2]
def stpR (x : Stp) : Prop := inRange x.1 ∧ inRange x.2.1 ∧ inRange x.2.2
theorem Sl.stp {S : Nat → Prop} {w : World} {a : Option Addr} {c : Nat} {l : List Stp} (h : Steps S w a c l) (i : Nat) (hi : i < l.length) :
    ∃ b off, a = some ⟨b, off, none⟩ ∧ S b ∧ w.cell? ⟨b, off + i * 3, none⟩ = some (.int .i64 l[i].1) ∧ w.cell? ⟨b, off + i * 3 + 1, none⟩ = some (.int .i64 l[i].2.1) ∧ w.cell? ⟨b, off + i * 3 + 2, none⟩ = some (.int .i64 l[i].2.2) ∧ stpR l[i] := by
  obtain ⟨b, off, ha, hb, _, vs, _, hv, hr⟩ := h.at1 i hi
  obtain ⟨us, ts, rfl, ⟨rfl, h1⟩, us', ts', rfl, ⟨rfl, h2⟩, ⟨rfl, h3⟩⟩ := hr
  have h0 := hv 0 (by simp)
  have h4 := hv 1 (by simp)
  have h5 := hv 2 (by simp)
  simp [stpE, pairE, intE] at h0 h4 h5
  exact ⟨b, off, ha, hb, h0, h4, h5, h1, h2, h3⟩

theorem okSteps_snoc {G : Int} : ∀ (p : List Stp) (n : Nat) (x : Stp), okSteps G n (p ++ [x]) = (okSteps G n p && rightB G (n + p.length) x)
  | [], n, x => by simp [okSteps]
  | y :: p, n, x => by
    rw [List.cons_append, okSteps, okSteps, okSteps_snoc p (n + 1) x, Bool.and_assoc, List.length_cons, show n + 1 + p.length = n + (p.length + 1) by omega]
theorem okSteps_take {G : Int} : ∀ (p : List Stp) (n k : Nat), okSteps G n p = true → okSteps G n (p.take k) = true
  | [], _, _, _ => by simp [okSteps]
  | x :: p, n, 0, _ => rfl
  | x :: p, n, k + 1, h => by
    simp only [okSteps, Bool.and_eq_true] at h
    rw [List.take_succ_cons, okSteps, Bool.and_eq_true]
    exact ⟨h.1, okSteps_take p (n + 1) k h.2⟩
end Go.Proofs.YtfjodhgbbefkjaaGreatDoor

/- Facts of the program's types that the rows over the kernel want; the start of a row that lists variables. -/
namespace Go.Proofs.YtfjodhgbbefkjaaGreatDoor
open Go Go.RowKit Go.ChangeShapes Go.WideShapes Go.ChangeAt Go.Deep

theorem gives3 {P : Program} {t : TypeId} {α β γ : Type} {E : Enc α} {F : Enc β} {G : Enc γ} {f0 f1 f2 : Field} (ht : P.underlying t = some (.struct #[f0, f1, f2])) (h0 : f0.offset = 0) (h1 : f1.offset = E.size) (h2 : f2.offset = E.size + F.size) (hc : P.cellsOf t = E.size + (F.size + G.size))
    (hc0 : P.cellsOf f0.type = E.size) (hc1 : P.cellsOf f1.type = F.size) (hc2 : P.cellsOf f2.type = G.size) (g0 : Gives P f0.type E) (g1 : Gives P f1.type F) (g2 : Gives P f2.type G) : Gives P t (pairE E (pairE F G)) := by
  intro H enc w base spare held n cs x h
  obtain ⟨y0, y1, y2, n', _, hl, r0, r1, r2⟩ := trod_struct3 ht h
  obtain ⟨a, ha⟩ := g0 H enc w base spare held n' _ _ r0
  obtain ⟨b, hb⟩ := g1 H enc w base spare held n' _ _ r1
  obtain ⟨c, hcc⟩ := g2 H enc w base spare held n' _ _ r2
  refine ⟨(a, b, c), _, _, ?_, ha, _, _, rfl, hb, hcc⟩
  rw [h0, h1, h2, hc0, hc1, hc2, List.drop_zero]
  have e1 : (cs.drop (E.size + F.size)).take G.size = cs.drop (E.size + F.size) := List.take_of_length_le (by simp; omega)
  rw [e1, ← List.drop_drop, List.take_append_drop, List.take_append_drop]
theorem gives_array2 {P : Program} {t e : TypeId} {α : Type} {E : Enc α} (ht : P.underlying t = some (.array 2 e)) (hc : P.cellsOf t = E.size + E.size) (he : P.cellsOf e = E.size) (g : Gives P e E) : Gives P t (pairE E E) := by
  intro H enc w base spare held n cs x h
  obtain ⟨xs, m, _, _, hl, hx, hf⟩ := DataW.trod_array ht h
  match xs, hx with
  | [x0, x1], _ =>
    obtain ⟨a, ha⟩ := g H enc w base spare held m _ _ (hf 0 (by omega))
    obtain ⟨b, hb⟩ := g H enc w base spare held m _ _ (hf 1 (by omega))
    refine ⟨(a, b), _, _, ?_, ha, hb⟩
    rw [he, Nat.zero_mul, Nat.one_mul, List.drop_zero]
    have e1 : (cs.drop E.size).take E.size = cs.drop E.size := List.take_of_length_le (by simp; omega)
    rw [e1, List.take_append_drop]
end Go.Proofs.YtfjodhgbbefkjaaGreatDoor

/- Walks: few, small of the laws on tongues. -/
namespace Go.Proofs.YtfjodhgbbefkjaaGreatDoor
open Go Go.RowKit Go.Maps

def fewB (d : Ways) : Bool := d.all (fun x => decide (x.2.length ≤ 40)) && decide (d.length ≤ 40)
theorem fewB_le {d : Ways} (h : fewB d = true) : d.length ≤ 40 ∧ ∀ x ∈ d, x.2.length ≤ 1000 := by
  unfold fewB at h
  rw [Bool.and_eq_true, List.all_eq_true, decide_eq_true_eq] at h
  refine ⟨h.2, fun x hx => ?_⟩
  have := h.1 x hx
  rw [decide_eq_true_eq] at this
  omega
def fewRel (d : Ways) (w : World) (i : Value) (wr : World) : Prop := ∃ k : Nat, i = .int .i64 k ∧ k ≤ d.length ∧ (d.take k).all (fun x => decide (x.2.length ≤ 40)) = true ∧ w = wr
theorem few_any {S3 : Nat → Prop} (a3 : Option Addr) (c3 : Nat) (d : Ways) (w : World) (h3 : WaysL S3 w a3 c3 d) :
    Calls Tryz.prog 34 #[.slice a3 d.length c3] w fun e w' => e = .returned (.bool (fewB d)) ∧ w = w' := by
  have m3 := h3.le
  have h3H := Lib.hid h3
  clear h3
  go_enter Tryz.func34, Tryz.ntmps34
  go_wp2_with fail
  go_loopw [3] (fun i wr => fewRel d w i wr) (fun i _ => d.length - (intOf i).toNat)
  case atStart => exact ⟨0, rfl, Nat.zero_le _, by simp, rfl⟩
  case round =>
    obtain ⟨k, rfl, hk, hal, rfl⟩ := hrel
    by_cases hlt : k < d.length
    · obtain ⟨b3, o3, ai, ci, rfl, -, -, qi, -, hI⟩ := h3H.out.way k hlt
      have hma := hI.le
      have hst : d[k].2.length ≤ 40 → (d.take (k + 1)).all (fun x => decide (x.2.length ≤ 40)) = true := fun h => by
        rw [List.take_succ_eq_append_getElem hlt, List.all_append, hal]
        simpa using h
      have hbad : 40 < d[k].2.length → fewB d = false := fun h => by
        have : d.all (fun x => decide (x.2.length ≤ 40)) = false := by rw [List.all_eq_false]; exact ⟨d[k], List.getElem_mem hlt, by simpa using h⟩
        unfold fewB; rw [this]; rfl
      obtain ⟨n, hn⟩ : ∃ n, d[k].2.length = n := ⟨_, rfl⟩
      rw [hn] at qi hst hbad hma
      by_cases h40 : n ≤ 40
      · have hf := Lib.hid (hst h40)
        clear hst hbad hal hn hI
        go_wp2_with fail
        go_roundw
        case rel => exact ⟨k + 1, by go_num, by omega, hf.out, rfl⟩
        case measure => simp [intOf]; omega
      · have hf := Lib.hid (hbad (by omega))
        clear hst hbad hal hn hI
        go_wp2_with fail
        go_ret
        exact ⟨ret_bool hf.out.symm, rfl⟩
    · rw [List.take_of_length_le (by omega)] at hal
      have hf : fewB d = decide (d.length ≤ 40) := by unfold fewB; rw [hal, Bool.true_and]
      have hfH := Lib.hid hf
      clear hal hf
      go_wp2_with fail
      go_ret
      refine ⟨ret_bool ?_, rfl⟩
      rw [hfH.out, Bool.eq_iff_iff]; simp; omega
def smallTr (a b : Sg) (d : Ways) : Bool := smallT a [] && (smallT b [] && fewB d)
set_option maxHeartbeats 1000000 in
theorem smallTr_any {S1 S2 S3 : Nat → Prop} (a1 a2 a3 : Option Addr) (c1 c2 c3 : Nat) (a b : Sg) (d : Ways) (w : World) (h1 : Sign S1 w a1 c1 a) (h2 : Sign S2 w a2 c2 b) (h3 : WaysL S3 w a3 c3 d) :
    Calls Tryz.prog 18 #[.agg #[.slice a1 a.length c1, .slice a2 b.length c2, .slice a3 d.length c3]] w fun e w' => e = .returned (.bool (smallTr a b d)) ∧ Below w.heap.size w w' := by
  have m1 := h1.le
  have m2 := h2.le
  have m3 := h3.le
  obtain ⟨W, hW⟩ : ∃ W, w.alloc (.cells #[.slice a1 a.length c1, .slice a2 b.length c2, .slice a3 d.length c3] 34) = W := ⟨_, rfl⟩
  have hB : Below w.heap.size w W := by rw [← hW]; exact below1 w _
  have q0 : W.cell? ⟨w.heap.size, 0, none⟩ = some (.slice a1 a.length c1) := by rw [← hW]; clear hW; go_simp
  have q1 : W.cell? ⟨w.heap.size, 1, none⟩ = some (.slice a2 b.length c2) := by rw [← hW]; clear hW; go_simp
  have q2 : W.cell? ⟨w.heap.size, 2, none⟩ = some (.slice a3 d.length c3) := by rw [← hW]; clear hW; go_simp
  have s1 : Calls Tryz.prog 12 #[.slice a1 a.length c1, .slice none 0 0] W fun e w' => e = .returned (.bool (smallT a [])) ∧ W = w' := Small_any a1 none c1 0 a [] W (h1.below hB) (Sl.empty (S := fun _ => True))
  have s2 : Calls Tryz.prog 12 #[.slice a2 b.length c2, .slice none 0 0] W fun e w' => e = .returned (.bool (smallT b [])) ∧ W = w' := Small_any a2 none c2 0 b [] W (h2.below hB) (Sl.empty (S := fun _ => True))
  have s3 := few_any a3 c3 d W (h3.below hB)
  have s1H := Lib.hid s1
  have s2H := Lib.hid s2
  have s3H := Lib.hid s3
  have hBH := Lib.hid hB
  clear s1 s2 s3 hB h1 h2 h3
  unfold smallTr
  cases hx : smallT a [] with
  | false =>
    rw [hx] at s1H
    clear hx
    go_enter Tryz.func18, Tryz.ntmps18
    go_wp2_with fail
    try rw [hW]
    go_wp2_with fail
    refine s1H.out.mono ?_
    rintro e w1 ⟨rfl, rfl⟩
    go_wp2_with fail
    go_ret
    exact ⟨rfl, hBH.out⟩
  | true =>
  rw [hx] at s1H
  cases hy : smallT b [] with
  | false =>
    rw [hy] at s2H
    clear hx hy
    go_enter Tryz.func18, Tryz.ntmps18
    go_wp2_with fail
    try rw [hW]
    go_wp2_with fail
    refine s1H.out.mono ?_
    rintro e w1 ⟨rfl, rfl⟩
    go_wp2_with fail
    refine s2H.out.mono ?_
    rintro e w1 ⟨rfl, rfl⟩
    go_wp2_with fail
    go_ret
    exact ⟨rfl, hBH.out⟩
  | true =>
  rw [hy] at s2H
  obtain ⟨z, hz⟩ : ∃ z, fewB d = z := ⟨_, rfl⟩
  rw [hz] at s3H ⊢
  clear hx hy hz
  go_enter Tryz.func18, Tryz.ntmps18
  go_wp2_with fail
  try rw [hW]
  go_wp2_with fail
  refine s1H.out.mono ?_
  rintro e w1 ⟨rfl, rfl⟩
  go_wp2_with fail
  refine s2H.out.mono ?_
  rintro e w1 ⟨rfl, rfl⟩
  go_wp2_with fail
  refine s3H.out.mono ?_
  rintro e w1 ⟨rfl, rfl⟩
  go_wp2_with fail
  go_ret
  exact ⟨by simp, hBH.out⟩
end Go.Proofs.YtfjodhgbbefkjaaGreatDoor

/- The law TongueValid, walked. -/
namespace Go.Proofs.YtfjodhgbbefkjaaGreatDoor
open Go Go.RowKit Go.Maps

set_option maxRecDepth 100000 in
set_option maxHeartbeats 8000000 in
theorem TongueValid_walk {S1 S2 S3 : Nat → Prop} (a1 : Option Addr) (c1 : Nat) (a : Sg) (a2 : Option Addr) (c2 : Nat) (b : Sg) (a3 : Option Addr) (c3 : Nat) (d : Ways) (w : World) (h1 : Sign S1 w a1 c1 a) (h2 : Sign S2 w a2 c2 b) (h3 : WaysL S3 w a3 c3 d) :
    Calls Tryz.prog 4 #[.agg #[.slice a1 a.length c1, .slice a2 b.length c2, .slice a3 d.length c3]] w fun e w' => e = .returned (.bool true) ∧ Below w.heap.size w w' := by
  have m1 := h1.le
  have m2 := h2.le
  have m3 := h3.le
  obtain ⟨W, hW⟩ : ∃ W, w.alloc (.cells #[.slice a1 a.length c1, .slice a2 b.length c2, .slice a3 d.length c3] 34) = W := ⟨_, rfl⟩
  have hB : Below w.heap.size w W := by rw [← hW]; exact below1 w _
  have q0 : W.cell? ⟨w.heap.size, 0, none⟩ = some (.slice a1 a.length c1) := by rw [← hW]; clear hW; go_simp
  have q1 : W.cell? ⟨w.heap.size, 1, none⟩ = some (.slice a2 b.length c2) := by rw [← hW]; clear hW; go_simp
  have q2 : W.cell? ⟨w.heap.size, 2, none⟩ = some (.slice a3 d.length c3) := by rw [← hW]; clear hW; go_simp
  have sm := smallTr_any a1 a2 a3 c1 c2 c3 a b d W (h1.below hB) (h2.below hB) (h3.below hB)
  have aw := Lib.hid (fun W' (hb : Below w.heap.size w W') => aw3_from hb (Nat.le_refl _))
  have hBH := Lib.hid hB
  cases hs : smallTr a b d with
  | false =>
    rw [hs] at sm
    have smH := Lib.hid sm
    clear hB h1 h2 h3 sm hs
    go_enter Tryz.func4, Tryz.ntmps4
    go_wp2_with fail
    try rw [hW]
    go_wp2_with fail
    refine smH.out.mono ?_
    rintro e w1 ⟨rfl, hb1⟩
    go_wp2_with fail
    refine (aw.out _ (bcall hBH.out hb1)).mono ?_
    rintro e w2 ⟨rfl, hb2⟩
    go_wp2_with fail
    go_ret
    exact ⟨rfl, hb2⟩
  | true =>
  rw [hs] at sm
  have hda : ∀ x ∈ d, x.2.length ≤ 1000 := by
    unfold smallTr at hs
    simp only [Bool.and_eq_true] at hs
    exact (fewB_le hs.2.2).2
  have v1 := fun W' (hb : Below w.heap.size w W') => tValid_any a1 a2 a3 c1 c2 c3 a b d W' (h1.below hb) (h2.below hb) (h3.below hb) hda
  have v2 := fun W' (hb : Below w.heap.size w W') => rValid3_any a1 a2 a3 c1 c2 c3 a b d W' (h1.below hb) (h2.below hb) (h3.below hb)
  have o1 := fun W' (hb : Below w.heap.size w W') => OneToOne_any a1 a2 a3 c1 c2 c3 a b d W' (h1.below hb) (h2.below hb) (h3.below hb) hda
  have o2 := fun W' (hb : Below w.heap.size w W') => rOneToOne_any a1 a2 a3 c1 c2 c3 a b d W' (h1.below hb) (h2.below hb) (h3.below hb)
  have i1 := fun W' (hb : Below w.heap.size w W') => Image_any a1 a2 a3 c1 c2 c3 a b d W' (h1.below hb) (h2.below hb) (h3.below hb) hda
  have i2 := fun W' (hb : Below w.heap.size w W') => rImage_any a1 a2 a3 c1 c2 c3 a b d W' (h1.below hb) (h2.below hb) (h3.below hb)
  have n1 := fun W' (hb : Below w.heap.size w W') => Inverse_any a1 a2 a3 c1 c2 c3 a b d W' (h1.below hb) (h2.below hb) (h3.below hb) hda
  have n2 := fun W' (hb : Below w.heap.size w W') => rInverse_any a1 a2 a3 c1 c2 c3 a b d W' (h1.below hb) (h2.below hb) (h3.below hb) hda
  obtain ⟨x, hx⟩ : ∃ x, validD a b d = x := ⟨_, rfl⟩
  obtain ⟨y, hy⟩ : ∃ x, oneB a b d = x := ⟨_, rfl⟩
  obtain ⟨⟨L, E⟩, hI⟩ : ∃ x, imgE a b d = x := ⟨_, rfl⟩
  obtain ⟨⟨V, F⟩, hN⟩ : ∃ x, invE a b d = x := ⟨_, rfl⟩
  simp only [hx, hy] at v1 v2 o1 o2
  simp only [hI] at i1 i2
  simp only [hN] at n1 n2
  obtain ⟨z, hz⟩ : ∃ z, (x && y) = z := ⟨_, rfl⟩
  simp only [hz] at o1 o2
  have smH := Lib.hid sm
  have v1H := Lib.hid v1
  have v2H := Lib.hid v2
  have o1H := Lib.hid o1
  have o2H := Lib.hid o2
  have i1H := Lib.hid i1
  have i2H := Lib.hid i2
  have n1H := Lib.hid n1
  have n2H := Lib.hid n2
  have f1 : (x != x) = false := by simp
  have f2 : (z != z) = false := by simp
  have f3 : (E != E) = false := by simp
  have f4 : (F == F) = true := by simp
  have Q : ∀ W', Below W.heap.size W W' → Below w.heap.size w W' ∧ W'.cell? ⟨w.heap.size, 0, none⟩ = some (.slice a1 a.length c1) ∧ W'.cell? ⟨w.heap.size, 1, none⟩ = some (.slice a2 b.length c2) ∧ W'.cell? ⟨w.heap.size, 2, none⟩ = some (.slice a3 d.length c3) := fun W' hb =>
    ⟨bcall hBH.out hb, cell_later hb q0, cell_later hb q1, cell_later hb q2⟩
  have QH := Lib.hid Q
  clear hB h1 h2 h3 sm hs hda v1 v2 o1 o2 i1 i2 n1 n2 hx hy hz hI hN Q
  go_enter Tryz.func4, Tryz.ntmps4
  go_wp2_with fail
  try rw [hW]
  go_wp2_with fail
  clear hW
  refine smH.out.mono ?_
  rintro e w1 ⟨rfl, hb1⟩
  have hb1H := Lib.hid hb1
  have hdb : Below w1.heap.size w1 w1.drew := Below.drew (.refl _ _)
  have hk0 : Below w1.heap.size w1 w1.drew ∧ w1.drew.cell? ⟨w.heap.size, 0, none⟩ = some (.slice a1 a.length c1) ∧ w1.drew.cell? ⟨w.heap.size, 1, none⟩ = some (.slice a2 b.length c2) ∧ w1.drew.cell? ⟨w.heap.size, 2, none⟩ = some (.slice a3 d.length c3) :=
    ⟨hdb, (QH.out _ (bcall hb1 hdb)).2⟩
  have JH := Lib.hid (fun W' (hb : Below w1.heap.size w1 W') => (QH.out _ (bcall hb1H.out hb)).1)
  clear hb1 hdb smH
  go_wp2_with fail
  go_region_held3 (fun w' => Below w1.heap.size w1 w' ∧ w'.cell? ⟨w.heap.size, 0, none⟩ = some (.slice a1 a.length c1) ∧ w'.cell? ⟨w.heap.size, 1, none⟩ = some (.slice a2 b.length c2) ∧ w'.cell? ⟨w.heap.size, 2, none⟩ = some (.slice a3 d.length c3))
    ((first | exact hk0 | exact keepJ3 ‹_› (hdW.below _) | exact keepJ3 ‹_› hbO))
    ((first
      | (go_at_call 17; (with_reducible refine (v1H.out _ (JH.out _ ?_)).mono ?_); exact (And.left ‹_›); rintro e wO ⟨rfl, hbO⟩)
      | (go_at_call 19; (with_reducible refine (v2H.out _ (JH.out _ ?_)).mono ?_); exact (And.left ‹_›); rintro e wW ⟨rfl, hdW⟩)
      | (go_at_call 20; (with_reducible refine (o1H.out _ (JH.out _ ?_)).mono ?_); exact (And.left ‹_›); rintro e wO ⟨rfl, hbO⟩)
      | (go_at_call 21; (with_reducible refine (o2H.out _ (JH.out _ ?_)).mono ?_); exact (And.left ‹_›); rintro e wW ⟨rfl, hdW⟩)))
  have hBO := And.left (‹Below w1.heap.size w1 wW ∧ _›)
  have hBW := bcall hb1H.out hBO
  obtain ⟨hB3, p0, p1, p2⟩ := QH.out wW hBW
  have hBWH := Lib.hid hBW
  have cc := Lib.hid (i1H.out wW hB3)
  clear hBO hBW hB3 hbO hdW hk0 v1H v2H o1H o2H i1H JH hb1H
  go_wp2_with fail
  refine cc.out.mono ?_
  rintro e w4 ⟨aI, cI, rfl, hI4, hb4⟩
  have hBW4 := bcall hBWH.out hb4
  obtain ⟨hB4, p0, p1, p2⟩ := QH.out w4 hBW4
  have cc2 := Lib.hid (i2H.out w4 hB4)
  have hI4H := Lib.hid hI4
  have hBW4H := Lib.hid hBW4
  clear cc hBWH hb4 hBW4 hB4 i2H hI4
  go_wp2_with fail
  refine cc2.out.mono ?_
  rintro e w5 ⟨aJ, cJ, rfl, hJ5, hb5⟩
  have hI5 := hI4H.out.below hb5
  have mI := hI5.le
  have sI := SameInts_any aI aJ cI cJ L L w5 hI5 hJ5
  rw [decide_eq_true rfl] at sI
  have sIH := Lib.hid sI
  have hBW5H := Lib.hid (bcall hBW4H.out hb5)
  clear cc2 hb5 hI5 sI hI4H hBW4H hJ5
  go_wp2_with fail
  refine sIH.out.mono ?_
  rintro e w6 ⟨rfl, hd6⟩
  have hBW6 := bcall hBW5H.out (hd6.below _)
  obtain ⟨hB6, p0, p1, p2⟩ := QH.out w6 hBW6
  have cc3 := Lib.hid (n1H.out w6 hB6)
  have hBW6H := Lib.hid hBW6
  clear sIH hd6 hBW5H hBW6 hB6 n1H
  go_wp2_with fail
  refine cc3.out.mono ?_
  rintro e w7 ⟨aI, cI, rfl, hI7, hb7⟩
  have hBW7 := bcall hBW6H.out hb7
  obtain ⟨hB7, p0, p1, p2⟩ := QH.out w7 hBW7
  have cc4 := Lib.hid (n2H.out w7 hB7)
  have hI7H := Lib.hid hI7
  have hBW7H := Lib.hid hBW7
  clear cc3 hBW6H hb7 hBW7 hB7 n2H hI7
  go_wp2_with fail
  refine cc4.out.mono ?_
  rintro e w8 ⟨aJ, cJ, rfl, hJ8, hb8⟩
  have hI8 := hI7H.out.below hb8
  have sV := rSame3_any aI aJ cI cJ V V w8 hI8 hJ8
  rw [decide_eq_true rfl] at sV
  have sVH := Lib.hid sV
  have mV := hI8.le
  have hBW8H := Lib.hid (bcall hBW7H.out hb8)
  clear cc4 hb8 hI8 sV hI7H hBW7H hJ8
  go_wp2_with fail
  refine sVH.out.mono ?_
  rintro e w9 ⟨rfl, hd9⟩
  have cA := Lib.hid (aw.out w9 (bcall hBH.out (bcall hBW8H.out (hd9.below _))))
  clear sVH hd9 hBW8H
  go_wp2_with fail
  refine cA.out.mono ?_
  rintro e w10 ⟨rfl, hb10⟩
  go_wp2_with fail
  go_ret
  exact ⟨rfl, hb10⟩
end Go.Proofs.YtfjodhgbbefkjaaGreatDoor

/- Facts of the program's types that the rows over the tongues want. -/
namespace Go.Proofs.YtfjodhgbbefkjaaGreatDoor
open Go Go.RowKit Go.ChangeShapes Go.WideShapes Go.ChangeAt Go.Deep

theorem gWay : Gives Tryz.prog 78 wayE := gives_pair Tryz.underlying78 rfl rfl (by kernel_rfl) (by kernel_rfl) (by kernel_rfl) gInt gInts
theorem gWays : Gives Tryz.prog 26 (slE wayE) := gives_slice Tryz.underlying26 (by kernel_rfl) gWay
theorem gTrade : Gives Tryz.prog 34 (pairE (slE symE) (pairE (slE symE) (slE wayE))) := gives3 Tryz.underlying34 rfl rfl rfl (by kernel_rfl) (by kernel_rfl) (by kernel_rfl) (by kernel_rfl) gSign gSign gWays
end Go.Proofs.YtfjodhgbbefkjaaGreatDoor

/- The card of TongueValid: for every input TongueValid returns true and leaves its arguments as they were; the listed variables are tied to the program's text. No condition. -/
namespace Go.Proofs.YtfjodhgbbefkjaaGreatDoor
open Go Go.RowKit Go.ChangeShapes Go.WideShapes Go.ChangeAt

theorem tongueValid_door (os : Os) (args : Array Value) : laidMetH Tryz.prog Rows.tongueValidRow.laid ((World.doorLaid Tryz.prog 400 os).forCall (fun _ _ => 0) ⟨#[], args, []⟩).memory :=
  laidMetH_of_parts3 (fuel := 8) (laidMet_of_run' 8 (by kernel_rfl) (by kernel_rfl)) (by kernel_rfl) (by kernel_rfl)
set_option maxRecDepth 100000 in
theorem tongueValid_lifted (os : Os) (started : os.Started) (H : Type) (enc : TypeId × Value → H) :
    ReturnsInHanded {} Tryz.checked os 4 .any (fun w args => (Rows.tongueValidSpec.pre enc Tryz.prog Tryz.f4 [] false w args ∧ laidMetH Tryz.prog Rows.tongueValidRow.laid w) ∧ sizedMet enc Tryz.prog Tryz.f4 (OpenSpec.ofChange Rows.tongueValidSpec) false w args)
      (Rows.tongueValidSpec.post enc Tryz.prog Tryz.f4 false true false false) := by
  refine returnsInHanded_of_change_and (C := Tryz.checked) (X := fun w _ => laidMetH Tryz.prog Rows.tongueValidRow.laid w) (fun _ _ _ hh h => h.of_heap hh) Tryz.own started (by kernel_rfl) Tryz.func4
    (ChangeSpec.witness_shaped (enc := enc) (C := Tryz.checked) (os := os) (X := fun w _ => laidMetH Tryz.prog Rows.tongueValidRow.laid w) false (World.doorLaid Tryz.prog 400 os) #[.agg #[.slice none 0 0, .slice none 0 0, .slice none 0 0]] 8 rfl (World.shaped_of_RefB (by kernel_rfl) (by kernel_rfl)) (by kernel_rfl) (by kernel_rfl) (by kernel_rfl) (tongueValid_door os _)) ?_
  intro W base args ds gs before hval0 hW _ _ hL _
  clear hL
  have hval : ∀ (j : Nat) t v, Tryz.f4.params[j]? = some t → args[j]? = some v → Value.okWide Tryz.prog W .any base t v := hval0
  have hW' := hW
  obtain ⟨p, q, hA0, hV, rfl, hfz, hnd⟩ := hW
  have hA : DataW.TrodAll enc Tryz.prog W 0 (fun _ => true) true Tryz.f4.params.toList args.toList ds p := hA0
  rw [Tryz.params4] at hA hval
  obtain ⟨v0, d0, rfl, rfl, h0⟩ := trodAll_one hA
  obtain ⟨rfl, rfl⟩ := trodVars_none hV
  clear hA0 hval0
  simp only [List.append_nil] at hW'
  have hlt : ∀ x ∈ p, x.block < W.heap.size := fun x hx => hW'.lt x (by simpa using hx)
  have keep0 := fun (W' : World) (hn : Below W.heap.size W W') => Below.trod Tryz.laidOut (by kernel_rfl) (of_decide_eq_true (by kernel_rfl)) h0 hn (fun x hx => hlt x (by simp [hx]))
  obtain ⟨⟨t0, t1, t2⟩, vs, rfl, us, ts, rfl, ⟨a00, c00, rfl, r00⟩, us1, ts1, rfl, ⟨a01, c01, rfl, r01⟩, ⟨a02, c02, rfl, r02⟩⟩ := gTrade.argAgg h0 (let ⟨cs, h, _⟩ := okWide_struct Tryz.underlying34 (hval 0 34 v0 rfl rfl); ⟨cs, h⟩)
  refine (TongueValid_walk _ _ _ _ _ _ _ _ _ W r00 r01 r02).mono fun e W' ⟨he, hB⟩ => ?_
  subst he
  exact ⟨_, rfl, _, _, _, [], p, [], hW', trodAll_mk1 (shut_bool Tryz.underlying4 true), trodAll_mk1 (keep0 _ hB), rfl, hB.frame _, fun h => by cases h⟩

/-- TongueValid: for every input it returns true, and each argument reads as it did. -/
theorem tongueValid_holds : Rows.TongueValidSaid :=
  OpenClaim.holds_of_wide 4 Tryz.f4 rfl rfl rfl rfl rfl rfl rfl ⟨rfl, rfl, rfl, rfl, rfl⟩ rfl rfl rfl rfl rfl (by kernel_rfl) Tryz.func4 (by kernel_rfl)
    (of_decide_eq_true (by kernel_rfl)) (by unfold Func.isWrapper; first | (rw [if_pos (by decide +kernel)]; kernel_rfl) | (rw [if_neg (by decide +kernel)]; exact ⟨rfl, rfl⟩))
    (fun os started H enc _ => tongueValid_lifted os started H enc)
/-- the card of TongueValid -/
theorem tongueValid_card_holds : Rows.TongueValidCardSaid :=
  Claim7.holds_tied_plain_at .later [] [.data, .data, .data, .sentinel, .sentinel] true Rows.tongueValidCard.stood.harness Rows.tongueValidCard.stood.looks
    tongueValid_holds (fun _ h => by cases h) (by kernel_rfl) (fun _ h => by cases h) tongueValid_row_tie rfl ⟨rfl, rfl⟩ (by kernel_rfl) rfl
    (fun f fn hf hfn => by
      obtain rfl : f = 4 := Option.some.inj ((show Tryz.prog.funcNamed Rows.tongueValidRow.func = some 4 by kernel_rfl).symm.trans hf) |>.symm
      obtain rfl : fn = Tryz.f4 := (Option.some.inj (Tryz.func4.symm.trans hfn)).symm
      exact ⟨by kernel_rfl, fun j t ht => by
        rw [Tryz.params4] at ht
        have hm : t ∈ [34] := by simpa using Array.mem_of_getElem? ht
        have hall : ([34].all fun u => !Tryz.prog.wantsStandIn u) = true := by kernel_rfl
        exact (show Tryz.prog.wantsStandIn t = false by simpa using List.all_eq_true.1 hall t hm)⟩)
    (by kernel_rfl)
end Go.Proofs.YtfjodhgbbefkjaaGreatDoor
