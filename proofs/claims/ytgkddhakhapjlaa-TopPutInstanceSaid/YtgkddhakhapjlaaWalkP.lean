/- Walks: slices.Grow, slices.Concat, of terms. -/
import Derived.Test.YtgkddhakhapjlaaWalkM
import Derived.Lib.AppendZeros
namespace Go.Proofs.Ytgkddhakhapjlaa
open Go Go.RowKit Go.Maps

theorem wpList_append_run2 {P : Program} {w : World} {ops : Array Oper} {rest : List Oper} {o : Oper} {a : Act} {Q : Exit → Act → World → Prop} (hgd : o.guard = none) (s x : Operand) (t t2 : TypeId)
    (ho : o.op = .call { callee := .builtin .append, args := #[s, x], argTypes := #[t, t2] }) {vs vx : Value} (hs : a.eval s = vs) (hx : a.eval x = vx) {v' : Value} {w' : World}
    (hr : (Builtin.append_ #[t, t2] o.type #[vs, vx]).run P w = .ok v' w') (h : wpList P ops Q rest (a.put o.dst v') w') : wpList P ops Q (o :: rest) a w := by
  refine wpList_plain hgd fun K hK => ?_
  unfold Oper.wp execOp
  simp only [ho, resolve, invoke, builtin, Sem.run_bind, Sem.run_pure, Result.andThen_ok, List.map_toArray, List.map_cons, List.map_nil, hs, hx, hr]
  exact hK _ _ h
theorem infoInt2 : ∃ i, Try.prog.info? 3 = some i ∧ i.zero = some (.int .i64 0) ∧ i.size = 1 ∧ i.bytes = 8 := by
  obtain ⟨i, h, h1, h2, h3⟩ := info_parts infoInt
  exact ⟨i, h, h1, h2, h3⟩
set_option maxRecDepth 20000 in
set_option maxHeartbeats 1000000 in
theorem Grow_any (n : Nat) (w : World) (hn : n ≤ lim) :
    Calls Try.prog 30 #[.slice none 0 0, .int .i64 n] w (retOwn w []) := by
  unfold lim at hn
  by_cases h0 : n = 0
  · subst h0
    go_enter Try.func30, Try.ntmps30
    go_wp2_with fail
    go_ret
    exact ⟨_, rfl, .nil _ _ _ _ _, .refl _ _⟩
  · obtain ⟨i, hi, hz, hsz, hby⟩ := infoInt2
    have hrun := Lib.run_append_nil_zeros (P := Try.prog) w 25 3 25 3 i (.int .i64 0) .i64 .i64 Try.underlying25 Try.underlying3 hi hz n (by omega) (by omega) (by omega) (by rw [hby]; omega)
    obtain ⟨cap, hcap⟩ : ∃ cap, grownCap w n 0 3 = cap := ⟨_, rfl⟩
    have hc1 := grownCap_ge w n 0 3
    have hc2 := grownCap_le_maxLen w n 0 3 (by unfold maxLen; omega)
    rw [hcap] at hrun hc1 hc2
    unfold maxLen at hc2
    have hz1 : ∀ k, (Builtin.zeroCells (Value.cells (.int .i64 0)) k).size = k := fun k => by simp [Builtin.zeroCells, Value.cells]
    obtain ⟨cs, hcs⟩ : ∃ cs, Builtin.zeroCells (Value.cells (.int .i64 0)) n ++ Builtin.zeroCells (Value.cells (.int .i64 0)) (cap - n) = cs := ⟨_, rfl⟩
    have hcn : cs.size = cap * 1 := by rw [← hcs, Array.size_append, hz1, hz1]; omega
    rw [hcs] at hrun
    have ho : OwnI (w.drew.alloc (.cells cs 3)) w.heap.size (.slice (some ⟨w.heap.size, 0, none⟩) 0 cap) [] :=
      ⟨[], World.ownsRow_made w.drew cs cap (Nat.le_refl _) (by unfold maxLen; omega) hcn, rfl, fun i h => by simp at h⟩
    have hB : Below w.heap.size w (w.drew.alloc (.cells cs 3)) := (Below.refl _ _).drew.alloc (Nat.le_refl _) _
    have hrunH := Lib.hid hrun
    have hoH := Lib.hid ho
    have hBH := Lib.hid hB
    clear hrun ho hB hcs hcap hz1 hi hz hsz hby hcn
    go_enter Try.func30, Try.ntmps30
    go_wp2_with (at_builtin; refine wpList_append_run2 rfl (.tmp 20) (.tmp 21) _ _ rfl rfl rfl hrunH.out ?_)
    go_ret
    exact ⟨_, rfl, hoH.out, hBH.out⟩

theorem ints_append {S2 : Nat → Prop} {w : World} {base : Nat} {v : Value} {l l2 : List Int} {a : Option Addr} {c : Nat} (ho : OwnI w base v l) (h2 : Ints S2 w a c l2) (hl : l.length + l2.length ≤ 10000000) (hb : base ≤ w.heap.size) :
    ∃ v' w', RowKit.Hid ((Builtin.append_ #[25, 25] 25 #[v, .slice a l2.length c]).run Try.prog w = .ok v' w') ∧ RowKit.Hid (OwnI w' base v' (l ++ l2)) ∧ RowKit.Hid (Below base w w') := by
  obtain ⟨v', w', hrun, ho', hg, -, -⟩ := ho.append_run (P := Try.prog) (t := 25) (ty := 25) Try.underlying25 infoInt rfl h2 (fun _ _ _ h => h) (by omega) (by unfold big; omega) hb
  exact ⟨v', w', Lib.hid hrun, Lib.hid ho', Lib.hid ((Below.refl _ _).grown hg hb (fun k e => (ho.lt k e).1))⟩

def cat1Rel (L : List (List Int)) (w : World) (size i : Value) (wr : World) : Prop := ∃ k : Nat, i = .int .i64 k ∧ k ≤ L.length ∧ size = .int .i64 ((L.take k).flatten.length : Nat) ∧ wr = w
def cat2Rel (L : List (List Int)) (w : World) (out i : Value) (wr : World) : Prop := ∃ k : Nat, i = .int .i64 k ∧ k ≤ L.length ∧ OwnI wr w.heap.size out (L.take k).flatten ∧ Below w.heap.size w wr
theorem flat_take_le {L : List (List Int)} {q : Nat} : (L.take q).flatten.length ≤ L.flatten.length := by
  have : L.flatten.length = (L.take q).flatten.length + (L.drop q).flatten.length := by rw [← List.length_append, ← List.flatten_append, List.take_append_drop]
  omega
theorem flat_take_succ {L : List (List Int)} {q : Nat} (h : q < L.length) : (L.take (q + 1)).flatten = (L.take q).flatten ++ L[q] := by
  rw [List.take_succ_eq_append_getElem h, List.flatten_append]; simp
set_option maxHeartbeats 2000000 in
theorem Concat_any {S : Nat → Prop} (a : Option Addr) (c : Nat) (L : List (List Int)) (w : World) (h : Terms S w a c L) (hl : L.flatten.length ≤ lim) :
    Calls Try.prog 17 #[.slice a L.length c] w (retOwn w L.flatten) := by
  have m := h.le
  unfold lim at hl
  go_enter Try.func17, Try.ntmps17
  go_wp2_with fail
  go_loopw [3, 11] (fun size i wr => cat1Rel L w size i wr) (fun _ i _ => L.length - (intOf i).toNat)
  case atStart => exact ⟨0, rfl, Nat.zero_le _, rfl, rfl⟩
  case round =>
    obtain ⟨k, rfl, hk, rfl, rfl⟩ := hrel
    by_cases hlt : k < L.length
    · obtain ⟨b, o, a', c', rfl, -, q, -⟩ := h.sub k hlt
      have hs := congrArg List.length (flat_take_succ hlt)
      rw [List.length_append] at hs
      have hle := flat_take_le (L := L) (q := k + 1)
      obtain ⟨M, hM⟩ : ∃ M : Nat, (L.take k).flatten.length = M := ⟨_, rfl⟩
      rw [hM] at hs ⊢
      rw [hs] at hle
      have hsH := Lib.hid hs
      clear hs hM h
      go_wp2_with fail
      go_roundw
      case rel => exact ⟨k + 1, by go_num, by omega, by rw [hsH.out]; go_num, rfl⟩
      case measure => simp [intOf]; omega
    · have hkn : L.take k = L := List.take_of_length_le (by omega)
      rw [hkn]
      obtain ⟨N, hN⟩ : ∃ N : Nat, L.flatten.length = N := ⟨_, rfl⟩
      rw [hN]
      have cg := Grow_any N wr (by unfold lim; omega)
      have cgH := Lib.hid cg
      clear cg hkn hN
      go_wp2_with (go_at_call 30; refine cgH.out.mono ?_; rintro e w1 ⟨v, rfl, ho, hb⟩; have hoH := Lib.hid ho; have hbH := Lib.hid hb; clear ho hb)
      go_loopw [6, 27] (fun out i wr2 => cat2Rel L wr out i wr2) (fun _ i _ => L.length - (intOf i).toNat)
      case atStart => exact ⟨0, rfl, Nat.zero_le _, hoH.out, hbH.out⟩
      case round =>
        obtain ⟨k, rfl, hk, ho, hB⟩ := hrel
        by_cases hlt : k < L.length
        · obtain ⟨b, o, a', c', rfl, -, q, hI⟩ := h.sub k hlt
          have q' := (hB.cell (p := ⟨b, o + k, none⟩) (World.block_lt_of_cell? _ _ q)).trans q
          have hs := flat_take_succ hlt
          have hle := flat_take_le (L := L) (q := k + 1)
          rw [hs, List.length_append] at hle
          obtain ⟨v', w', hrunH, ho', hb'⟩ := ints_append ho (hI.below hB) (by omega) hB.size
          have hsH := Lib.hid hs
          have hBH := Lib.hid (hB.trans hb'.out)
          clear hs ho hI hB h q hb'
          go_wp2_with (at_builtin; refine wpList_append_run rfl _ _ _ rfl rfl rfl hrunH.out ?_)
          go_roundw
          case rel => exact ⟨k + 1, by go_num, by omega, by rw [hsH.out]; exact ho'.out, hBH.out⟩
          case measure => simp [intOf]; omega
        · have hkn : L.take k = L := List.take_of_length_le (by omega)
          rw [hkn] at ho
          have hoH := Lib.hid ho
          have hBH := Lib.hid hB
          clear ho hB hkn h
          go_wp2_with fail
          go_ret
          exact ⟨_, rfl, hoH.out, hBH.out⟩
end Go.Proofs.Ytgkddhakhapjlaa
