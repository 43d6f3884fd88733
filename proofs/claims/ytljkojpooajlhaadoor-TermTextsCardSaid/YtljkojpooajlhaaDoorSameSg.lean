/- Walks: lemmaryref01.SameSign; lists of symbols that a call makes. -/
import Derived.Test.YtljkojpooajlhaaDoorWalkE
import Derived.Test.YtljkojpooajlhaaDoorOwn
import Derived.Laws.StructEq
import Derived.BigQuiet
namespace Go.Proofs.YtljkojpooajlhaaDoor
open Go Go.RowKit Go.Maps

abbrev OwnSg (w : World) (base : Nat) (v : Value) (l : Sg) : Prop := OwnL symE (fun _ => False) w base 36 v l
theorem infoSg : (Tryd.prog.info? 36).map (fun i => (i.zero, i.size, i.bytes)) = some (some (.agg #[.string ByteArray.empty, .int .i64 0]), 2, 24) := by kernel_rfl
theorem OwnSg.sg {w : World} {base : Nat} {v : Value} {l : Sg} (h : OwnSg w base v l) : ∃ a c, v = .slice a l.length c ∧ Sign (fun b => base ≤ b) w a c l := h.slB (fun _ h => h.elim)
/-- a list of symbols and an error -/
def retSgE (r : Sg × Int) (w : World) (e : Ending) (w' : World) : Prop := ∃ v, e = .returned (.tuple #[v, .int .i64 r.2]) ∧ OwnSg w' w.heap.size v r.1 ∧ Below w.heap.size w w'
theorem sym_neq (x1 : ByteArray) (x2 : Int) (y1 : ByteArray) (y2 : Int) (w : World) : (binOp .neq 36 (.agg #[.string x1, .int .i64 x2]) (.agg #[.string y1, .int .i64 y2])).run Tryd.prog w = .ok (.bool (!(decide (x1 = y1) && x2 == y2))) w := by
  rw [run_neq_struct, run_equalIn_struct w 9999 _ _ _ (by kernel_rfl) (by kernel_rfl)]
  simp [Op.eqFields, go_sem]
  by_cases h1 : x1 = y1
  · by_cases h2 : x2 = y2
    · simp [h1, h2]
    · simp [h1, h2]
  · have := str_neq h1
    rw [beq_eq_false_iff_ne] at this
    simp [h1, this]
theorem sym_guard (o1 o2 : Operand) (xs ys : Array Value) (w : World) : (eqGuard .neq 36 o1 o2 (.agg xs) (.agg ys)).run Tryd.prog w = .ok () w := run_eqGuard_agg w _ _ _ _ _ _ (by kernel_rfl)
set_option maxHeartbeats 1000000 in
theorem SameSign_any {S1 S2 : Nat → Prop} (a1 a2 : Option Addr) (c1 c2 : Nat) (l1 l2 : Sg) (w : World) (h1 : Sign S1 w a1 c1 l1) (h2 : Sign S2 w a2 c2 l2) :
    Calls Tryd.prog 8 #[.slice a1 l1.length c1, .slice a2 l2.length c2] w fun e w' => e = .returned (.bool (decide (l1 = l2))) ∧ Drew w w' := by
  have m1 := h1.le
  have m2 := h2.le
  by_cases hl : l1.length = l2.length
  · have hlH := Lib.hid hl
    go_enter Tryd.func8, Tryd.ntmps8
    go_wp2
    clear hl
    go_loopw [5] (fun i wr => ∃ k : Nat, k ≤ l1.length ∧ i = .int .i64 k ∧ l1.take k = l2.take k ∧ Drew w wr) (fun i _ => l1.length - (intOf i).toNat)
    case atStart => exact ⟨0, by omega, rfl, rfl, .refl _⟩
    case round =>
      obtain ⟨k, hk, rfl, ht, n, rfl⟩ := hrel
      have htH := Lib.hid ht
      clear ht
      have hle := hlH.out
      by_cases hlt : k < l1.length
      · have hlt2 : k < l2.length := by omega
        obtain ⟨b1, o1, rfl, -, q1, q2, -, -⟩ := h1.sym k hlt
        obtain ⟨b2, o2, rfl, -, r1, r2, -, -⟩ := h2.sym k hlt2
        obtain ⟨x, hx⟩ : ∃ x, l1[k] = x := ⟨_, rfl⟩
        obtain ⟨y, hy⟩ : ∃ y, l2[k] = y := ⟨_, rfl⟩
        rw [hx] at q1 q2
        rw [hy] at r1 r2
        obtain ⟨x1, x2⟩ := x
        obtain ⟨y1, y2⟩ := y
        simp only at q1 q2 r1 r2
        have hneq := fun W => sym_neq x1 x2 y1 y2 W
        obtain ⟨bb, hbb⟩ : ∃ bb, (!(decide (x1 = y1) && x2 == y2)) = bb := ⟨_, rfl⟩
        rw [hbb] at hneq
        have hbbH := Lib.hid hbb
        clear hbb
        have hgu := fun W => sym_guard (.tmp 20) (.tmp 24) #[.string x1, .int .i64 x2] #[.string y1, .int .i64 y2] W
        have hxH := Lib.hid hx
        have hyH := Lib.hid hy
        clear h1 h2 hle hx hy
        cases bb with
        | true =>
          go_wp2
          go_quiet (fail)
          all_goals go_wp2
          go_ret
          refine ⟨ret_bool (decide_eq_false (fun e => ?_)).symm, .mk2 _ _ _⟩
          have e1 := hxH.out
          have e2 := hyH.out
          have e3 := hbbH.out
          simp only [e] at e1
          rw [e1] at e2
          cases e2
          simp at e3
        | false =>
          go_wp2
          go_quiet (fail)
          all_goals go_wp2
          refine ⟨⟨k + 1, by omega, by go_num, ?_, .mk _ _⟩, by simp [intOf]; omega⟩
          have e3 := hbbH.out
          simp only [Bool.not_eq_false', Bool.and_eq_true, beq_iff_eq, decide_eq_true_eq] at e3
          obtain ⟨rfl, rfl⟩ := e3
          rw [List.take_succ_eq_append_getElem hlt, List.take_succ_eq_append_getElem hlt2, htH.out, hxH.out, hyH.out]
      · clear hle
        have hk2 : ¬ k < l2.length := by have := hlH.out; omega
        go_wp2
        go_ret
        exact ⟨ret_bool (decide_eq_true (by have h := htH.out; rwa [List.take_of_length_le (by omega), List.take_of_length_le (by omega)] at h)).symm, .mk _ _⟩
  · go_enter Tryd.func8, Tryd.ntmps8
    have hb := int_ne hl
    go_wp2
    go_ret
    exact ⟨ret_bool (decide_eq_false (fun e => hl (by rw [e]))).symm, .refl _⟩
end Go.Proofs.YtljkojpooajlhaaDoor
