/- The card of TongueCarries: for every input TongueCarries returns true and leaves its arguments as they were; the listed variables are tied to the program's text. No condition. -/
import Derived.Test.YtnhaoalcpbefoaaGreatDoorMsB
import Derived.Test.YtnhaoalcpbefoaaGreatDoorMsD
import Derived.Test.YtnhaoalcpbefoaaGreatDoorBase
import Derived.ProofKit
import Derived.LaidMore
import Derived.OpenShut
import Derived.Stop.Joined
import Derived.BigRegion
import Derived.Test.YtnhaoalcpbefoaaGreatDoorMsC
import Derived.Test.YtnhaoalcpbefoaaGreatDoorMsE
import Derived.Test.YtnhaoalcpbefoaaGreatDoorMathCarr2
import Derived.Test.YtnhaoalcpbefoaaGreatDoorWalkH
import Derived.Test.YtnhaoalcpbefoaaGreatDoorCards
import Derived.Test.YtnhaoalcpbefoaaGreatDoorTie
/- Walks of package kernel: steps in memory; right, valid, ValidGivens, asked. -/
namespace Go.Proofs.YtnhaoalcpbefoaaGreatDoor
open Go Go.RowKit Go.Maps

/-- struct { Kind, A, B int } -/
def stpE : Enc Stp := pairE intE (pairE intE intE)
abbrev Steps := Sl stpE
abbrev stpV (x : Stp) : Value := .agg #[.int .i64 x.1, .int .i64 x.2.1, .int .i64 x.2.2]
def stpR (x : Stp) : Prop := inRange x.1 ∧ inRange x.2.1 ∧ inRange x.2.2
theorem Sl.stp {S : Nat → Prop} {w : World} {a : Option Addr} {c : Nat} {l : List Stp} (h : Steps S w a c l) (i : Nat) (hi : i < l.length) :
    ∃ b off, a = some ⟨b, off, none⟩ ∧ S b ∧ w.cell? ⟨b, off + i * 3, none⟩ = some (.int .i64 l[i].1) ∧ w.cell? ⟨b, off + i * 3 + 1, none⟩ = some (.int .i64 l[i].2.1) ∧ w.cell? ⟨b, off + i * 3 + 2, none⟩ = some (.int .i64 l[i].2.2) ∧ stpR l[i] := by
  obtain ⟨b, off, ha, hb, _, vs, _, hv, hr⟩ := h.at1 i hi
  obtain ⟨us, ts, rfl, ⟨rfl, h1⟩, us', ts', rfl, ⟨rfl, h2⟩, ⟨rfl, h3⟩⟩ := hr
  have h0 := hv 0 (by simp)
  have h4 := hv 1 (by simp)
  have h5 := hv 2 (by simp)
  simp [stpE, pairE, intE] at h0 h4 h5
  exact ⟨b, off, ha, hb, h0, h4, h5, h1, h2, h3⟩

theorem okSteps_snoc {G : Int} : ∀ (p : List Stp) (n : Nat) (x : Stp), okSteps G n (p ++ [x]) = (okSteps G n p && rightB G (n + p.length) x)
  | [], n, x => by simp [okSteps]
  | y :: p, n, x => by
    rw [List.cons_append, okSteps, okSteps, okSteps_snoc p (n + 1) x, Bool.and_assoc, List.length_cons, show n + 1 + p.length = n + (p.length + 1) by omega]
theorem okSteps_take {G : Int} : ∀ (p : List Stp) (n k : Nat), okSteps G n p = true → okSteps G n (p.take k) = true
  | [], _, _, _ => by simp [okSteps]
  | x :: p, n, 0, _ => rfl
  | x :: p, n, k + 1, h => by
    simp only [okSteps, Bool.and_eq_true] at h
    rw [List.take_succ_cons, okSteps, Bool.and_eq_true]
    exact ⟨h.1, okSteps_take p (n + 1) k h.2⟩
end Go.Proofs.YtnhaoalcpbefoaaGreatDoor

/- Facts of the program's types that the rows over the kernel want; the start of a row that lists variables. -/
namespace Go.Proofs.YtnhaoalcpbefoaaGreatDoor
open Go Go.RowKit Go.ChangeShapes Go.WideShapes Go.ChangeAt Go.Deep

theorem gives3 {P : Program} {t : TypeId} {α β γ : Type} {E : Enc α} {F : Enc β} {G : Enc γ} {f0 f1 f2 : Field} (ht : P.underlying t = some (.struct #[f0, f1, f2])) (h0 : f0.offset = 0) (h1 : f1.offset = E.size) (h2 : f2.offset = E.size + F.size) (hc : P.cellsOf t = E.size + (F.size + G.size))
    (hc0 : P.cellsOf f0.type = E.size) (hc1 : P.cellsOf f1.type = F.size) (hc2 : P.cellsOf f2.type = G.size) (g0 : Gives P f0.type E) (g1 : Gives P f1.type F) (g2 : Gives P f2.type G) : Gives P t (pairE E (pairE F G)) := by
  intro H enc w base spare held n cs x h
  obtain ⟨y0, y1, y2, n', _, hl, r0, r1, r2⟩ := trod_struct3 ht h
  obtain ⟨a, ha⟩ := g0 H enc w base spare held n' _ _ r0
  obtain ⟨b, hb⟩ := g1 H enc w base spare held n' _ _ r1
  obtain ⟨c, hcc⟩ := g2 H enc w base spare held n' _ _ r2
  refine ⟨(a, b, c), _, _, ?_, ha, _, _, rfl, hb, hcc⟩
  rw [h0, h1, h2, hc0, hc1, hc2, List.drop_zero]
  have e1 : (cs.drop (E.size + F.size)).take G.size = cs.drop (E.size + F.size) := List.take_of_length_le (by simp; omega)
  rw [e1, ← List.drop_drop, List.take_append_drop, List.take_append_drop]
theorem gives_array2 {P : Program} {t e : TypeId} {α : Type} {E : Enc α} (ht : P.underlying t = some (.array 2 e)) (hc : P.cellsOf t = E.size + E.size) (he : P.cellsOf e = E.size) (g : Gives P e E) : Gives P t (pairE E E) := by
  intro H enc w base spare held n cs x h
  obtain ⟨xs, m, _, _, hl, hx, hf⟩ := DataW.trod_array ht h
  match xs, hx with
  | [x0, x1], _ =>
    obtain ⟨a, ha⟩ := g H enc w base spare held m _ _ (hf 0 (by omega))
    obtain ⟨b, hb⟩ := g H enc w base spare held m _ _ (hf 1 (by omega))
    refine ⟨(a, b), _, _, ?_, ha, hb⟩
    rw [he, Nat.zero_mul, Nat.one_mul, List.drop_zero]
    have e1 : (cs.drop E.size).take E.size = cs.drop E.size := List.take_of_length_le (by simp; omega)
    rw [e1, List.take_append_drop]
end Go.Proofs.YtnhaoalcpbefoaaGreatDoor

/- Walks: lemmaryref03.OneToOne, in, Image; few, small of the laws on tongues. -/
namespace Go.Proofs.YtnhaoalcpbefoaaGreatDoor
open Go Go.RowKit Go.Maps

def roRel1 (d : Ways) (w : World) (i : Value) (wr : World) : Prop := ∃ k : Nat, i = .int .i64 k ∧ k ≤ d.length ∧ (tosD (d.take k)).Nodup ∧ Drew w wr
def roRel2 (d : Ways) (i : Nat) (w : World) (j : Value) (wr : World) : Prop := ∃ k : Nat, j = .int .i64 k ∧ k ≤ i ∧ (∀ (m : Nat) (h : m < d.length) (hi : i < d.length), m < k → d[m].1 ≠ d[i].1) ∧ Drew w wr
theorem nodup_snoc {l : List Int} {x : Int} (h : l.Nodup) (hx : x ∉ l) : (l ++ [x]).Nodup := by
  rw [List.nodup_append]
  exact ⟨h, by simp, fun a ha b hb => by rw [List.mem_singleton] at hb; rw [hb]; exact fun e => hx (by rw [← e]; exact ha)⟩
set_option maxRecDepth 20000 in
set_option maxHeartbeats 2000000 in
theorem rOneToOne_any {S1 S2 S3 : Nat → Prop} (a1 a2 a3 : Option Addr) (c1 c2 c3 : Nat) (a b : Sg) (d : Ways) (w : World) (h1 : Sign S1 w a1 c1 a) (h2 : Sign S2 w a2 c2 b) (h3 : WaysL S3 w a3 c3 d) :
    Calls Tryz.prog 51 #[.slice a1 a.length c1, .slice a2 b.length c2, .slice a3 d.length c3] w fun e w' => e = .returned (.bool (validD a b d && oneB a b d)) ∧ Drew w w' := by
  have m1 := h1.le
  have m2 := h2.le
  have m3 := h3.le
  have v1 := rValid3_any a1 a2 a3 c1 c2 c3 a b d w h1 h2 h3
  cases hx : validD a b d with
  | false =>
    rw [hx] at v1
    have v1H := Lib.hid v1
    clear v1 h1 h2 h3 hx
    go_enter Tryz.func51, Tryz.ntmps51
    go_wp2_with fail
    refine v1H.out.mono ?_
    rintro e w1 ⟨rfl, hb1⟩
    go_wp2_with fail
    go_ret
    exact ⟨rfl, hb1⟩
  | true =>
  rw [hx] at v1
  have v1H := Lib.hid v1
  rw [Bool.true_and]
  by_cases hab : a.length = b.length
  case neg =>
    have hn : ((a.length : Int) != (b.length : Int)) = true := by simp; omega
    have hR := Lib.hid (show oneB a b d = false by rw [oneB, decide_eq_false hab]; rfl)
    clear v1 h1 h2 h3 hx hab
    go_enter Tryz.func51, Tryz.ntmps51
    go_wp2_with fail
    refine v1H.out.mono ?_
    rintro e w1 ⟨rfl, hb1⟩
    go_wp2_with fail
    go_ret
    rw [hR.out]
    exact ⟨rfl, hb1⟩
  have hn : ((a.length : Int) != (b.length : Int)) = false := by simp; omega
  have hR := show oneB a b d = decide ((tosD d).Nodup) by rw [oneB, decide_eq_true hab, Bool.true_and]
  rw [hR]
  have h3H := Lib.hid h3
  clear v1 h1 h2 h3 hx hab hR
  go_enter Tryz.func51, Tryz.ntmps51
  go_wp2_with fail
  refine v1H.out.mono ?_
  rintro e w1 ⟨rfl, hb1⟩
  have hb1H := Lib.hid hb1
  clear hb1 v1H
  go_wp2_with fail
  go_loopw [7] (fun i wr => roRel1 d w i wr) (fun i _ => d.length - (intOf i).toNat)
  case atStart => exact ⟨0, rfl, Nat.zero_le _, by simp [tosD], hb1H.out⟩
  case round =>
    obtain ⟨i, rfl, hi, hnd, hB⟩ := hrel
    have hndH := Lib.hid hnd
    have hBH := Lib.hid hB
    clear hnd hB
    by_cases hlt : i < d.length
    · go_wp2_with fail
      go_loopw [8] (fun j wr => roRel2 d i w j wr) (fun j _ => i - (intOf j).toNat)
      case atStart => exact ⟨0, rfl, Nat.zero_le _, fun m _ _ h => by omega, hBH.out⟩
      case round =>
        obtain ⟨j, rfl, hj, hall, hB⟩ := hrel
        by_cases hlt2 : j < i
        · have hjd : j < d.length := by omega
          obtain ⟨b3, o3, ai, ci, rfl, -, qi, -, -, -⟩ := (h3H.out.drew hB).way i hlt
          obtain ⟨b4, o4, aj, cj, he, -, qj, -, -, -⟩ := (h3H.out.drew hB).way j hjd
          simp only [Option.some.injEq, Addr.mk.injEq, and_true] at he
          obtain ⟨rfl, rfl⟩ := he
          have hst : d[j].1 ≠ d[i].1 → ∀ (m : Nat) (h : m < d.length) (hi : i < d.length), m < j + 1 → d[m].1 ≠ d[i].1 := fun h0 m h hi hm => by
            by_cases e : m = j
            · subst e; exact h0
            · exact hall m h hi (by omega)
          have hbad : d[j].1 = d[i].1 → decide ((tosD d).Nodup) = false := fun h0 => decide_eq_false (fun hn => by
            have hp := List.pairwise_iff_getElem.1 hn j i (by simp [tosD]; omega) (by simp [tosD]; omega) hlt2
            exact hp (by simp [tosD, h0]))
          obtain ⟨x, hx⟩ : ∃ x, d[i].1 = x := ⟨_, rfl⟩
          obtain ⟨y, hy⟩ : ∃ x, d[j].1 = x := ⟨_, rfl⟩
          rw [hx] at qi hbad
          rw [hy] at qj hbad
          by_cases hxy : y = x
          · have hb : (y == x) = true := by simpa using hxy
            have hf := Lib.hid (hbad hxy)
            have hBJ := Lib.hid hB
            clear hall hB hst hbad hx hy hxy
            go_wp2_with fail
            go_quiet (fail)
            all_goals go_wp2_with fail
            all_goals go_ret
            rw [hf.out]
            exact ⟨rfl, drew_trans3 hBJ.out (Drew.mk _ _)⟩
          · have hb : (y == x) = false := by simpa using hxy
            have hf := Lib.hid (hst (by rw [hx, hy]; exact hxy))
            have hBJ := Lib.hid hB
            clear hall hB hst hbad hx hy hxy
            go_wp2_with fail
            go_quiet (fail)
            all_goals go_wp2_with fail
            go_roundw
            case rel => exact ⟨j + 1, by go_num, by omega, hf.out, drew_trans3 hBJ.out (Drew.mk _ _)⟩
            case measure => simp [intOf]; omega
        · have hji : j = i := by omega
          subst hji
          have hnew : (tosD (d.take (j + 1))).Nodup := by
            rw [tos_take hlt]
            refine nodup_snoc hndH.out (fun hm => ?_)
            obtain ⟨x, hx, he⟩ := List.mem_map.1 hm
            obtain ⟨m, hm2, rfl⟩ := List.getElem_of_mem hx
            rw [List.length_take] at hm2
            rw [List.getElem_take] at he
            exact hall m (by omega) hlt (by omega) he
          have hnH := Lib.hid hnew
          have hBJ := Lib.hid hB
          clear hall hB hnew
          go_wp2_with fail
          go_roundw
          case rel => exact ⟨j + 1, by go_num, by omega, hnH.out, hBJ.out⟩
          case measure => simp [intOf]; omega
    · have hkk : i = d.length := by omega
      subst hkk
      have hnd := hndH.out
      rw [List.take_length] at hnd
      have hR := Lib.hid (show decide ((tosD d).Nodup) = true from decide_eq_true hnd)
      clear hnd
      go_wp2_with fail
      go_ret
      rw [hR.out]
      exact ⟨rfl, hBH.out⟩
def rinnRel (d : Ways) (x : Int) (w : World) (i : Value) (wr : World) : Prop := ∃ k : Nat, i = .int .i64 k ∧ k ≤ d.length ∧ x ∉ tosD (d.take k) ∧ w = wr
theorem rin_any {S3 : Nat → Prop} (a3 : Option Addr) (c3 : Nat) (d : Ways) (x : Int) (w : World) (h3 : WaysL S3 w a3 c3 d) :
    Calls Tryz.prog 99 #[.slice a3 d.length c3, .int .i64 x] w fun e w' => e = .returned (.bool ((tosD d).contains x)) ∧ w = w' := by
  have m3 := h3.le
  have h3H := Lib.hid h3
  clear h3
  go_enter Tryz.func99, Tryz.ntmps99
  go_wp2_with fail
  go_loopw [5] (fun i wr => rinnRel d x w i wr) (fun i _ => d.length - (intOf i).toNat)
  case atStart => exact ⟨0, rfl, Nat.zero_le _, by simp [tosD], rfl⟩
  case round =>
    obtain ⟨k, rfl, hk, hnm, rfl⟩ := hrel
    by_cases hlt : k < d.length
    · obtain ⟨b3, o3, ai, ci, rfl, -, qi, -, -, -⟩ := h3H.out.way k hlt
      have htk := tos_take hlt
      have hin : d[k].1 ∈ tosD d := List.mem_map.2 ⟨_, List.getElem_mem hlt, rfl⟩
      obtain ⟨y, hy⟩ : ∃ y, d[k].1 = y := ⟨_, rfl⟩
      rw [hy] at qi htk hin
      by_cases hxy : y = x
      · have hb : (y == x) = true := by simpa using hxy
        have hf : (tosD d).contains x = true := by rw [← hxy]; simpa using hin
        have hfH := Lib.hid hf
        clear hnm htk hin hy hxy hf
        go_wp2_with fail
        go_ret
        rw [hfH.out]
        exact ⟨rfl, rfl⟩
      · have hb : (y == x) = false := by simpa using hxy
        have hn2 : x ∉ tosD (d.take (k + 1)) := by
          rw [htk, List.mem_append, List.mem_singleton]
          exact fun e => e.elim hnm (fun e => hxy e.symm)
        have hnH := Lib.hid hn2
        clear hnm htk hin hy hxy hn2
        go_wp2_with fail
        go_roundw
        case rel => exact ⟨k + 1, by go_num, by omega, hnH.out, rfl⟩
        case measure => simp [intOf]; omega
    · rw [List.take_of_length_le (by omega)] at hnm
      have hf : (tosD d).contains x = false := by
        rw [Bool.eq_false_iff]
        intro e
        exact hnm (by simpa using e)
      have hfH := Lib.hid hf
      clear hnm hf
      go_wp2_with fail
      go_ret
      rw [hfH.out]
      exact ⟨rfl, rfl⟩
def rimgRel (d : Ways) (n : Nat) (w : World) (out i : Value) (wr : World) : Prop := ∃ k : Nat, i = .int .i64 k ∧ k ≤ n ∧ OwnI wr w.heap.size out (imgK d k) ∧ Below w.heap.size w wr
theorem imgK_len (d : Ways) (n : Nat) : (imgK d n).length ≤ n := by unfold imgK; exact Nat.le_trans (List.length_filter_le _ _) (by rw [ascL_len]; exact Nat.le_refl _)
end Go.Proofs.YtnhaoalcpbefoaaGreatDoor

/- Walks: few, small of the laws on tongues. -/
namespace Go.Proofs.YtnhaoalcpbefoaaGreatDoor
open Go Go.RowKit Go.Maps

def fewB (d : Ways) : Bool := d.all (fun x => decide (x.2.length ≤ 40)) && decide (d.length ≤ 40)
theorem fewB_le {d : Ways} (h : fewB d = true) : d.length ≤ 40 ∧ ∀ x ∈ d, x.2.length ≤ 1000 := by
  unfold fewB at h
  rw [Bool.and_eq_true, List.all_eq_true, decide_eq_true_eq] at h
  refine ⟨h.2, fun x hx => ?_⟩
  have := h.1 x hx
  rw [decide_eq_true_eq] at this
  omega
def fewRel (d : Ways) (w : World) (i : Value) (wr : World) : Prop := ∃ k : Nat, i = .int .i64 k ∧ k ≤ d.length ∧ (d.take k).all (fun x => decide (x.2.length ≤ 40)) = true ∧ w = wr
theorem few_any {S3 : Nat → Prop} (a3 : Option Addr) (c3 : Nat) (d : Ways) (w : World) (h3 : WaysL S3 w a3 c3 d) :
    Calls Tryz.prog 18 #[.slice a3 d.length c3] w fun e w' => e = .returned (.bool (fewB d)) ∧ w = w' := by
  have m3 := h3.le
  have h3H := Lib.hid h3
  clear h3
  go_enter Tryz.func18, Tryz.ntmps18
  go_wp2_with fail
  go_loopw [3] (fun i wr => fewRel d w i wr) (fun i _ => d.length - (intOf i).toNat)
  case atStart => exact ⟨0, rfl, Nat.zero_le _, by simp, rfl⟩
  case round =>
    obtain ⟨k, rfl, hk, hal, rfl⟩ := hrel
    by_cases hlt : k < d.length
    · obtain ⟨b3, o3, ai, ci, rfl, -, -, qi, -, hI⟩ := h3H.out.way k hlt
      have hma := hI.le
      have hst : d[k].2.length ≤ 40 → (d.take (k + 1)).all (fun x => decide (x.2.length ≤ 40)) = true := fun h => by
        rw [List.take_succ_eq_append_getElem hlt, List.all_append, hal]
        simpa using h
      have hbad : 40 < d[k].2.length → fewB d = false := fun h => by
        have : d.all (fun x => decide (x.2.length ≤ 40)) = false := by rw [List.all_eq_false]; exact ⟨d[k], List.getElem_mem hlt, by simpa using h⟩
        unfold fewB; rw [this]; rfl
      obtain ⟨n, hn⟩ : ∃ n, d[k].2.length = n := ⟨_, rfl⟩
      rw [hn] at qi hst hbad hma
      by_cases h40 : n ≤ 40
      · have hf := Lib.hid (hst h40)
        clear hst hbad hal hn hI
        go_wp2_with fail
        go_roundw
        case rel => exact ⟨k + 1, by go_num, by omega, hf.out, rfl⟩
        case measure => simp [intOf]; omega
      · have hf := Lib.hid (hbad (by omega))
        clear hst hbad hal hn hI
        go_wp2_with fail
        go_ret
        exact ⟨ret_bool hf.out.symm, rfl⟩
    · rw [List.take_of_length_le (by omega)] at hal
      have hf : fewB d = decide (d.length ≤ 40) := by unfold fewB; rw [hal, Bool.true_and]
      have hfH := Lib.hid hf
      clear hal hf
      go_wp2_with fail
      go_ret
      refine ⟨ret_bool ?_, rfl⟩
      rw [hfH.out, Bool.eq_iff_iff]; simp; omega
def smallTr (a b : Sg) (d : Ways) : Bool := smallT a [] && (smallT b [] && fewB d)
set_option maxHeartbeats 1000000 in
theorem smallTr_any {S1 S2 S3 : Nat → Prop} (a1 a2 a3 : Option Addr) (c1 c2 c3 : Nat) (a b : Sg) (d : Ways) (w : World) (h1 : Sign S1 w a1 c1 a) (h2 : Sign S2 w a2 c2 b) (h3 : WaysL S3 w a3 c3 d) :
    Calls Tryz.prog 8 #[.agg #[.slice a1 a.length c1, .slice a2 b.length c2, .slice a3 d.length c3]] w fun e w' => e = .returned (.bool (smallTr a b d)) ∧ Below w.heap.size w w' := by
  have m1 := h1.le
  have m2 := h2.le
  have m3 := h3.le
  obtain ⟨W, hW⟩ : ∃ W, w.alloc (.cells #[.slice a1 a.length c1, .slice a2 b.length c2, .slice a3 d.length c3] 26) = W := ⟨_, rfl⟩
  have hB : Below w.heap.size w W := by rw [← hW]; exact below1 w _
  have q0 : W.cell? ⟨w.heap.size, 0, none⟩ = some (.slice a1 a.length c1) := by rw [← hW]; clear hW; go_simp
  have q1 : W.cell? ⟨w.heap.size, 1, none⟩ = some (.slice a2 b.length c2) := by rw [← hW]; clear hW; go_simp
  have q2 : W.cell? ⟨w.heap.size, 2, none⟩ = some (.slice a3 d.length c3) := by rw [← hW]; clear hW; go_simp
  have s1 : Calls Tryz.prog 9 #[.slice a1 a.length c1, .slice none 0 0] W fun e w' => e = .returned (.bool (smallT a [])) ∧ W = w' := Small_any a1 none c1 0 a [] W (h1.below hB) (Sl.empty (S := fun _ => True))
  have s2 : Calls Tryz.prog 9 #[.slice a2 b.length c2, .slice none 0 0] W fun e w' => e = .returned (.bool (smallT b [])) ∧ W = w' := Small_any a2 none c2 0 b [] W (h2.below hB) (Sl.empty (S := fun _ => True))
  have s3 := few_any a3 c3 d W (h3.below hB)
  have s1H := Lib.hid s1
  have s2H := Lib.hid s2
  have s3H := Lib.hid s3
  have hBH := Lib.hid hB
  clear s1 s2 s3 hB h1 h2 h3
  unfold smallTr
  cases hx : smallT a [] with
  | false =>
    rw [hx] at s1H
    clear hx
    go_enter Tryz.func8, Tryz.ntmps8
    go_wp2_with fail
    try rw [hW]
    go_wp2_with fail
    refine s1H.out.mono ?_
    rintro e w1 ⟨rfl, rfl⟩
    go_wp2_with fail
    go_ret
    exact ⟨rfl, hBH.out⟩
  | true =>
  rw [hx] at s1H
  cases hy : smallT b [] with
  | false =>
    rw [hy] at s2H
    clear hx hy
    go_enter Tryz.func8, Tryz.ntmps8
    go_wp2_with fail
    try rw [hW]
    go_wp2_with fail
    refine s1H.out.mono ?_
    rintro e w1 ⟨rfl, rfl⟩
    go_wp2_with fail
    refine s2H.out.mono ?_
    rintro e w1 ⟨rfl, rfl⟩
    go_wp2_with fail
    go_ret
    exact ⟨rfl, hBH.out⟩
  | true =>
  rw [hy] at s2H
  obtain ⟨z, hz⟩ : ∃ z, fewB d = z := ⟨_, rfl⟩
  rw [hz] at s3H ⊢
  clear hx hy hz
  go_enter Tryz.func8, Tryz.ntmps8
  go_wp2_with fail
  try rw [hW]
  go_wp2_with fail
  refine s1H.out.mono ?_
  rintro e w1 ⟨rfl, rfl⟩
  go_wp2_with fail
  refine s2H.out.mono ?_
  rintro e w1 ⟨rfl, rfl⟩
  go_wp2_with fail
  refine s3H.out.mono ?_
  rintro e w1 ⟨rfl, rfl⟩
  go_wp2_with fail
  go_ret
  exact ⟨by simp, hBH.out⟩
end Go.Proofs.YtnhaoalcpbefoaaGreatDoor

/- Walks: lemmaryref03.Inverse. -/
namespace Go.Proofs.YtnhaoalcpbefoaaGreatDoor
open Go Go.RowKit Go.Maps

theorem keepJ3 {W1 w1 w2 : World} {p1 p2 p3 : Addr} {v1 v2 v3 : Value} (h : Below W1.heap.size W1 w1 ∧ w1.cell? p1 = some v1 ∧ w1.cell? p2 = some v2 ∧ w1.cell? p3 = some v3) (hb : Below w1.heap.size w1 w2) :
    Below W1.heap.size W1 w2 ∧ w2.cell? p1 = some v1 ∧ w2.cell? p2 = some v2 ∧ w2.cell? p3 = some v3 :=
  ⟨bcall h.1 hb, cell_later hb h.2.1, cell_later hb h.2.2.1, cell_later hb h.2.2.2⟩
def ijRel (A : List Int) (g : Nat) (W1 : World) (i : Value) (wr : World) : Prop := ∃ q : Nat, i = .int .i64 q ∧ q ≤ A.length ∧ OwnI wr g (.slice (some ⟨g, 0, none⟩) A.length A.length) (invA A A.length q) ∧ W1.grownBy wr (some g)
end Go.Proofs.YtnhaoalcpbefoaaGreatDoor

/- The law TongueCarries, walked. -/
namespace Go.Proofs.YtnhaoalcpbefoaaGreatDoor
open Go Go.RowKit Go.Maps

theorem crdE_casesT (a b : Sg) (d : Ways) (t : List Int) : ((crdE a b d t).2 ≠ 0) ∨ (validD a b d = true ∧ okT a t = true ∧ crdE a b d t = (carT a d t, 0)) := by
  unfold crdE
  cases h1 : validD a b d
  · left; simp
  · cases h2 : okT a t
    · left; simp
    · right; simp
theorem crdE_okT {a b : Sg} {d : Ways} {t : List Int} (h1 : validD a b d = true) (h2 : okT a t = true) : crdE a b d t = (carT a d t, 0) := by
  unfold crdE
  rw [h1, h2, Bool.and_self, if_pos rfl]
theorem Canon_ok {S1 S2 : Nat → Prop} (a1 a2 : Option Addr) (c1 c2 : Nat) (s : Sg) (t : List Int) (w : World) (h1 : Sign S1 w a1 c1 s) (h2 : Ints S2 w a2 c2 t) (h : okT s t = true) :
    Calls Tryz.prog 16 #[.slice a1 s.length c1, .slice a2 t.length c2] w (retIE (canon t, 0) w) :=
  (Canonical_any a1 a2 c1 c2 s t w h1 h2).mono fun e w' ⟨v, n, he, hb, _, hc⟩ => by
    obtain ⟨rfl, ho⟩ := hc h
    obtain ⟨aC, cC, rfl, hC⟩ := OwnI.ints ho
    exact ⟨aC, cC, he, hC, hb⟩
theorem Depth_ok {S1 S2 : Nat → Prop} (a1 a2 : Option Addr) (c1 c2 : Nat) (s : Sg) (t : List Int) (w : World) (h1 : Sign S1 w a1 c1 s) (h2 : Ints S2 w a2 c2 t) (h : okT s t = true) {n : Nat} (hn : depth s t = n) :
    Calls Tryz.prog 14 #[.slice a1 s.length c1, .slice a2 t.length c2] w fun e w' => e = .returned (.tuple #[.int .i64 (n : Int), .int .i64 0]) ∧ Below w.heap.size w w' := by
  have := Depth_any a1 a2 c1 c2 s t w h1 h2
  rw [if_pos h, hn] at this
  exact this
theorem VarsN_any {S : Nat → Prop} (a : Option Addr) (c : Nat) (t : List Int) (w : World) (h : Ints S w a c t) (hl : t.length ≤ lim) (ht : tame t) {n : Nat} (hn : (varsC t).length = n) :
    Calls Tryz.prog 15 #[.slice a t.length c] w fun e w' => ∃ aV cV, e = .returned (.slice aV n cV) ∧ Below w.heap.size w w' :=
  (Variables_any a c t w h hl ht).mono fun e w' ⟨v, he, ho, hb⟩ => by
    obtain ⟨aC, cC, rfl, hC⟩ := OwnI.ints ho
    have e1 : (varsV t).length = n := by unfold varsV; rw [List.length_map, hn]
    rw [e1] at he
    exact ⟨aC, cC, he, hb⟩
set_option maxRecDepth 100000 in
set_option maxHeartbeats 8000000 in
theorem TongueCarries_walk {S1 S2 S3 S4 : Nat → Prop} (a1 : Option Addr) (c1 : Nat) (a : Sg) (a2 : Option Addr) (c2 : Nat) (b : Sg) (a3 : Option Addr) (c3 : Nat) (d : Ways) (a4 : Option Addr) (c4 : Nat) (t : List Int) (w : World) (h1 : Sign S1 w a1 c1 a) (h2 : Sign S2 w a2 c2 b) (h3 : WaysL S3 w a3 c3 d) (h4 : Ints S4 w a4 c4 t) :
    Calls Tryz.prog 3 #[.agg #[.slice a1 a.length c1, .slice a2 b.length c2, .slice a3 d.length c3], .slice a4 t.length c4] w fun e w' => e = .returned (.bool true) ∧ Below w.heap.size w w' := by
  have m1 := h1.le
  have m2 := h2.le
  have m3 := h3.le
  have m4 := h4.le
  obtain ⟨W, hW⟩ : ∃ W, w.alloc (.cells #[.slice a1 a.length c1, .slice a2 b.length c2, .slice a3 d.length c3] 26) = W := ⟨_, rfl⟩
  have hB : Below w.heap.size w W := by rw [← hW]; exact below1 w _
  have q0 : W.cell? ⟨w.heap.size, 0, none⟩ = some (.slice a1 a.length c1) := by rw [← hW]; clear hW; go_simp
  have q1 : W.cell? ⟨w.heap.size, 1, none⟩ = some (.slice a2 b.length c2) := by rw [← hW]; clear hW; go_simp
  have q2 : W.cell? ⟨w.heap.size, 2, none⟩ = some (.slice a3 d.length c3) := by rw [← hW]; clear hW; go_simp
  have sm := smallTr_any a1 a2 a3 c1 c2 c3 a b d W (h1.below hB) (h2.below hB) (h3.below hB)
  have aw := Lib.hid (fun W' (hb : Below w.heap.size w W') => aw3_from hb (Nat.le_refl _))
  have hBH := Lib.hid hB
  cases hs : smallTr a b d with
  | false =>
    rw [hs] at sm
    have smH := Lib.hid sm
    clear hB h1 h2 h3 h4 sm hs
    go_enter Tryz.func3, Tryz.ntmps3
    go_wp2_with fail
    try rw [hW]
    go_wp2_with fail
    refine smH.out.mono ?_
    rintro e w1 ⟨rfl, hb1⟩
    go_wp2_with fail
    refine (aw.out _ (bcall hBH.out hb1)).mono ?_
    rintro e w2 ⟨rfl, hb2⟩
    go_wp2_with fail
    go_ret
    exact ⟨rfl, hb2⟩
  | true =>
  rw [hs] at sm
  have smH := Lib.hid sm
  have hda : ∀ x ∈ d, x.2.length ≤ 1000 := by
    unfold smallTr at hs
    simp only [Bool.and_eq_true] at hs
    exact (fewB_le hs.2.2).2
  have Q : ∀ W', Below W.heap.size W W' → Below w.heap.size w W' ∧ W'.cell? ⟨w.heap.size, 0, none⟩ = some (.slice a1 a.length c1) ∧ W'.cell? ⟨w.heap.size, 1, none⟩ = some (.slice a2 b.length c2) ∧ W'.cell? ⟨w.heap.size, 2, none⟩ = some (.slice a3 d.length c3) := fun W' hb =>
    ⟨bcall hBH.out hb, cell_later hb q0, cell_later hb q1, cell_later hb q2⟩
  have QH := Lib.hid Q
  have st : ∀ W', Below w.heap.size w W' → Calls Tryz.prog 9 #[.slice none 0 0, .slice (some ⟨W'.heap.size, 0, none⟩) 1 1] (W'.alloc (.cells #[.slice a4 t.length c4] 28)) fun e w' => e = .returned (.bool (smallT [] [t])) ∧ W'.alloc (.cells #[.slice a4 t.length c4] 28) = w' := fun W' hb =>
    Small_any none (some ⟨W'.heap.size, 0, none⟩) 0 1 [] [t] _ (Sl.empty (S := fun _ => True)) (Sl.new (E := slE intE) (S := fun _ => True) W' [[.slice a4 t.length c4]] [t] 28 rfl (by unfold big; simp) (fun i g1 g2 => by
      match i, g1 with
      | 0, _ => exact ⟨_, _, rfl, (h4.below hb).any⟩))
  have stH := Lib.hid st
  have h1H := Lib.hid h1
  have h2H := Lib.hid h2
  have h3H := Lib.hid h3
  have h4H := Lib.hid h4
  have hdaH := Lib.hid hda
  clear hB h1 h2 h3 h4 sm hs hda Q st
  cases hz : smallT [] [t] with
  | false =>
    go_enter Tryz.func3, Tryz.ntmps3
    go_wp2_with fail
    try rw [hW]
    go_wp2_with fail
    refine smH.out.mono ?_
    rintro e w1 ⟨rfl, hb1⟩
    have hBB := bcall hBH.out hb1
    have st1 := stH.out w1 hBB
    rw [hz] at st1
    have st1H := Lib.hid st1
    clear st1
    go_wp2_with fail
    refine st1H.out.mono ?_
    rintro e w2 ⟨rfl, rfl⟩
    go_wp2_with fail
    refine (aw.out _ (bcall hBB (below1 _ _))).mono ?_
    rintro e w2 ⟨rfl, hb2⟩
    go_wp2_with fail
    go_ret
    exact ⟨rfl, hb2⟩
  | true =>
  have hRc := Lib.hid (crdE_casesT a b d t)
  obtain ⟨⟨U, E3⟩, hU⟩ : ∃ x, crdE a b d t = x := ⟨_, rfl⟩
  have f1 : (E3 != E3) = false := by simp
  go_enter Tryz.func3, Tryz.ntmps3
  go_wp2_with fail
  try rw [hW]
  go_wp2_with fail
  refine smH.out.mono ?_
  rintro e w1 ⟨rfl, hb1⟩
  have hBB := bcall hBH.out hb1
  have st1 := stH.out w1 hBB
  obtain ⟨w0, hW2⟩ : ∃ W2, w1.alloc (.cells #[.slice a4 t.length c4] 28) = W2 := ⟨_, rfl⟩
  rw [hz, hW2] at st1
  have st1H := Lib.hid st1
  have hb2 := bcall hb1 (below1 w1 (.cells #[.slice a4 t.length c4] 28))
  rw [hW2] at hb2
  obtain ⟨hb3, p0, p1, p2⟩ := QH.out _ hb2
  have hT0H := Lib.hid hb2
  have hw0H := Lib.hid hb3
  clear st1 hb2 hb3 hBB hW hb1 hz
  go_wp2_with fail
  refine st1H.out.mono ?_
  rintro e w2 ⟨rfl, rfl⟩
  clear st1H smH hW2
  have cc10 := Carried_any a1 a2 a3 a4 c1 c2 c3 c4 a b d t _ (h1H.out.below hw0H.out) (h2H.out.below hw0H.out) (h3H.out.below hw0H.out) (h4H.out.below hw0H.out) hdaH.out
  rw [hU] at cc10
  have cc1 := Lib.hid cc10
  clear cc10
  go_wp2_with fail
  refine cc1.out.mono ?_
  rintro e w1 ⟨aU, cU, rfl, hU, hb1⟩
  have hT1 := bcall hT0H.out hb1
  obtain ⟨hw1, p0, p1, p2⟩ := QH.out _ hT1
  have U_1 := Lib.hid hU
  have mU := hU.le
  have hT1H := Lib.hid hT1
  have hw1H := Lib.hid hw1
  clear hT1 hw1 hb1 hT0H hw0H hU cc1
  have cc20 := rCarried_any a1 a2 a3 a4 c1 c2 c3 c4 a b d t _ (h1H.out.below hw1H.out) (h2H.out.below hw1H.out) (h3H.out.below hw1H.out) (h4H.out.below hw1H.out)
  rw [hU] at cc20
  have cc2 := Lib.hid cc20
  clear cc20
  go_wp2_with fail
  refine cc2.out.mono ?_
  rintro e w2 ⟨aV, cV, rfl, hV, hb2⟩
  have hT2 := bcall hT1H.out hb2
  obtain ⟨hw2, p0, p1, p2⟩ := QH.out _ hT2
  have U_2 := Lib.hid (U_1.out.below hb2)
  have V_2 := Lib.hid hV
  have mV := hV.le
  have hT2H := Lib.hid hT2
  have hw2H := Lib.hid hw2
  clear hT2 hw2 hb2 hT1H hw1H U_1 hV cc2
  have cc30 := Same_any aU aV cU cV U U _ U_2.out V_2.out
  rw [decide_eq_true rfl] at cc30
  have cc3 := Lib.hid cc30
  clear cc30
  go_wp2_with fail
  refine cc3.out.mono ?_
  rintro e w3 ⟨rfl, hd3⟩
  have hb3 := hd3.below w2.heap.size
  have hT3 := bcall hT2H.out hb3
  obtain ⟨hw3, p0, p1, p2⟩ := QH.out _ hT3
  have U_3 := Lib.hid (U_2.out.below hb3)
  have V_3 := Lib.hid (V_2.out.below hb3)
  have hT3H := Lib.hid hT3
  have hw3H := Lib.hid hw3
  clear hT3 hw3 hb3 hT2H hw2H U_2 V_2 cc3 hd3
  have hRc0 := hRc.out
  rw [hU] at hRc0
  rcases hRc0 with hF | ⟨hv, ht, hUe⟩
  · have f3 : (E3 != 0) = true := by simpa using hF
    clear hF hU hRc
    have ca4 := Lib.hid (aw.out _ hw3H.out)
    go_wp2_with fail
    refine ca4.out.mono ?_
    rintro e wZ ⟨rfl, hbZ⟩
    go_wp2_with fail
    go_ret
    exact ⟨rfl, hbZ⟩
  obtain ⟨rfl, rfl⟩ : U = carT a d t ∧ E3 = 0 := by
    injection hUe with x1 x2
    exact ⟨x1, x2⟩
  obtain ⟨hok, hln⟩ := carT_ok hv t.length ht (Nat.le_refl _)
  have hdp := car_depth hv t.length ht (Nat.le_refl _)
  have hvr := car_vars hv ht
  have hcn := car_canon hv ht
  have htc := okT_canon ht
  have hok2 := (carT_ok hv _ htc (Nat.le_refl _)).1
  have o4 := crdE_okT hv htc
  have ok1 := okT_parts ht
  have htm := okT_tame ht
  have htm2 := okT_tame hok
  have hl60 : t.length ≤ lim := by unfold lim; omega
  obtain ⟨R, hR⟩ : ∃ R, carT a d t = R := ⟨_, rfl⟩
  rw [hR] at hok hln hdp hvr hcn htm2 U_3 mU
  try simp only [hR]
  obtain ⟨R2, hR2⟩ : ∃ R2, carT a d (canon t) = R2 := ⟨_, rfl⟩
  rw [hR2] at hok2 hcn o4
  obtain ⟨n, hn⟩ : ∃ n, depth a t = n := ⟨_, rfl⟩
  obtain ⟨k, hk⟩ : ∃ k, (varsC t).length = k := ⟨_, rfl⟩
  rw [hn] at hdp
  rw [hk] at hvr
  have hR60 : R.length ≤ lim := by omega
  have f4 : (((n : Nat) : Int) != ((n : Nat) : Int)) = false := by simp
  have f5 : (((R.length : Nat) : Int) != ((t.length : Nat) : Int)) = false := by rw [hln]; simp
  have f6 : (((k : Nat) : Int) != ((k : Nat) : Int)) = false := by simp
  have hk60 : k ≤ 1000 := by have := varsC_length t; unfold lim at hl60; omega
  have hal : alikeT b R R2 = true := by unfold alikeT; rw [hok, hok2, decide_eq_true hcn.symm]; rfl
  have htH := Lib.hid ht
  have hokH := Lib.hid hok
  have hdpH := Lib.hid hdp
  have hvrH := Lib.hid hvr
  have hnH := Lib.hid hn
  have hkH := Lib.hid hk
  have htmH := Lib.hid htm
  have htm2H := Lib.hid htm2
  have halH := Lib.hid hal
  have o4H := Lib.hid o4
  have hl60H := Lib.hid hl60
  have hR60H := Lib.hid hR60
  obtain ⟨K, hK⟩ : ∃ K, canon t = K := ⟨_, rfl⟩
  simp only [hK] at o4H
  have hKH := Lib.hid hK
  clear hv ht hU hRc hUe hok hln hdp hvr hcn htc hok2 o4 ok1 htm htm2 hR hR2 hn hk hal hl60 hR60 hK
  have cc40 := Depth_ok a1 a4 c1 c4 a t _ (h1H.out.below hw3H.out) (h4H.out.below hw3H.out) htH.out hnH.out
  have cc4 := Lib.hid cc40
  clear cc40
  go_wp2_with fail
  refine cc4.out.mono ?_
  rintro e w4 ⟨rfl, hb4⟩
  have hT4 := bcall hT3H.out hb4
  obtain ⟨hw4, p0, p1, p2⟩ := QH.out _ hT4
  have U_4 := Lib.hid (U_3.out.below hb4)
  have hT4H := Lib.hid hT4
  have hw4H := Lib.hid hw4
  clear hT4 hw4 hb4 hT3H hw3H U_3 V_3 cc4
  have cc50 := Depth_ok a2 aU c2 cU b R _ (h2H.out.below hw4H.out) U_4.out hokH.out hdpH.out
  have cc5 := Lib.hid cc50
  clear cc50
  go_wp2_with fail
  refine cc5.out.mono ?_
  rintro e w5 ⟨rfl, hb5⟩
  have hT5 := bcall hT4H.out hb5
  obtain ⟨hw5, p0, p1, p2⟩ := QH.out _ hT5
  have U_5 := Lib.hid (U_4.out.below hb5)
  have hT5H := Lib.hid hT5
  have hw5H := Lib.hid hw5
  clear hT5 hw5 hb5 hT4H hw4H U_4 cc5
  have cc60 := VarsN_any aU cU R _ U_5.out hR60H.out htm2H.out hvrH.out
  have cc6 := Lib.hid cc60
  clear cc60
  go_wp2_with fail
  refine cc6.out.mono ?_
  rintro e w6 ⟨aP, cP, rfl, hb6⟩
  have hT6 := bcall hT5H.out hb6
  obtain ⟨hw6, p0, p1, p2⟩ := QH.out _ hT6
  have U_6 := Lib.hid (U_5.out.below hb6)
  have hT6H := Lib.hid hT6
  have hw6H := Lib.hid hw6
  clear hT6 hw6 hb6 hT5H hw5H U_5 cc6
  have cc70 := VarsN_any a4 c4 t _ (h4H.out.below hw6H.out) hl60H.out htmH.out hkH.out
  have cc7 := Lib.hid cc70
  clear cc70
  go_wp2_with fail
  refine cc7.out.mono ?_
  rintro e w7 ⟨aQ, cQ, rfl, hb7⟩
  have hT7 := bcall hT6H.out hb7
  obtain ⟨hw7, p0, p1, p2⟩ := QH.out _ hT7
  have U_7 := Lib.hid (U_6.out.below hb7)
  have hT7H := Lib.hid hT7
  have hw7H := Lib.hid hw7
  clear hT7 hw7 hb7 hT6H hw6H U_6 cc7
  have cc80 := Canon_ok a1 a4 c1 c4 a t _ (h1H.out.below hw7H.out) (h4H.out.below hw7H.out) htH.out
  rw [hKH.out] at cc80
  have cc8 := Lib.hid cc80
  clear cc80
  go_wp2_with fail
  refine cc8.out.mono ?_
  rintro e w8 ⟨aC, cC, rfl, hC, hb8⟩
  have hT8 := bcall hT7H.out hb8
  obtain ⟨hw8, p0, p1, p2⟩ := QH.out _ hT8
  have U_8 := Lib.hid (U_7.out.below hb8)
  have C_8 := Lib.hid hC
  have mC := hC.le
  have hT8H := Lib.hid hT8
  have hw8H := Lib.hid hw8
  clear hT8 hw8 hb8 hT7H hw7H U_7 hC cc8
  have cc90 := Carried_any a1 a2 a3 aC c1 c2 c3 cC a b d K _ (h1H.out.below hw8H.out) (h2H.out.below hw8H.out) (h3H.out.below hw8H.out) C_8.out hdaH.out
  rw [o4H.out] at cc90
  have cc9 := Lib.hid cc90
  clear cc90
  go_wp2_with fail
  refine cc9.out.mono ?_
  rintro e w9 ⟨aD, cD, rfl, hD, hb9⟩
  have hT9 := bcall hT8H.out hb9
  obtain ⟨hw9, p0, p1, p2⟩ := QH.out _ hT9
  have U_9 := Lib.hid (U_8.out.below hb9)
  have C_9 := Lib.hid (C_8.out.below hb9)
  have D_9 := Lib.hid hD
  have mD := hD.le
  have hT9H := Lib.hid hT9
  have hw9H := Lib.hid hw9
  clear hT9 hw9 hb9 hT8H hw8H U_8 C_8 hD cc9
  have cc100 := Alike_any a2 aU aD c2 cU cD b R R2 _ (h2H.out.below hw9H.out) U_9.out D_9.out
  rw [halH.out] at cc100
  have cc10 := Lib.hid cc100
  clear cc100
  go_wp2_with fail
  refine cc10.out.mono ?_
  rintro e w10 ⟨rfl, hb10⟩
  have hT10 := bcall hT9H.out hb10
  obtain ⟨hw10, p0, p1, p2⟩ := QH.out _ hT10
  have U_10 := Lib.hid (U_9.out.below hb10)
  have C_10 := Lib.hid (C_9.out.below hb10)
  have D_10 := Lib.hid (D_9.out.below hb10)
  have hT10H := Lib.hid hT10
  have hw10H := Lib.hid hw10
  clear hT10 hw10 hb10 hT9H hw9H U_9 C_9 D_9 cc10
  have ca11 := Lib.hid (aw.out _ hw10H.out)
  go_wp2_with fail
  refine ca11.out.mono ?_
  rintro e wZ ⟨rfl, hbZ⟩
  go_wp2_with fail
  go_ret
  exact ⟨rfl, hbZ⟩
end Go.Proofs.YtnhaoalcpbefoaaGreatDoor

/- Facts of the program's types that the rows over the tongues want. -/
namespace Go.Proofs.YtnhaoalcpbefoaaGreatDoor
open Go Go.RowKit Go.ChangeShapes Go.WideShapes Go.ChangeAt Go.Deep

theorem gWay : Gives Tryz.prog 69 wayE := gives_pair Tryz.underlying69 rfl rfl (by kernel_rfl) (by kernel_rfl) (by kernel_rfl) gInt gInts
theorem gWays : Gives Tryz.prog 24 (slE wayE) := gives_slice Tryz.underlying24 (by kernel_rfl) gWay
theorem gTrade : Gives Tryz.prog 26 (pairE (slE symE) (pairE (slE symE) (slE wayE))) := gives3 Tryz.underlying26 rfl rfl rfl (by kernel_rfl) (by kernel_rfl) (by kernel_rfl) (by kernel_rfl) gSign gSign gWays
end Go.Proofs.YtnhaoalcpbefoaaGreatDoor

/- The card of TongueCarries: for every input TongueCarries returns true and leaves its arguments as they were; the listed variables are tied to the program's text. No condition. -/
namespace Go.Proofs.YtnhaoalcpbefoaaGreatDoor
open Go Go.RowKit Go.ChangeShapes Go.WideShapes Go.ChangeAt

theorem tongueCarries_door (os : Os) (args : Array Value) : laidMetH Tryz.prog Rows.tongueCarriesRow.laid ((World.doorLaid Tryz.prog 400 os).forCall (fun _ _ => 0) ⟨#[], args, []⟩).memory :=
  laidMetH_of_parts3 (fuel := 8) (laidMet_of_run' 8 (by kernel_rfl) (by kernel_rfl)) (by kernel_rfl) (by kernel_rfl)
set_option maxRecDepth 100000 in
theorem tongueCarries_lifted (os : Os) (started : os.Started) (H : Type) (enc : TypeId × Value → H) :
    ReturnsInHanded {} Tryz.checked os 3 .any (fun w args => (Rows.tongueCarriesSpec.pre enc Tryz.prog Tryz.f3 [] false w args ∧ laidMetH Tryz.prog Rows.tongueCarriesRow.laid w) ∧ sizedMet enc Tryz.prog Tryz.f3 (OpenSpec.ofChange Rows.tongueCarriesSpec) false w args)
      (Rows.tongueCarriesSpec.post enc Tryz.prog Tryz.f3 false true false false) := by
  refine returnsInHanded_of_change_and (C := Tryz.checked) (X := fun w _ => laidMetH Tryz.prog Rows.tongueCarriesRow.laid w) (fun _ _ _ hh h => h.of_heap hh) Tryz.own started (by kernel_rfl) Tryz.func3
    (ChangeSpec.witness_shaped (enc := enc) (C := Tryz.checked) (os := os) (X := fun w _ => laidMetH Tryz.prog Rows.tongueCarriesRow.laid w) false (World.doorLaid Tryz.prog 400 os) #[.agg #[.slice none 0 0, .slice none 0 0, .slice none 0 0], .slice none 0 0] 8 rfl (World.shaped_of_RefB (by kernel_rfl) (by kernel_rfl)) (by kernel_rfl) (by kernel_rfl) (by kernel_rfl) (tongueCarries_door os _)) ?_
  intro W base args ds gs before hval0 hW _ _ hL _
  clear hL
  have hval : ∀ (j : Nat) t v, Tryz.f3.params[j]? = some t → args[j]? = some v → Value.okWide Tryz.prog W .any base t v := hval0
  have hW' := hW
  obtain ⟨p, q, hA0, hV, rfl, hfz, hnd⟩ := hW
  have hA : DataW.TrodAll enc Tryz.prog W 0 (fun _ => true) true Tryz.f3.params.toList args.toList ds p := hA0
  rw [Tryz.params3] at hA hval
  obtain ⟨v0, v1, d0, d1, p0, p1, rfl, rfl, rfl, h0, h1⟩ := trodAll_two hA
  obtain ⟨rfl, rfl⟩ := trodVars_none hV
  clear hA0 hval0
  simp only [List.append_nil] at hW'
  have hlt : ∀ x ∈ p0 ++ p1, x.block < W.heap.size := fun x hx => hW'.lt x (by simpa using hx)
  have keep0 := fun (W' : World) (hn : Below W.heap.size W W') => Below.trod Tryz.laidOut (by kernel_rfl) (of_decide_eq_true (by kernel_rfl)) h0 hn (fun x hx => hlt x (by simp [hx]))
  have keep1 := fun (W' : World) (hn : Below W.heap.size W W') => Below.trod Tryz.laidOut (by kernel_rfl) (of_decide_eq_true (by kernel_rfl)) h1 hn (fun x hx => hlt x (by simp [hx]))
  obtain ⟨⟨t0, t1, t2⟩, vs, rfl, us, ts, rfl, ⟨a00, c00, rfl, r00⟩, us1, ts1, rfl, ⟨a01, c01, rfl, r01⟩, ⟨a02, c02, rfl, r02⟩⟩ := gTrade.argAgg h0 (let ⟨cs, h, _⟩ := okWide_struct Tryz.underlying26 (hval 0 26 v0 rfl rfl); ⟨cs, h⟩)
  obtain ⟨l1, a1, c1, rfl, r1⟩ := gTerm.arg h1 (okWide_slice Tryz.underlying28 (hval 1 28 v1 rfl rfl))
  refine (TongueCarries_walk _ _ _ _ _ _ _ _ _ _ _ _ W r00 r01 r02 r1).mono fun e W' ⟨he, hB⟩ => ?_
  subst he
  exact ⟨_, rfl, _, _, _, [], p0 ++ p1, [], hW', trodAll_mk1 (shut_bool Tryz.underlying4 true), trodAll_mk2 (keep0 _ hB) (keep1 _ hB), rfl, hB.frame _, fun h => by cases h⟩

/-- TongueCarries: for every input it returns true, and each argument reads as it did. -/
theorem tongueCarries_holds : Rows.TongueCarriesSaid :=
  OpenClaim.holds_of_wide 3 Tryz.f3 rfl rfl rfl rfl rfl rfl rfl ⟨rfl, rfl, rfl, rfl, rfl⟩ rfl rfl rfl rfl rfl (by kernel_rfl) Tryz.func3 (by kernel_rfl)
    (of_decide_eq_true (by kernel_rfl)) (by unfold Func.isWrapper; first | (rw [if_pos (by decide +kernel)]; kernel_rfl) | (rw [if_neg (by decide +kernel)]; exact ⟨rfl, rfl⟩))
    (fun os started H enc _ => tongueCarries_lifted os started H enc)
/-- the card of TongueCarries -/
theorem tongueCarries_card_holds : Rows.TongueCarriesCardSaid :=
  Claim7.holds_tied_plain_at .later [] [.data, .data, .data, .sentinel, .sentinel] true Rows.tongueCarriesCard.stood.harness Rows.tongueCarriesCard.stood.looks
    tongueCarries_holds (fun _ h => by cases h) (by kernel_rfl) (fun _ h => by cases h) tongueCarries_row_tie rfl ⟨rfl, rfl⟩ (by kernel_rfl) rfl
    (fun f fn hf hfn => by
      obtain rfl : f = 3 := Option.some.inj ((show Tryz.prog.funcNamed Rows.tongueCarriesRow.func = some 3 by kernel_rfl).symm.trans hf) |>.symm
      obtain rfl : fn = Tryz.f3 := (Option.some.inj (Tryz.func3.symm.trans hfn)).symm
      exact ⟨by kernel_rfl, fun j t ht => by
        rw [Tryz.params3] at ht
        have hm : t ∈ [26, 28] := by simpa using Array.mem_of_getElem? ht
        have hall : ([26, 28].all fun u => !Tryz.prog.wantsStandIn u) = true := by kernel_rfl
        exact (show Tryz.prog.wantsStandIn t = false by simpa using List.all_eq_true.1 hall t hm)⟩)
    (by kernel_rfl)
end Go.Proofs.YtnhaoalcpbefoaaGreatDoor
