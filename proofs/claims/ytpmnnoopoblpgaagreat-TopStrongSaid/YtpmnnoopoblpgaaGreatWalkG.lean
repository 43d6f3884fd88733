/- Walks: the reference's variables and renaming. -/
import Derived.Test.YtpmnnoopoblpgaaGreatWalkF
import Derived.Test.YtpmnnoopoblpgaaGreatMath2
namespace Go.Proofs.YtpmnnoopoblpgaaGreat
open Go Go.RowKit Go.Maps

def varRel (t : List Int) (w : World) (out i : Value) (wr : World) : Prop :=
  ∃ k : Nat, i = .int .i64 k ∧ k ≤ t.length ∧ OwnI wr w.heap.size out ((varsC (t.take k)).map vnum) ∧ Below w.heap.size w wr

set_option maxHeartbeats 1000000 in
theorem Variables_any {S : Nat → Prop} (a : Option Addr) (c : Nat) (t : List Int) (w : World) (h : Ints S w a c t) (hl : t.length ≤ lim) (ht : tame t) :
    Calls Tryz.prog 173 #[.slice a t.length c] w (retOwn w (varsV t)) := by
  have m := h.le
  go_enter Tryz.func173, Tryz.ntmps173
  go_wp2_with fail
  go_loopw [3, 4] (fun out i wr => varRel t w out i wr) (fun _ i _ => t.length - (intOf i).toNat)
  case atStart => exact ⟨0, rfl, Nat.zero_le _, .nil _ _ _ _ _, .refl _ _⟩
  case round =>
    obtain ⟨k, rfl, hk, ho, hB⟩ := hrel
    obtain ⟨L, hL⟩ : ∃ L, (varsC (t.take k)).map vnum = L := ⟨_, rfl⟩
    rw [hL] at ho
    obtain ⟨a2, c2, rfl, hI⟩ := ho.ints
    by_cases hlt : k < t.length
    · obtain ⟨b, o, rfl, -, q, hrg⟩ := h.int k hlt
      have hb : b < w.heap.size := World.block_lt_of_cell? w _ q
      have p1 := (hB.cell (p := ⟨b, o + k, none⟩) hb).trans q
      have htk := ht t[k] (List.getElem_mem hlt)
      have hsucc := varsC_take_succ hlt
      have hmm := mem_map_vnum (l := varsC (t.take k)) (x := t[k])
      clear q ht h
      obtain ⟨x, hx⟩ : ∃ x, t[k] = x := ⟨_, rfl⟩
      rw [hx] at p1 hrg hsucc htk hmm
      clear hx
      have hLn : L.length ≤ t.length := by rw [← hL, List.length_map]; have := varsC_length (t.take k); simp at this; omega
      rw [hL] at hmm
      by_cases h0 : 0 ≤ x
      · have hs : (varsC (t.take (k + 1))).map vnum = L := by rw [hsucc, addV, if_neg (by omega), hL]
        have hsH := Lib.hid hs
        have hoH := Lib.hid ho
        clear hs ho hsucc hmm hL hI
        go_wp2_with fail
        go_roundw
        case rel => exact ⟨k + 1, by go_num, by omega, by rw [hsH.out]; exact hoH.out, hB⟩
        case measure => simp [intOf]; omega
      · have hneg : x < 0 := by omega
        have hcH := fun W (hI' : Ints (fun b => w.heap.size ≤ b) W a2 c2 L) => Has_any a2 c2 L (vnum x) W hI'
        by_cases hv : x ∈ varsC (t.take k)
        · have hs : (varsC (t.take (k + 1))).map vnum = L := by rw [hsucc, addV, if_neg (fun e => e.2 hv), hL]
          have hcall := hcH wr hI
          rw [decide_eq_true (hmm.2 hv)] at hcall
          unfold vnum at hcall
          have hsH := Lib.hid hs
          have hoH := Lib.hid ho
          have hcallH := Lib.hid hcall
          clear hs ho hsucc hmm hL hI hcH hv hcall
          go_wp2_with (go_at_call 211; refine hcallH.out.mono ?_; rintro e w1 ⟨rfl, rfl⟩)
          go_roundw
          case rel => exact ⟨k + 1, by go_num, by omega, by rw [hsH.out]; exact hoH.out, hB⟩
          case measure => simp [intOf]; omega
        · have hs : (varsC (t.take (k + 1))).map vnum = L ++ [vnum x] := by rw [hsucc, addV, if_pos ⟨hneg, hv⟩, List.map_append, hL]; rfl
          have hcall := hcH wr hI
          rw [decide_eq_false (fun e => hv (hmm.1 e))] at hcall
          obtain ⟨v', w', hrun, ho', hg, hat⟩ := ho.push (P := Tryz.prog) (t := 25) (ty := 25) Tryz.underlying25 infoInt rfl (vs := [.int .i64 (vnum x)]) (x := vnum x) ⟨rfl, by unfold vnum inRange; omega⟩ (by unfold lim at hl; omega) (by unfold lim at hl; unfold big; omega) hB.size
          have hB' := hB.grown hg hB.size (fun j e => (ho.lt j e).1)
          unfold vnum at hcall hrun
          have hsH := Lib.hid hs
          have hoH := Lib.hid ho'
          have hcallH := Lib.hid hcall
          have hrunH := Lib.hid hrun
          have hBH := Lib.hid hB'
          clear hs ho hsucc hmm hL hI hcH hv hcall hrun ho' hB' hg hat
          go_wp2_with (first | (go_at_call 211; refine hcallH.out.mono ?_; rintro e w1 ⟨rfl, rfl⟩) | (at_builtin; refine wpList_append_run rfl _ _ _ rfl rfl rfl hrunH.out ?_))
          go_roundw
          case rel => exact ⟨k + 1, by go_num, by omega, by rw [hsH.out]; exact hoH.out, hBH.out⟩
          case measure => simp [intOf]; omega
    · have hLe : L = varsV t := by rw [← hL, varsV, List.take_of_length_le (by omega)]
      have hLH := Lib.hid hLe
      clear hLe hL h ht
      go_wp2_with fail
      go_ret
      exact ⟨_, rfl, by rw [← hLH.out]; exact ho, hB⟩

theorem OwnL.drewN {α : Type} {E : Enc α} {S : Nat → Prop} {w : World} {base : Nat} {e : TypeId} {v : Value} {l : List α} (h : OwnL E S w base e v l) (n : Nat) : OwnL E S (w.drewN n) base e v l := h.kept (fun _ _ => rfl) (fun _ _ _ => rfl)
theorem drewN_setCell (w : World) (n : Nat) (a : Addr) (u : Value) : (w.drewN n).setCell a u = (w.setCell a u).drewN n := rfl
def renRel (t : List Int) (w : World) (B g cap : Nat) (i : Value) (wr : World) : Prop :=
  ∃ k : Nat, i = .int .i64 k ∧ k ≤ t.length ∧ OwnI wr B (.slice (some ⟨g, 0, none⟩) t.length cap) (doneTo (canonW (varsC t)) t k) ∧ Below B w wr
def renRel2 (t : List Int) (w : World) (B g cap k : Nat) (x : Int) (j : Value) (wr : World) : Prop :=
  ∃ i : Nat, j = .int .i64 i ∧ i ≤ (varsC t).length ∧ OwnI wr B (.slice (some ⟨g, 0, none⟩) t.length cap) ((doneTo (canonW (varsC t)) t k).set k (midW t i x)) ∧ Below B w wr

set_option maxHeartbeats 1000000 in
theorem Renamed_any {S : Nat → Prop} (a : Option Addr) (c : Nat) (t : List Int) (w : World) (h : Ints S w a c t) (hl : t.length ≤ lim) (ht : tame t) (hne : t ≠ []) :
    Calls Tryz.prog 134 #[.slice a t.length c] w (retOwn w (canon t)) := by
  have m := h.le
  have hvn := varsC_length t
  obtain ⟨V, hVe, hvl, hVc⟩ : ∃ V, varsV t = V ∧ V.length = (varsC t).length ∧ ∀ j (hj : j < V.length), ∃ y, V[j] = vnum y ∧ (varsC t)[j]? = some y ∧ -1000000 ≤ y ∧ y < 0 :=
    ⟨_, rfl, by simp [varsV], fun j hj => by
      have hj' : j < (varsC t).length := by simpa [varsV] using hj
      have := mem_varsC.1 (List.getElem_mem hj')
      exact ⟨_, varsV_get hj, by simp [hj'], (ht _ this.1).1, this.2⟩⟩
  have cv := Variables_any a c t _ h hl ht
  rw [hVe] at cv
  have cvH := Lib.hid cv
  clear cv hVe
  go_enter Tryz.func134, Tryz.ntmps134
  go_wp2_with fail
  refine cvH.out.mono ?_
  rintro e w1 ⟨v, rfl, hov, hB1⟩
  obtain ⟨a2, c2, rfl, hV⟩ := hov.ints
  obtain ⟨v', w2, hrun, ho, hg, -, -⟩ := (OwnL.made intE (fun _ => False) w1 w1.heap.size 3 (Nat.le_refl _)).append_run (P := Tryz.prog) (t := 26) (ty := 26) Tryz.underlying26 infoInt rfl ((h.below hB1).below (below1 w1 (.cells #[] 3))) (fun _ _ _ h => h) (by unfold lim at hl; simp; omega) (by unfold lim at hl; unfold big; simp; omega) (by simp)
  have hB : Below w1.heap.size w1 w2 := (below1 w1 (.cells #[] 3)).grown hg (by simp) (fun k e => by simp [Value.ownBlock] at e; omega)
  rw [List.nil_append] at ho
  obtain ⟨g, cap, rfl, hg1, hg2⟩ := ho.form hne
  have hrunH := Lib.hid hrun
  have hvlH := Lib.hid hvl
  have hvm : V.length ≤ t.length := by omega
  clear hrun hg hvl
  go_wp2_with (at_builtin; refine wpList_append_run rfl _ _ _ rfl rfl rfl hrunH.out ?_)
  go_loopw [5, 6] (fun i _ wr => renRel t w1 w1.heap.size g cap i wr) (fun i _ _ => t.length - (intOf i).toNat)
  case atStart => exact ⟨0, rfl, Nat.zero_le _, by rw [doneTo_zero]; exact ho, hB⟩
  case round =>
    obtain ⟨k, rfl, hk, ho, hB⟩ := hrel
    by_cases hlt : k < t.length
    · obtain ⟨b, o, rfl, -, q, hrg⟩ := h.int k hlt
      have hb : b < w.heap.size := World.block_lt_of_cell? w _ q
      have hb1 : b < w1.heap.size := Nat.lt_of_lt_of_le hb hB1.size
      have q1 := (hB1.cell (p := ⟨b, o + k, none⟩) hb).trans q
      have hdone := doneTo_set hlt (f := canonW (varsC t))
      have hdsame := doneTo_set_same hlt (f := canonW (varsC t))
      have hxm := List.getElem_mem hlt
      obtain ⟨x, hx⟩ : ∃ x, t[k] = x := ⟨_, rfl⟩
      rw [hx] at q1 hrg hdone hdsame hxm
      have hrx := canonW_range (t := t) hrg hl
      have hdoneH := Lib.hid hdone
      have hdsameH := Lib.hid hdsame
      clear hx q hdone hdsame
      go_wp2_with fail
      go_loopw [6] (fun j wr => renRel2 t w1 w1.heap.size g cap k x j wr) (fun j _ => V.length - (intOf j).toNat)
      case atStart => exact ⟨0, rfl, Nat.zero_le _, by rw [midW_zero, hdsameH.out]; exact ho, hB⟩
      case round =>
        obtain ⟨j, rfl, hj, ho, hB⟩ := hrel
        rw [← hvlH.out] at hj
        by_cases hjV : j < V.length
        · obtain ⟨y, hy1, hy2, hy3, hy4⟩ := hVc j hjV
          obtain ⟨b2, o2, rfl, -, r, -⟩ := hV.int j hjV
          have hb2 : b2 < w1.heap.size := World.block_lt_of_cell? w1 _ r
          have r1 := (hB.cell (p := ⟨b2, o2 + j, none⟩) hb2).trans r
          have p1 := (hB.cell (p := ⟨b, o + k, none⟩) hb1).trans q1
          rw [hy1] at r1
          have hjc : j < (varsC t).length := by rw [← hvlH.out]; exact hjV
          have hyc : (varsC t)[j] = y := by rw [List.getElem?_eq_getElem hjc] at hy2; exact Option.some.inj hy2
          obtain ⟨z, hz⟩ : ∃ z, vnum y = z := ⟨_, rfl⟩
          have hzy : y = -z - 1 := by unfold vnum at hz; omega
          have hz0 : 0 ≤ z ∧ z ≤ 1000000 := by unfold vnum at hz; omega
          rw [hz] at r1
          clear r hy1 hy2 hz
          have hw1 : IntKind.i64.wrap (-z) = -z := IntWalk.i64_in _ (by omega)
          have hw2 : IntKind.i64.wrap (-z - 1) = -z - 1 := IntWalk.i64_in _ (by omega)
          by_cases hxy : x = y
          · have hmid := midW_hit hjc
            rw [hyc, ← hxy] at hmid
            have hb : (x == -z - 1) = true := by simp; omega
            have hcell := ho.cellInt (by simp [doneTo_length]) k (by simp [doneTo_length]; exact hlt)
            obtain ⟨ho2, hg3⟩ := ho.setInt (by simp [doneTo_length]) k (-(j : Int) - 1) (by unfold lim at hl; unfold inRange; omega)
            have ho2' : OwnI (wr.setCell ⟨g, k, none⟩ (.int .i64 (-(j : Int) - 1))) w1.heap.size (.slice (some ⟨g, 0, none⟩) t.length cap) ((doneTo (canonW (varsC t)) t k).set k (midW t (j + 1) x)) := by
              rw [hmid]; rw [List.set_set] at ho2; exact ho2
            have hBg := hB.grown hg3 hB.size (fun q e => by cases e; omega)
            obtain ⟨old, hold⟩ : ∃ old, ((doneTo (canonW (varsC t)) t k).set k (midW t j x))[k]'(by simp [doneTo_length]; exact hlt) = old := ⟨_, rfl⟩
            rw [hold] at hcell
            obtain ⟨hc1, hf1⟩ := hcell
            have ho2H := Lib.hid ho2'
            clear ho hxy hzy hmid hold ho2 ho2' hg3 h hV hyc
            go_wp2_with fail
            go_quiet (fail)
            all_goals go_wp2_with fail
            exact ⟨⟨j + 1, by go_num, by rw [← hvlH.out]; omega, by rw [drewN_setCell]; exact ho2H.out.drewN _, by rw [drewN_setCell]; exact below_drewN hBg _⟩, by simp [intOf]; omega⟩
          · have hmid := midW_miss (x := x) hjc (by rw [hyc]; exact hxy)
            have hb : (x == -z - 1) = false := by simp; omega
            rw [← hmid] at ho
            have hoH := Lib.hid ho
            clear ho hxy hzy hmid h hV hyc
            go_wp2_with fail
            go_quiet (fail)
            all_goals go_wp2_with fail
            exact ⟨⟨j + 1, by go_num, by rw [← hvlH.out]; omega, hoH.out.drewN _, below_drewN hB _⟩, by simp [intOf]; omega⟩
        · rw [midW_all (by rw [← hvlH.out]; omega) hxm, hdoneH.out] at ho
          have hoH := Lib.hid ho
          clear ho h hV
          go_wp2_with fail
          go_roundw
          case rel => exact ⟨k + 1, by go_num, by omega, hoH.out, hB⟩
          case measure => simp [intOf]; omega
    · rw [doneTo_all _ _ _ (by omega)] at ho
      have := ho.baseMono (base' := w.heap.size) hB1.size
      have hoH := Lib.hid this
      clear ho h hV this
      go_wp2_with fail
      go_ret
      exact ⟨_, rfl, hoH.out, hB1.trans (hB.mono hB1.size)⟩
end Go.Proofs.YtpmnnoopoblpgaaGreat
