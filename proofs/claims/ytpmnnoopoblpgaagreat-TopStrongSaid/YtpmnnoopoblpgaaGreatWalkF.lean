/- Walks: copies, canonical forms, variables. -/
import Derived.Test.YtpmnnoopoblpgaaGreatWalkE
import Derived.Test.YtpmnnoopoblpgaaGreatOwn
namespace Go.Proofs.YtpmnnoopoblpgaaGreat
open Go Go.RowKit Go.Maps

abbrev OwnI (w : World) (base : Nat) (v : Value) (l : List Int) : Prop := OwnL intE (fun _ => False) w base 3 v l
def lim : Nat := 1000000
def retOwn (w : World) (l : List Int) (e : Ending) (w' : World) : Prop := ∃ v, e = .returned v ∧ OwnI w' w.heap.size v l ∧ Below w.heap.size w w'
theorem infoInt : (Tryz.prog.info? 3).map (fun i => (i.zero, i.size, i.bytes)) = some (some (.int .i64 0), 1, 8) := by kernel_rfl
theorem OwnI.ints {w : World} {base : Nat} {v : Value} {l : List Int} (h : OwnI w base v l) : ∃ a c, v = .slice a l.length c ∧ Ints (fun b => base ≤ b) w a c l := h.slB (fun _ h => h.elim)

set_option maxHeartbeats 400000 in
theorem Clone_any {S : Nat → Prop} (a : Option Addr) (c : Nat) (l : List Int) (w : World) (h : Ints S w a c l) (hl : l.length ≤ lim) :
    Calls Tryz.prog 145 #[.slice a l.length c] w (retOwn w l) := by
  cases a with
  | none =>
    obtain ⟨rfl, rfl⟩ := h.nil rfl
    have hnl := fun W => Lib.run_eql_slice_nil (P := Tryz.prog) W 26 3 none 0 0 0 0 Tryz.underlying26
    go_enter Tryz.func145, Tryz.ntmps145
    go_wp2_with fail
    go_ret
    exact ⟨_, rfl, .nil _ _ _ _ _, .refl _ _⟩
  | some a =>
    have hnl := fun W => Lib.run_eql_slice_nil (P := Tryz.prog) W 26 3 (some a) l.length c 0 0 Tryz.underlying26
    obtain ⟨v', w', hrun, ho, hg, -, -⟩ := (OwnL.made intE (fun _ => False) w w.heap.size 3 (Nat.le_refl _)).append_run (P := Tryz.prog) (t := 26) (ty := 26) Tryz.underlying26 infoInt rfl (h.below (below1 w (.cells #[] 3))) (fun _ _ _ h => h) (by unfold lim at hl; simp; omega) (by unfold lim at hl; unfold big; simp; omega) (by simp)
    have hB : Below w.heap.size w w' := (below1 w (.cells #[] 3)).grown hg (by simp) (fun k e => by simp [Value.ownBlock] at e; omega)
    rw [List.nil_append] at ho
    clear hg
    have hrunH := Lib.hid hrun
    clear hrun
    go_enter Tryz.func145, Tryz.ntmps145
    go_wp2_with (at_builtin; refine wpList_append_run rfl _ _ _ rfl rfl rfl hrunH.out ?_)
    go_ret
    exact ⟨_, rfl, ho, hB⟩

theorem canonW_range {t : List Int} {x : Int} (hx : inRange x) (hl : t.length ≤ lim) : inRange (canonW (varsC t) x) := by
  have := varsC_length t
  unfold lim at hl
  unfold inRange at *
  rcases canonW_bound (v := varsC t) (n := x) with h | h <;> omega

def canRel (t : List Int) (w : World) (g cap : Nat) (i : Value) (wr : World) : Prop :=
  ∃ k : Nat, i = .int .i64 k ∧ k ≤ t.length ∧ IMap Tryz.prog 3 3 wr w.heap.size (varsC (t.take k)).length (nameF t k) ∧
    OwnI wr (w.heap.size + 1) (.slice (some ⟨g, 0, none⟩) t.length cap) (doneTo (canonW (varsC t)) t k) ∧ Below w.heap.size w wr

set_option maxHeartbeats 1000000 in
theorem canonical_any {S : Nat → Prop} (a : Option Addr) (c : Nat) (t : List Int) (w : World) (h : Ints S w a c t) (hl : t.length ≤ lim) (hne : t ≠ []) :
    Calls Tryz.prog 121 #[.slice a t.length c] w (retOwn w (canon t)) := by
  have m := h.le
  have hmm := @run_makeMap Tryz.prog
  go_enter Tryz.func121, Tryz.ntmps121
  go_wp2_with fail
  refine (Clone_any a c t _ (h.below (below1 w _)) hl).mono ?_
  rintro e w1 ⟨v, rfl, ho, hB⟩
  obtain ⟨g, cap, rfl, hg1, hg2⟩ := ho.form hne
  have hm1 : IMap Tryz.prog 3 3 w1 w.heap.size 0 (fun _ => none) := (IMap.made w).below hB (by simp)
  have hB1 : Below w.heap.size w w1 := (below1 w _).trans (hB.mono (by simp))
  rw [World.size_alloc] at ho hg1
  clear hB
  go_wp2_with fail
  go_loopw [14] (fun i wr => canRel t w g cap i wr) (fun i _ => t.length - (intOf i).toNat)
  case atStart => exact ⟨0, rfl, Nat.zero_le _, by rw [nameF_zero]; exact hm1, by rw [doneTo_zero]; exact ho, hB1⟩
  case round =>
    obtain ⟨k, rfl, hk, hm, ho, hB⟩ := hrel
    by_cases hlt : k < t.length
    · obtain ⟨b, o, rfl, -, q, hrg⟩ := h.int k hlt
      have hb : b < w.heap.size := World.block_lt_of_cell? w _ q
      have p1 := (hB.cell (p := ⟨b, o + k, none⟩) hb).trans q
      clear q
      obtain ⟨x, hx⟩ : ∃ x, t[k] = x := ⟨_, rfl⟩
      rw [hx] at p1 hrg
      have hxH := Lib.hid hx
      clear hx
      have hgb : w.heap.size ≠ g := by omega
      by_cases h0 : 0 ≤ x
      · obtain ⟨hf1, hf2⟩ := nameF_old hlt (.inl (by rw [hxH.out]; exact h0))
        have hd := doneTo_same hlt (f := canonW (varsC t)) (by rw [hxH.out]; exact canonW_pos h0)
        have hmH := Lib.hid hm
        have hoH := Lib.hid ho
        have hfH := Lib.hid hf1
        have hf2H := Lib.hid hf2
        have hdH := Lib.hid hd
        clear hm ho hf1 hf2 hd h
        go_wp2_with fail
        go_roundw
        case rel => exact ⟨k + 1, by go_num, by omega, by rw [hfH.out, hf2H.out]; exact hmH.out, by rw [← hdH.out]; exact hoH.out, hB⟩
        case measure => simp [intOf]; omega
      · have hneg : x < 0 := by omega
        obtain ⟨hc1, hfr1⟩ := ho.cellInt (by rw [doneTo_length]) k (by rw [doneTo_length]; exact hlt)
        have hlook := hm.look_ok (tm := 153) Tryz.underlying153 Tryz.underlying3 Tryz.underlying3 (zInt wr) x hrg
        have hcr := canonW_range (t := t) hrg hl
        by_cases hv : x ∈ varsC (t.take k)
        · have hval := nameF_canonW hv
          have hlook2 := hm.look (tm := 153) Tryz.underlying153 Tryz.underlying3 Tryz.underlying3 (zInt wr) x hrg
          rw [hval] at hlook hlook2
          simp only [Option.getD_some, Option.isSome_some] at hlook hlook2
          obtain ⟨hf1, hf2⟩ := nameF_old hlt (.inr (by rw [hxH.out]; exact hv))
          obtain ⟨y, hy⟩ : ∃ y, canonW (varsC t) x = y := ⟨_, rfl⟩
          rw [hy] at hlook hlook2 hcr
          obtain ⟨ho2, hg3⟩ := ho.setInt (by rw [doneTo_length]) k y hcr
          have hdd := doneTo_set hlt (f := canonW (varsC t))
          rw [hxH.out, hy] at hdd
          rw [hdd] at ho2
          have hmH := Lib.hid (hm.same (hg3.block _ hm.lt (by simpa using hgb)))
          have hoH := Lib.hid ho2
          have hfH := Lib.hid hf1
          have hf2H := Lib.hid hf2
          have hBH := Lib.hid (hB.grown hg3 hB.size (fun j e => by cases e; omega))
          clear hm ho hf1 hf2 h ho2 hdd hy hval hv hg3
          go_wp2_with fail
          go_roundw
          case rel => exact ⟨k + 1, by go_num, by omega, by rw [hfH.out, hf2H.out]; exact hmH.out, hoH.out, hBH.out⟩
          case measure => simp [intOf]; omega
        · obtain ⟨hf1, hf2⟩ := nameF_new hlt (by rw [hxH.out]; exact hneg) (by rw [hxH.out]; exact hv)
          rw [hxH.out] at hf1
          have hnone : nameF t k x = none := by unfold nameF; rw [if_neg hv]
          have hxin : x ∈ varsC (t.take (k + 1)) := by rw [varsC_take_succ hlt, hxH.out, addV, if_pos ⟨hneg, hv⟩]; simp
          have hval := nameF_canonW hxin
          obtain ⟨y, hy⟩ : ∃ y, canonW (varsC t) x = y := ⟨_, rfl⟩
          obtain ⟨n, hn⟩ : ∃ n, (varsC (t.take k)).length = n := ⟨_, rfl⟩
          have hn1 : n ≤ t.length := by have := varsC_length (t.take k); simp at this; omega
          rw [hy] at hval hcr
          rw [hn] at hf1 hf2 hm
          have hyn : y = -(n : Int) - 1 := by
            have h1 := hval
            rw [hf1] at h1
            simp at h1; omega
          rw [hnone] at hlook
          simp only [Option.getD_none, Option.isSome_none] at hlook
          have hlen := hm.len (tm := 153) Tryz.underlying153 3
          obtain ⟨w2, hst, hm2, hg2⟩ := hm.store (tm := 153) Tryz.underlying153 Tryz.underlying3 Tryz.underlying3 (by unfold lim at hl; unfold maxLen; omega) x hrg y hcr hnone
          rw [hyn] at hst
          have hfe : (fun z => if z = x then some y else nameF t k z) = nameF t (k + 1) := by rw [hf1, hyn]
          rw [hfe] at hm2
          have hlook2 := hm2.look (tm := 153) Tryz.underlying153 Tryz.underlying3 Tryz.underlying3 (zInt w2) x hrg
          rw [hval] at hlook2
          simp only [Option.getD_some] at hlook2
          rw [hyn] at hlook2
          have hgb2 : ∀ q, (Value.slice (some ⟨g, 0, none⟩) t.length cap).ownBlock = some q → (some w.heap.size : Option Nat) ≠ some q := by
            intro q hq e
            simp [Value.ownBlock] at hq e; omega
          have ho2 := OwnL.grown ho hg2 hgb2 (fun b hb _ => hb.elim)
          have hB2 := hB.grown hg2 hB.size (fun j e => by cases e; exact Nat.le_refl _)
          obtain ⟨hc2, hfr2⟩ := ho2.cellInt (by rw [doneTo_length]) k (by rw [doneTo_length]; exact hlt)
          obtain ⟨ho3, hg3⟩ := ho2.setInt (by rw [doneTo_length]) k y hcr
          have hdd := doneTo_set hlt (f := canonW (varsC t))
          rw [hxH.out, hy] at hdd
          rw [hdd, hyn] at ho3
          rw [hyn] at hg3
          have hmH := Lib.hid (hm2.same (hg3.block _ hm2.lt (by simpa using hgb)))
          have hoH := Lib.hid ho3
          have hf2H := Lib.hid hf2
          have hBH := Lib.hid (hB2.grown hg3 hB2.size (fun j e => by cases e; omega))
          clear hm ho hf1 hf2 h ho3 hdd hy hval hv hg3 hm2 ho2 hB2 hfe hnone hxin hyn hgb2 hg2 hn
          go_wp2_with fail
          go_roundw
          case rel => exact ⟨k + 1, by go_num, by omega, by rw [hf2H.out]; exact hmH.out, hoH.out, hBH.out⟩
          case measure => simp [intOf]; omega
    · go_wp2_with fail
      go_ret
      refine ⟨_, rfl, ?_, hB⟩
      rw [doneTo_all _ _ _ (by omega)] at ho
      unfold canon
      have := ho.baseMono (base' := w.heap.size) (by omega)
      exact this
end Go.Proofs.YtpmnnoopoblpgaaGreat
