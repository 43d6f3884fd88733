/- Walks: arguments of terms, of the program. -/
import Derived.Test.YtpmnnoopoblpgaaGreatWalkI
import Derived.Test.YtpmnnoopoblpgaaGreatMath4
namespace Go.Proofs.YtpmnnoopoblpgaaGreat
open Go Go.RowKit Go.Maps

abbrev OwnTs (S : Nat → Prop) (w : World) (base : Nat) (v : Value) (l : List (List Int)) : Prop := OwnL (slE intE) S w base 26 v l
theorem infoTerm : (Tryz.prog.info? 26).map (fun i => (i.zero, i.size, i.bytes)) = some (some (.slice none 0 0), 1, 24) := by kernel_rfl
/-- a part of a slice -/
theorem Ints.part {S : Nat → Prop} {w : World} {b off c : Nat} {l : List Int} (h : Ints S w (some ⟨b, off, none⟩) c l) (i j c' : Nat) (hij : i ≤ j) (hj : j ≤ l.length) (h1 : j - i ≤ c') (h2 : c' ≤ c) :
    Ints S w (some ⟨b, off + i, none⟩) c' ((l.drop i).take (j - i)) := by
  refine ⟨by simp; omega, Nat.le_trans h2 h.max, fun e => by simp at e, fun hne => ?_⟩
  have hl : 0 < ((l.drop i).take (j - i)).length := by
    rcases Nat.eq_zero_or_pos ((l.drop i).take (j - i)).length with h0 | h0
    · exact (hne (List.length_eq_zero_iff.1 h0)).elim
    · exact h0
  simp at hl
  obtain ⟨b', o', he, hb, hlt, hc⟩ := h.dat (by intro e; subst e; simp at hl)
  simp only [Option.some.injEq, Addr.mk.injEq, and_true] at he
  obtain ⟨rfl, rfl⟩ := he
  refine ⟨b, off + i, rfl, hb, hlt, fun k hk => ?_⟩
  simp at hk
  obtain ⟨vs, v1, v2, v3⟩ := hc (i + k) (by omega)
  refine ⟨vs, v1, fun q hq => ?_, ?_⟩
  · have := v2 q hq
    rw [show off + i + k * intE.size + q = off + (i + k) * intE.size + q by simp [intE]; omega]
    exact this
  · have : ((l.drop i).take (j - i))[k]'(by simp; omega) = l[i + k]'(by omega) := by simp
    rw [this]; exact v3

/-- append of one term -/
theorem Ts_push {S : Nat → Prop} {w wr w1 : World} {out : Value} {l : List (List Int)} (ho : OwnTs S wr w.heap.size out l) (hB : Below w.heap.size w wr) (hB1 : Below wr.heap.size wr w1) {a : Option Addr} {c : Nat} {u : List Int} (hu : Ints (Off S out) w1 a c u) (hl : l.length + 1 ≤ 1000000) :
    ∃ v' w', RowKit.Hid ((Builtin.append_ #[77, 77] 77 #[out, .slice (some ⟨w1.heap.size, 0, none⟩) 1 1]).run Tryz.prog (w1.alloc (.cells #[.slice a u.length c] 26)) = .ok v' w') ∧ RowKit.Hid (OwnTs S w' w.heap.size v' (l ++ [u])) ∧ RowKit.Hid (Below w.heap.size w w') := by
  have hB2 := hB.trans (hB1.mono hB.size)
  have ho1 := ho.call hB1
  obtain ⟨v', w', hrun, ho', hg, hat⟩ := ho1.push (P := Tryz.prog) (t := 77) (ty := 77) Tryz.underlying77 infoTerm rfl (vs := [.slice a u.length c]) (x := u) ⟨_, _, rfl, hu⟩ (by omega) (by unfold big; omega) hB2.size
  exact ⟨v', w', Lib.hid hrun, Lib.hid ho', Lib.hid (hB2.grown hg hB2.size (fun k e => (ho1.lt k e).1))⟩

def argRel (S2 : Nat → Prop) (s : Sg) (t : List Int) (m : Nat) (w : World) (out at_ i : Value) (wr : World) : Prop :=
  ∃ j p : Nat, i = .int .i64 j ∧ at_ = .int .i64 p ∧ j ≤ m ∧ 1 ≤ p ∧ p ≤ t.length ∧ skip s (m - j) (t.drop p) = some [] ∧ (argsT s t).take j ++ splitK s (m - j) (t.drop p) = argsT s t ∧
    OwnTs (fun b => S2 b ∧ b < w.heap.size) wr w.heap.size out ((argsT s t).take j) ∧ Below w.heap.size w wr
def retTerms (S : Nat → Prop) (w : World) (l : List (List Int)) (e : Ending) (w' : World) : Prop := ∃ v, e = .returned v ∧ OwnTs S w' w.heap.size v l ∧ Below w.heap.size w w'

set_option maxHeartbeats 1000000 in
theorem args_in {S1 S2 : Nat → Prop} (a1 a2 : Option Addr) (c1 c2 : Nat) (s : Sg) (t : List Int) (w : World) (h1 : Sign S1 w a1 c1 s) (h2 : Ints S2 w a2 c2 t) (hok : okT s t = true) :
    Calls Tryz.prog 238 #[.slice a1 s.length c1, .slice a2 t.length c2] w (retTerms (fun b => S2 b ∧ b < w.heap.size) w (argsT s t)) := by
  have m2 := h2.le
  have mc := h2.max
  unfold big at mc
  obtain ⟨n, r, ht, hc, hs⟩ := okT_head hok
  obtain ⟨hsg, hl1, hl2, hsk⟩ := okT_parts hok
  have h0 : 0 < t.length := by omega
  obtain ⟨b, o, rfl, -, q, -⟩ := h2.int 0 h0
  have hcap := h2.cap
  have ht0 : t[0] = n := by subst ht; rfl
  rw [ht0, Nat.add_zero] at q
  obtain ⟨hA, hA3⟩ := arC_ok hsg hc
  have ca := arity_any a1 c1 s n w h1
  rw [hA] at ca
  obtain ⟨m, hm⟩ : ∃ m, ar s n = m := ⟨_, rfl⟩
  have hargs : argsT s t = splitK s m (t.drop 1) := by subst ht; rw [← hm]; rfl
  have hskm : skip s m (t.drop 1) = some [] := by subst ht; rw [← hm]; exact hs
  have hlen : (argsT s t).length = m := by rw [hargs]; exact (splitK_spec s m _ _ hskm).1
  rw [hm] at ca hA3
  have caH := Lib.hid ca
  have hargsH := Lib.hid hargs
  have hskmH := Lib.hid hskm
  have hlenH := Lib.hid hlen
  have hsgH := Lib.hid hsg
  have htlH := Lib.hid hl2
  have hmlH : RowKit.Hid (m ≤ t.length) := Lib.hid (by
    have h6 := skip_len s m _ _ hskm
    rw [List.length_drop, List.length_nil] at h6; omega)
  clear ca hargs hskm hlen hA hm hs hc ht ht0 hsk hsg hok hl2
  go_enter Tryz.func238, Tryz.ntmps238
  go_wp2_with (go_at_call 190; refine caH.out.mono ?_; rintro e w' ⟨rfl, rfl⟩)
  go_loopw [5, 6, 14] (fun out at_ i wr => argRel S2 s t m w out at_ i wr) (fun _ _ i _ => m - (intOf i).toNat)
  case atStart => exact ⟨0, 1, rfl, rfl, Nat.zero_le _, Nat.le_refl _, h0, by simpa using hskmH.out, by simpa using hargsH.out.symm, .nil _ _ _ _ _, .refl _ _⟩
  case round =>
    obtain ⟨j, p, rfl, rfl, hj, hp1, hp2, hsk, happ, ho, hB⟩ := hrel
    by_cases hjm : j < m
    · obtain ⟨k, hk⟩ : ∃ k, m - j = k + 1 := ⟨m - j - 1, by omega⟩
      rw [hk] at hsk happ
      obtain ⟨rest, hr1, hr2⟩ := skip_one hsk
      obtain ⟨g1, g2, g3, g4⟩ := endOf_some s t p rest hr1
      obtain ⟨e1, e2, e3⟩ := partAt_eq hr1
      have elen := partAt_len hr1
      rw [List.length_drop] at elen
      obtain ⟨z, hz⟩ : ∃ z, t.length - rest.length = z := ⟨_, rfl⟩
      rw [hz] at g1 g2 g3 g4
      have hpart : (t.drop p).take (z - p) = partAt s (t.drop p) := by
        unfold partAt; rw [hr1]; simp; congr 1; omega
      have hsub := h2.part p z (z - p) (by omega) g4 (Nat.le_refl _) (by omega)
      rw [hpart] at hsub
      have hplen : (partAt s (t.drop p)).length = z - p := by omega
      have htk : (argsT s t).take (j + 1) = (argsT s t).take j ++ [partAt s (t.drop p)] := by
        have hl := hlenH.out
        rw [List.take_succ_eq_append_getElem (by omega)]
        congr 2
        have h3 : (argsT s t)[j]'(by omega) = ((argsT s t).take j ++ splitK s (k + 1) (t.drop p))[j]'(by rw [happ]; omega) := by simp only [happ]
        rw [h3, List.getElem_append_right (by simp; omega)]
        simp [splitK, Nat.min_eq_left (show j ≤ (argsT s t).length by omega)]
      have happ' : (argsT s t).take (j + 1) ++ splitK s (m - (j + 1)) (t.drop z) = argsT s t := by
        rw [htk, List.append_assoc, show m - (j + 1) = k by omega, g2]
        rw [splitK, hr1] at happ
        simpa using happ
      have hsk' : skip s (m - (j + 1)) (t.drop z) = some [] := by rw [show m - (j + 1) = k by omega, g2]; exact hr2
      have hjl : ((argsT s t).take j).length = j := by rw [List.length_take, hlenH.out]; omega
      have htl : t.length ≤ 60 := htlH.out
      have hml : m ≤ 60 := by have := hmlH.out; omega
      have ec := fun W hW1 hW2 => end_any (S1 := S1) (S2 := S2) (a1 := a1) (c1 := c1) (a2 := some ⟨b, o, none⟩) (c2 := c2) (t := t) hsgH.out p W (Or.inr ⟨by omega, by omega⟩) hW1 hW2
      have h1' : Sign S1 wr a1 c1 s := h1.below hB
      have h2' : Ints S2 wr (some ⟨b, o, none⟩) c2 t := h2.below hB
      have hc := ec wr h1' h2'
      unfold endPostB at hc
      rw [g1] at hc
      have hbs : b < wr.heap.size := by have := World.block_lt_of_cell? w _ q; have := hB.size; simp at *; omega
      have hbw : b < w.heap.size := World.block_lt_of_cell? w _ q
      have hsub' : Ints (fun k => S2 k ∧ k < w.heap.size) w (some ⟨b, o + p, none⟩) (z - p) (partAt s (t.drop p)) := hsub.lt
      have happH := Lib.hid happ'
      have hskH := Lib.hid hsk'
      have hcH := Lib.hid hc
      have hBH := Lib.hid hB
      have g4H := Lib.hid g4
      have hpu : ∀ w1, Below wr.heap.size wr w1 → ∃ v' w', RowKit.Hid ((Builtin.append_ #[77, 77] 77 #[u5, .slice (some ⟨w1.heap.size, 0, none⟩) 1 1]).run Tryz.prog (w1.alloc (.cells #[.slice (some ⟨b, o + p, none⟩) (z - p) (z - p)] 26)) = .ok v' w') ∧ RowKit.Hid (OwnTs (fun b => S2 b ∧ b < w.heap.size) w' w.heap.size v' ((argsT s t).take (j + 1))) ∧ RowKit.Hid (Below w.heap.size w w') := by
        intro w1 hB1
        rw [htk, ← hplen]
        have hx := (hsub'.below (hB.trans (hB1.mono hB.size))).weak (S' := Off (fun b => S2 b ∧ b < w.heap.size) u5) (fun k hk => ⟨hk, fun e => by have := (ho.lt k e.symm).1; have := hk.2; omega⟩)
        exact Ts_push ho hB hB1 (by rw [hplen]; exact hx) (by rw [hjl]; omega)
      have hpuH := Lib.hid hpu
      clear hpu htk happ' hsk' ho hsub hsub' hc hplen ec h1' h2' e1 e2 e3 elen hpart g1 g2 hr1 hr2 hk hz happ hsk hjl
      go_wp2_with (first
        | (go_at_call 164; refine hcH.out.mono ?_; rintro e w1 ⟨d, rfl, -, hB1⟩; obtain ⟨v', w', hrunH, ho3, hB3H⟩ := hpuH.out w1 hB1)
        | (at_builtin; refine wpList_append_run rfl _ _ _ rfl rfl rfl hrunH.out ?_))
      go_roundw
      case rel => exact ⟨j + 1, z, by go_num, rfl, by omega, by omega, g4H.out, hskH.out, happH.out, ho3.out, hB3H.out⟩
      case measure => simp [intOf]; omega
    · have hjm' : j = m := by omega
      subst hjm'
      have hfull : (argsT s t).take j = argsT s t := List.take_of_length_le (by rw [hlenH.out]; exact Nat.le_refl _)
      rw [hfull] at ho
      have hoH := Lib.hid ho
      clear ho happ hsk hfull
      go_wp2_with fail
      go_ret
      exact ⟨_, rfl, hoH.out, hB⟩
theorem retTerms.weak {S S' : Nat → Prop} {w : World} {l : List (List Int)} {e : Ending} {w' : World} (h : retTerms S w l e w') (hS : ∀ b, S b → S' b) : retTerms S' w l e w' := by
  obtain ⟨v, rfl, ⟨xs, h1, h2, h3⟩, hb⟩ := h
  exact ⟨v, rfl, ⟨xs, h1, h2, fun i g1 g2 => (slE intE).mono (h3 i g1 g2) (fun b _ hb => ⟨hS b hb.1, hb.2⟩) (.refl _ _)⟩, hb⟩
theorem args_any {S1 S2 : Nat → Prop} (a1 a2 : Option Addr) (c1 c2 : Nat) (s : Sg) (t : List Int) (w : World) (h1 : Sign S1 w a1 c1 s) (h2 : Ints S2 w a2 c2 t) (hok : okT s t = true) :
    Calls Tryz.prog 238 #[.slice a1 s.length c1, .slice a2 t.length c2] w (retTerms (fun b => b < w.heap.size) w (argsT s t)) :=
  (args_in a1 a2 c1 c2 s t w h1 h2 hok).mono fun _ _ h => h.weak fun _ hb => hb.2
end Go.Proofs.YtpmnnoopoblpgaaGreat
