/- Walks of the reference: where parts end, arguments, parts; lists of terms alike; all valid. -/
import Derived.Test.YtpmnnoopoblpgaaGreatWalkK
import Derived.Test.YtpmnnoopoblpgaaGreatWalkI
import Derived.Test.YtpmnnoopoblpgaaGreatMath5
namespace Go.Proofs.YtpmnnoopoblpgaaGreat
open Go Go.RowKit Go.Maps

def rendRel (s : Sg) (t r : List Int) (w : World) (at_ need : Value) (wr : World) : Prop :=
  ∃ p k : Nat, at_ = .int .i64 p ∧ need = .int .i64 k ∧ p ≤ t.length ∧ skip s k (t.drop p) = some r ∧ wr = w
set_option maxHeartbeats 1000000 in
theorem rEnd_any {S1 S2 : Nat → Prop} (a1 a2 : Option Addr) (c1 c2 : Nat) (s : Sg) (t : List Int) (p : Nat) (r : List Int) (w : World) (h1 : Sign S1 w a1 c1 s) (h2 : Ints S2 w a2 c2 t) (hok : okSign s = true) (hp : skip s 1 (t.drop p) = some r) :
    Calls Tryz.prog 203 #[.slice a1 s.length c1, .slice a2 t.length c2, .int .i64 p] w fun e w' => e = .returned (.int .i64 (t.length - r.length : Nat)) ∧ w = w' := by
  have m2 := h2.le
  have hpl : p ≤ t.length := by obtain ⟨h, _⟩ := skip_drop hp; omega
  have hpH := Lib.hid hp
  have hokH := Lib.hid hok
  clear hp hok
  go_enter Tryz.func203, Tryz.ntmps203
  go_wp2_with fail
  go_loopw [2, 7] (fun at_ need wr => rendRel s t r w at_ need wr) (fun at_ _ _ => t.length - (intOf at_).toNat)
  case atStart => exact ⟨p, 1, rfl, rfl, hpl, hpH.out, rfl⟩
  case round =>
    obtain ⟨q, k, rfl, rfl, hq, hs, rfl⟩ := hrel
    cases k with
    | zero =>
      rw [skip_zero] at hs
      have hq2 : (q : Int) = (t.length - r.length : Nat) := by
        have : (t.drop q).length = r.length := by rw [Option.some.inj hs]
        rw [List.length_drop] at this; omega
      have hqH := Lib.hid hq2
      clear hs hq2
      go_wp2_with fail
      go_ret
      exact ⟨ret_int hqH.out, rfl⟩
    | succ k =>
      obtain ⟨hlt, hc, hs'⟩ := skip_drop hs
      have hsl := skip_len _ _ _ _ hs'
      rw [List.length_drop] at hsl
      obtain ⟨hA, hA3⟩ := arC_ok hokH.out hc
      obtain ⟨b, o, rfl, -, q1, -⟩ := h2.int q hlt
      have cr := rArity_any a1 c1 s t[q] wr h1 hc
      rw [hA] at cr
      obtain ⟨x, hx⟩ : ∃ x, t[q] = x := ⟨_, rfl⟩
      obtain ⟨m, hm⟩ : ∃ m, ar s x = m := ⟨_, rfl⟩
      rw [hx] at q1 cr hs' hA3 hsl
      rw [hm] at cr hs' hA3 hsl
      have crH := Lib.hid cr
      have hsH := Lib.hid hs'
      clear cr hs' hA hs hc hx hm
      go_wp2_with (go_at_call 133; refine crH.out.mono ?_; rintro e w' ⟨rfl, rfl⟩)
      go_roundw
      case rel => exact ⟨q + 1, k + m, by go_num, by go_num, by omega, hsH.out, rfl⟩
      case measure => simp [intOf]; omega

def argPRel (s : Sg) (t r P : List Int) (m : Nat) (w : World) (out k i : Value) (wr : World) : Prop :=
  ∃ j q : Nat, i = .int .i64 j ∧ k = .int .i64 q ∧ j ≤ m ∧ q ≤ t.length ∧ skip s (m - j) (t.drop q) = some r ∧ P.take j ++ posK s t.length (m - j) (t.drop q) = P ∧ OwnI wr w.heap.size out (P.take j) ∧ Below w.heap.size w wr
set_option maxHeartbeats 1000000 in
theorem rArguments_any {S1 S2 : Nat → Prop} (a1 a2 : Option Addr) (c1 c2 : Nat) (s : Sg) (t : List Int) (p : Nat) (r : List Int) (w : World) (h1 : Sign S1 w a1 c1 s) (h2 : Ints S2 w a2 c2 t) (hok : okSign s = true) (hp : skip s 1 (t.drop p) = some r) (hl : t.length ≤ 60) :
    Calls Tryz.prog 169 #[.slice a1 s.length c1, .slice a2 t.length c2, .int .i64 p] w (retOwn w (posK s t.length (ar s (t.getD p 0)) (t.drop (p + 1)))) := by
  have m2 := h2.le
  obtain ⟨hlt, hc, hs⟩ := skip_drop (k := 0) hp
  obtain ⟨b, o, rfl, -, q1, -⟩ := h2.int p hlt
  obtain ⟨hA, hA3⟩ := arC_ok hok hc
  have hbw : b < w.heap.size := World.block_lt_of_cell? w _ q1
  have cr := fun W hW => rArity_any (S := S1) a1 c1 s t[p] W hW hc
  rw [hA] at cr
  have hgd : t.getD p 0 = t[p] := by simp [hlt]
  rw [hgd]
  obtain ⟨x, hx⟩ : ∃ x, t[p] = x := ⟨_, rfl⟩
  obtain ⟨m, hm⟩ : ∃ m, ar s x = m := ⟨_, rfl⟩
  rw [hx] at q1 cr hs hA3 ⊢
  rw [hm] at cr hs hA3 ⊢
  rw [Nat.zero_add] at hs
  obtain ⟨P, hP⟩ : ∃ P, posK s t.length m (t.drop (p + 1)) = P := ⟨_, rfl⟩
  rw [hP]
  have hPl : P.length = m := by rw [← hP, posK_length]
  have crH := Lib.hid cr
  have hsH := Lib.hid hs
  have hPH := Lib.hid hP
  have hPlH := Lib.hid hPl
  have hokH := Lib.hid hok
  clear cr hs hP hp hok hA hx hm hc hgd hPl
  go_enter Tryz.func169, Tryz.ntmps169
  go_wp2_with fail
  go_loopw [7, 8, 9] (fun out k i wr => argPRel s t r P m w out k i wr) (fun _ _ i _ => m - (intOf i).toNat)
  case atStart => exact ⟨0, p + 1, rfl, by go_num, Nat.zero_le _, by omega, by simpa using hsH.out, by simpa using hPH.out, .nil _ _ _ _ _, .refl _ _⟩
  case round =>
    obtain ⟨j, q, rfl, rfl, hj, hq, hsk, happ, ho, hB⟩ := hrel
    have q1' := (hB.cell (p := ⟨b, o + p, none⟩) hbw).trans q1
    have h1' : Sign S1 wr a1 c1 s := h1.below hB
    have h2' : Ints S2 wr (some ⟨b, o, none⟩) c2 t := h2.below hB
    have cr' := crH.out wr h1'
    by_cases hjm : j < m
    · obtain ⟨k, hk⟩ : ∃ k, m - j = k + 1 := ⟨m - j - 1, by omega⟩
      rw [hk] at hsk happ
      obtain ⟨rest, hr1, hr2⟩ := skip_one hsk
      obtain ⟨g1, g2, g3, g4⟩ := endOf_some s t q rest hr1
      obtain ⟨z, hz⟩ : ∃ z, t.length - rest.length = z := ⟨_, rfl⟩
      have ce := fun W hW1 hW2 => rEnd_any (S1 := S1) (S2 := S2) a1 (some ⟨b, o, none⟩) c1 c2 s t q rest W hW1 hW2 hokH.out hr1
      rw [hz] at g2 g3 g4 ce
      have hlP := hPlH.out
      have htk : P.take (j + 1) = P.take j ++ [(q : Int)] := by
        rw [List.take_succ_eq_append_getElem (by omega)]
        congr 2
        have h3 : P[j]'(by omega) = (P.take j ++ posK s t.length (k + 1) (t.drop q))[j]'(by rw [happ]; omega) := by simp only [happ]
        rw [h3, List.getElem_append_right (by simp; omega)]
        simp [posK, Nat.min_eq_left (show j ≤ P.length by omega)]
        omega
      have happ' : P.take (j + 1) ++ posK s t.length (m - (j + 1)) (t.drop z) = P := by
        rw [htk, List.append_assoc, show m - (j + 1) = k by omega, g2]
        rw [posK, hr1] at happ
        rw [show (t.length - (t.drop q).length : Nat) = q by rw [List.length_drop]; omega] at happ
        simpa using happ
      have hsk' : skip s (m - (j + 1)) (t.drop z) = some r := by rw [show m - (j + 1) = k by omega, g2]; exact hr2
      have hjl : (P.take j).length = j := by rw [List.length_take]; omega
      obtain ⟨v', w', hrun, ho', hg, hat⟩ := ho.push (P := Tryz.prog) (t := 25) (ty := 25) Tryz.underlying25 infoInt rfl (vs := [.int .i64 q]) (x := (q : Int)) ⟨rfl, by unfold inRange; omega⟩ (by rw [hjl]; omega) (by rw [hjl]; unfold big; omega) hB.size
      have hB3 := hB.grown hg hB.size (fun k e => (ho.lt k e).1)
      have c2 := ce w' (h1.below hB3) (h2.below hB3)
      have htkH := Lib.hid htk
      have happH := Lib.hid happ'
      have hskH := Lib.hid hsk'
      have hoH := Lib.hid ho'
      have hB3H := Lib.hid hB3
      have hrunH := Lib.hid hrun
      have c2H := Lib.hid c2
      have cr'H := Lib.hid cr'
      have g4H := Lib.hid g4
      clear htk happ' hsk' ho ho' hg hat hB3 hrun c2 cr' ce g1 g2 hr1 hr2 hk hz happ hsk hjl hlP h1' h2' hB
      go_wp2_with (first
        | (go_at_call 133; refine cr'H.out.mono ?_; rintro e w' ⟨rfl, rfl⟩)
        | (go_at_call 203; refine c2H.out.mono ?_; rintro e w' ⟨rfl, rfl⟩)
        | (at_builtin; refine wpList_append_run rfl _ _ _ rfl rfl rfl hrunH.out ?_))
      go_roundw
      case rel => exact ⟨j + 1, z, by go_num, rfl, by omega, g4H.out, hskH.out, happH.out, by rw [htkH.out]; exact hoH.out, hB3H.out⟩
      case measure => simp [intOf]; omega
    · have hjm' : j = m := by omega
      subst hjm'
      have hfull : P.take j = P := List.take_of_length_le (by rw [hPlH.out]; exact Nat.le_refl _)
      rw [hfull] at ho
      have hoH := Lib.hid ho
      have cr'H := Lib.hid cr'
      have hBH := Lib.hid hB
      clear ho happ hsk hfull cr' hB h1' h2'
      go_wp2_with (go_at_call 133; refine cr'H.out.mono ?_; rintro e w' ⟨rfl, rfl⟩)
      go_ret
      exact ⟨_, rfl, hoH.out, hBH.out⟩

set_option maxHeartbeats 1000000 in
theorem rPart_any {S1 S2 : Nat → Prop} (a1 a2 : Option Addr) (c1 c2 : Nat) (s : Sg) (t : List Int) (p : Nat) (r : List Int) (w : World) (h1 : Sign S1 w a1 c1 s) (h2 : Ints S2 w a2 c2 t) (hok : okSign s = true) (hp : skip s 1 (t.drop p) = some r) (hl : t.length ≤ 60) :
    Calls Tryz.prog 168 #[.slice a1 s.length c1, .slice a2 t.length c2, .int .i64 p] w (retOwn w (partAt s (t.drop p))) := by
  have m2 := h2.le
  have mc := h2.max
  unfold big at mc
  have hcap := h2.cap
  obtain ⟨hlt, _⟩ := skip_drop (k := 0) hp
  obtain ⟨b, o, rfl, -, q1, -⟩ := h2.int p hlt
  have hbw : b < w.heap.size := World.block_lt_of_cell? w _ q1
  obtain ⟨g1, g2, g3, g4⟩ := endOf_some s t p r hp
  have ce := fun W hW1 hW2 => rEnd_any (S1 := S1) (S2 := S2) a1 (some ⟨b, o, none⟩) c1 c2 s t p r W hW1 hW2 hok hp
  obtain ⟨z, hz⟩ : ∃ z, t.length - r.length = z := ⟨_, rfl⟩
  have hlen := skip_len _ _ _ _ hp
  rw [List.length_drop] at hlen
  have hpart : (t.drop p).take (z - p) = partAt s (t.drop p) := by
    unfold partAt; rw [hp]; simp; congr 1; omega
  have hplen : (partAt s (t.drop p)).length = z - p := by rw [partAt_len hp, List.length_drop]; omega
  rw [hz] at ce g3 g4
  have hsub := h2.part p z (c2 - p) (by omega) g4 (by omega) (by omega)
  rw [hpart] at hsub
  obtain ⟨u, hu⟩ : ∃ u, partAt s (t.drop p) = u := ⟨_, rfl⟩
  rw [hu] at hsub hplen ⊢
  have ce1 := ce (w.alloc (.cells #[] 3)) (h1.below (below1 _ _)) (h2.below (below1 _ _))
  obtain ⟨v', w', hrun, ho, hg, -, -⟩ := (OwnL.made intE (fun _ => False) w w.heap.size 3 (Nat.le_refl _)).append_run (P := Tryz.prog) (t := 26) (ty := 26) Tryz.underlying26 infoInt rfl (hsub.below (below1 w (.cells #[] 3))) (fun _ _ _ h => h) (by simp; omega) (by unfold big; simp; omega) (by simp)
  have hB : Below w.heap.size w w' := (below1 w (.cells #[] 3)).grown hg (by simp) (fun k e => by simp [Value.ownBlock] at e; omega)
  rw [List.nil_append] at ho
  rw [hplen] at hrun
  have hrunH := Lib.hid hrun
  have ceH := Lib.hid ce1
  have hoH := Lib.hid ho
  have hBH := Lib.hid hB
  clear hg hrun ce1 ce ho hB g1 g2 hp hpart hplen hu hz hlen hsub hok
  go_enter Tryz.func168, Tryz.ntmps168
  go_wp2_with (first
        | (go_at_call 203; refine ceH.out.mono ?_; rintro e w' ⟨rfl, rfl⟩)
        | (at_builtin; refine wpList_append_run rfl _ _ _ rfl rfl rfl hrunH.out ?_))
  go_ret
  exact ⟨_, rfl, hoH.out, hBH.out⟩
end Go.Proofs.YtpmnnoopoblpgaaGreat
