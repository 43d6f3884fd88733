/- Walks of the reference: where parts end, arguments, parts; lists of terms alike; all valid. -/
import Derived.Test.YtjiffkpgadjodaaWalkK
import Derived.Test.YtjiffkpgadjodaaWalkI
import Derived.Test.YtjiffkpgadjodaaMath5
namespace Go.Proofs.Ytjiffkpgadjodaa
open Go Go.RowKit Go.Maps

def rendRel (s : Sg) (t r : List Int) (w : World) (at_ need : Value) (wr : World) : Prop :=
  ∃ p k : Nat, at_ = .int .i64 p ∧ need = .int .i64 k ∧ p ≤ t.length ∧ skip s k (t.drop p) = some r ∧ wr = w
set_option maxHeartbeats 1000000 in
theorem rEnd_any {S1 S2 : Nat → Prop} (a1 a2 : Option Addr) (c1 c2 : Nat) (s : Sg) (t : List Int) (p : Nat) (r : List Int) (w : World) (h1 : Sign S1 w a1 c1 s) (h2 : Ints S2 w a2 c2 t) (hok : okSign s = true) (hp : skip s 1 (t.drop p) = some r) :
    Calls Try.prog 41 #[.slice a1 s.length c1, .slice a2 t.length c2, .int .i64 p] w fun e w' => e = .returned (.int .i64 (t.length - r.length : Nat)) ∧ w = w' := by
  have m2 := h2.le
  have hpl : p ≤ t.length := by obtain ⟨h, _⟩ := skip_drop hp; omega
  have hpH := Lib.hid hp
  have hokH := Lib.hid hok
  clear hp hok
  go_enter Try.func41, Try.ntmps41
  go_wp2_with fail
  go_loopw [2, 7] (fun at_ need wr => rendRel s t r w at_ need wr) (fun at_ _ _ => t.length - (intOf at_).toNat)
  case atStart => exact ⟨p, 1, rfl, rfl, hpl, hpH.out, rfl⟩
  case round =>
    obtain ⟨q, k, rfl, rfl, hq, hs, rfl⟩ := hrel
    cases k with
    | zero =>
      rw [skip_zero] at hs
      have hq2 : (q : Int) = (t.length - r.length : Nat) := by
        have : (t.drop q).length = r.length := by rw [Option.some.inj hs]
        rw [List.length_drop] at this; omega
      have hqH := Lib.hid hq2
      clear hs hq2
      go_wp2_with fail
      go_ret
      exact ⟨ret_int hqH.out, rfl⟩
    | succ k =>
      obtain ⟨hlt, hc, hs'⟩ := skip_drop hs
      have hsl := skip_len _ _ _ _ hs'
      rw [List.length_drop] at hsl
      obtain ⟨hA, hA3⟩ := arC_ok hokH.out hc
      obtain ⟨b, o, rfl, -, q1, -⟩ := h2.int q hlt
      have cr := rArity_any a1 c1 s t[q] wr h1 hc
      rw [hA] at cr
      obtain ⟨x, hx⟩ : ∃ x, t[q] = x := ⟨_, rfl⟩
      obtain ⟨m, hm⟩ : ∃ m, ar s x = m := ⟨_, rfl⟩
      rw [hx] at q1 cr hs' hA3 hsl
      rw [hm] at cr hs' hA3 hsl
      have crH := Lib.hid cr
      have hsH := Lib.hid hs'
      clear cr hs' hA hs hc hx hm
      go_wp2_with (go_at_call 39; refine crH.out.mono ?_; rintro e w' ⟨rfl, rfl⟩)
      go_roundw
      case rel => exact ⟨q + 1, k + m, by go_num, by go_num, by omega, hsH.out, rfl⟩
      case measure => simp [intOf]; omega

def argPRel (s : Sg) (t r P : List Int) (m : Nat) (w : World) (out k i : Value) (wr : World) : Prop :=
  ∃ j q : Nat, i = .int .i64 j ∧ k = .int .i64 q ∧ j ≤ m ∧ q ≤ t.length ∧ skip s (m - j) (t.drop q) = some r ∧ P.take j ++ posK s t.length (m - j) (t.drop q) = P ∧ OwnI wr w.heap.size out (P.take j) ∧ Below w.heap.size w wr
set_option maxHeartbeats 1000000 in
theorem rPart_any {S1 S2 : Nat → Prop} (a1 a2 : Option Addr) (c1 c2 : Nat) (s : Sg) (t : List Int) (p : Nat) (r : List Int) (w : World) (h1 : Sign S1 w a1 c1 s) (h2 : Ints S2 w a2 c2 t) (hok : okSign s = true) (hp : skip s 1 (t.drop p) = some r) (hl : t.length ≤ 60) :
    Calls Try.prog 23 #[.slice a1 s.length c1, .slice a2 t.length c2, .int .i64 p] w (retOwn w (partAt s (t.drop p))) := by
  have m2 := h2.le
  have mc := h2.max
  unfold big at mc
  have hcap := h2.cap
  obtain ⟨hlt, _⟩ := skip_drop (k := 0) hp
  obtain ⟨b, o, rfl, -, q1, -⟩ := h2.int p hlt
  have hbw : b < w.heap.size := World.block_lt_of_cell? w _ q1
  obtain ⟨g1, g2, g3, g4⟩ := endOf_some s t p r hp
  have ce := fun W hW1 hW2 => rEnd_any (S1 := S1) (S2 := S2) a1 (some ⟨b, o, none⟩) c1 c2 s t p r W hW1 hW2 hok hp
  obtain ⟨z, hz⟩ : ∃ z, t.length - r.length = z := ⟨_, rfl⟩
  have hlen := skip_len _ _ _ _ hp
  rw [List.length_drop] at hlen
  have hpart : (t.drop p).take (z - p) = partAt s (t.drop p) := by
    unfold partAt; rw [hp]; simp; congr 1; omega
  have hplen : (partAt s (t.drop p)).length = z - p := by rw [partAt_len hp, List.length_drop]; omega
  rw [hz] at ce g3 g4
  have hsub := h2.part p z (c2 - p) (by omega) g4 (by omega) (by omega)
  rw [hpart] at hsub
  obtain ⟨u, hu⟩ : ∃ u, partAt s (t.drop p) = u := ⟨_, rfl⟩
  rw [hu] at hsub hplen ⊢
  have ce1 := ce (w.alloc (.cells #[] 3)) (h1.below (below1 _ _)) (h2.below (below1 _ _))
  obtain ⟨v', w', hrun, ho, hg, -, -⟩ := (OwnL.made intE (fun _ => False) w w.heap.size 3 (Nat.le_refl _)).append_run (P := Try.prog) (t := 25) (ty := 25) Try.underlying25 infoInt rfl (hsub.below (below1 w (.cells #[] 3))) (fun _ _ _ h => h) (by simp; omega) (by unfold big; simp; omega) (by simp)
  have hB : Below w.heap.size w w' := (below1 w (.cells #[] 3)).grown hg (by simp) (fun k e => by simp [Value.ownBlock] at e; omega)
  rw [List.nil_append] at ho
  rw [hplen] at hrun
  have hrunH := Lib.hid hrun
  have ceH := Lib.hid ce1
  have hoH := Lib.hid ho
  have hBH := Lib.hid hB
  clear hg hrun ce1 ce ho hB g1 g2 hp hpart hplen hu hz hlen hsub hok
  go_enter Try.func23, Try.ntmps23
  go_wp2_with (first
        | (go_at_call 41; refine ceH.out.mono ?_; rintro e w' ⟨rfl, rfl⟩)
        | (at_builtin; refine wpList_append_run rfl _ _ _ rfl rfl rfl hrunH.out ?_))
  go_ret
  exact ⟨_, rfl, hoH.out, hBH.out⟩
end Go.Proofs.Ytjiffkpgadjodaa
