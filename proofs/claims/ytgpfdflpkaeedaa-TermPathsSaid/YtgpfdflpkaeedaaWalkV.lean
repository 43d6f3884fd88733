/- Walks: Depth of the reference, Vars of the reference. -/
import Derived.Test.YtgpfdflpkaeedaaWalkM
import Derived.Test.YtgpfdflpkaeedaaMath6
namespace Go.Proofs.Ytgpfdflpkaeedaa
open Go Go.RowKit Go.Maps

def depRel (s : Sg) (t r : List Int) (p m F : Nat) (w : World) (most i : Value) (wr : World) : Prop :=
  ∃ j q D : Nat, i = .int .i64 j ∧ most = .int .i64 D ∧ j ≤ m ∧ q ≤ t.length ∧ p < q ∧ skip s j (t.drop (p + 1)) = some (t.drop q) ∧ skip s (m - j) (t.drop q) = some r ∧
    D ≤ F ∧ max D (depArgs (dep s F) s (m - j) (t.drop q)) = depArgs (dep s F) s m (t.drop (p + 1)) ∧ Below w.heap.size w wr
set_option maxRecDepth 20000 in
set_option maxHeartbeats 4000000 in
theorem rdepth_any {S1 S2 : Nat → Prop} (a1 a2 : Option Addr) (c1 c2 : Nat) (s : Sg) (t : List Int) (hok : okSign s = true) (hl : t.length ≤ 60) : ∀ (N : Nat) (_ : N ≤ 100) (p : Nat) (r : List Int) (w : World) (_ : Sign S1 w a1 c1 s) (_ : Ints S2 w a2 c2 t) (_ : skip s 1 (t.drop p) = some r) (_ : t.length - p ≤ N),
    Calls Try.prog 59 #[.slice a1 s.length c1, .slice a2 t.length c2, .int .i64 p] w fun e w' => e = .returned (.int .i64 (dep s N (t.drop p) : Nat)) ∧ Below w.heap.size w w' := by
  intro N
  induction N with
  | zero =>
    intro _ p r w h1 h2 hp hN
    obtain ⟨hlt, -⟩ := skip_drop (k := 0) hp
    omega
  | succ F ih =>
    intro hF100 p r w h1 h2 hp hN
    have hF60 : F ≤ 100 := by omega
    have ih := ih hF60
    have m1 := h1.le
    have m2 := h2.le
    have ca := rArguments_any a1 a2 c1 c2 s t p r w h1 h2 hok hp hl
    obtain ⟨hlt, hc, hs⟩ := skip_drop (k := 0) hp
    have hgd : t.getD p 0 = t[p] := by simp [hlt]
    rw [hgd] at ca
    rw [Nat.zero_add] at hs
    have hA3 := (arC_ok hok hc).2
    have hdep : dep s (F + 1) (t.drop p) = depArgs (dep s F) s (ar s t[p]) (t.drop (p + 1)) + 1 := by rw [List.drop_eq_getElem_cons hlt]; rfl
    rw [hdep]
    obtain ⟨m, hm⟩ : ∃ m, ar s t[p] = m := ⟨_, rfl⟩
    rw [hm] at ca hs hA3 ⊢
    have hpg := fun k l' (h : skip s k (t.drop (p + 1)) = some l') (hk : k < m) => posK_get (n := t.length) h hk
    have hPl := posK_length s t.length m (t.drop (p + 1))
    obtain ⟨P, hP⟩ : ∃ P, posK s t.length m (t.drop (p + 1)) = P := ⟨_, rfl⟩
    rw [hP] at ca hPl
    simp only [hP] at hpg
    obtain ⟨E, hE⟩ : ∃ E, depArgs (dep s F) s m (t.drop (p + 1)) = E := ⟨_, rfl⟩
    rw [hE]
    have hE2 : E ≤ F := by rw [← hE]; exact depArgs_le _ _ _ (dep_le s F) _ _
    have hF : t.length - (p + 1) ≤ F := by omega
    have caH := Lib.hid ca
    have hsH := Lib.hid hs
    have hEH := Lib.hid hE
    have hpgH := Lib.hid hpg
    have ihH := Lib.hid ih
    have hokH := Lib.hid hok
    clear ca hs hE hP hpg hm hdep hgd hp hc ih hok
    · go_enter Try.func59, Try.ntmps59
      go_wp2_with (go_at_call 72; refine caH.out.mono ?_; rintro e w1 ⟨v, rfl, ho, hb1⟩; obtain ⟨a4, c4, rfl, hI⟩ := ho.ints; clear ho; have mI := hI.le; rw [hPl])
      go_loopw [8, 9] (fun most i wr => depRel s t r p m F w1 most i wr) (fun _ i _ => m - (intOf i).toNat)
      case atStart => exact ⟨0, p + 1, 0, rfl, rfl, Nat.zero_le _, by omega, by omega, skip_zero _ _, by simpa using hsH.out, Nat.zero_le _, by simp, .refl _ _⟩
      case round =>
        obtain ⟨j, q, D, rfl, rfl, hj, hq, hpq, hsj, hsm, hD, hmax, hB⟩ := hrel
        have hBw := bcall hb1 hB
        by_cases hjm : j < m
        · obtain ⟨k, hk⟩ : ∃ k, m - j = k + 1 := ⟨m - j - 1, by omega⟩
          rw [hk] at hsm hmax
          obtain ⟨rest, hr1, hr2⟩ := skip_one hsm
          obtain ⟨g1, g2, g3, g4⟩ := endOf_some s t q rest hr1
          have hPj := hpgH.out j _ hsj hjm
          have hjP : j < P.length := by omega
          rw [List.getElem?_eq_getElem hjP, List.length_drop, show t.length - (t.length - q) = q by omega] at hPj
          have hPj' : P[j] = (q : Int) := Option.some.inj hPj
          have hI' := hI.below hB
          obtain ⟨b, o, rfl, -, qc, -⟩ := hI'.int j hjP
          rw [hPj'] at qc
          have cd := ihH.out q rest wr (h1.below hBw) (h2.below hBw) hr1 (by omega)
          have hmax2 : max (max D (dep s F (t.drop q))) (depArgs (dep s F) s k rest) = E := by
            rw [depArgs, hr1, Option.getD_some] at hmax
            rw [← hEH.out, ← hmax]; omega
          have hdl := dep_le s F (t.drop q)
          obtain ⟨d, hd⟩ : ∃ d, dep s F (t.drop q) = d := ⟨_, rfl⟩
          rw [hd] at cd hmax2 hdl
          obtain ⟨z, hz⟩ : ∃ z, t.length - rest.length = z := ⟨_, rfl⟩
          rw [hz] at g2 g3 g4
          have hsj' : skip s (j + 1) (t.drop (p + 1)) = some (t.drop z) := by rw [skip_add, hsj, Option.bind_some, hr1, g2]
          have hsm' : skip s (m - (j + 1)) (t.drop z) = some r := by rw [show m - (j + 1) = k by omega, g2]; exact hr2
          rw [← g2, show k = m - (j + 1) by omega] at hmax2
          have cdH := Lib.hid cd
          have hmaxH := Lib.hid hmax2
          have hsjH := Lib.hid hsj'
          have hsmH := Lib.hid hsm'
          have hBH := Lib.hid hB
          have hpz : p < z := by omega
          clear cd hmax hmax2 hsj hsj' hsm hsm' hB hBw hI hI' hr1 hr2 hPj hPj' g1 g2 hz hd hb1 hk h1 h2
          by_cases hdD : (D : Int) < d
          · go_wp2_with (go_at_call 59; refine cdH.out.mono ?_; rintro e w' ⟨rfl, hb2⟩)
            go_roundw
            case rel => exact ⟨j + 1, z, d, by go_num, rfl, by omega, g4, hpz, hsjH.out, hsmH.out, by omega, by rw [hEH.out, ← hmaxH.out, Nat.max_eq_right (show D ≤ d by omega)], hBH.out.trans (hb2.mono hBH.out.size)⟩
            case measure => simp [intOf]; omega
          · go_wp2_with (go_at_call 59; refine cdH.out.mono ?_; rintro e w' ⟨rfl, hb2⟩)
            go_roundw
            case rel => exact ⟨j + 1, z, D, by go_num, rfl, by omega, g4, hpz, hsjH.out, hsmH.out, by omega, by rw [hEH.out, ← hmaxH.out, Nat.max_eq_left (show d ≤ D by omega)], hBH.out.trans (hb2.mono hBH.out.size)⟩
            case measure => simp [intOf]; omega
        · have hjm' : j = m := by omega
          subst hjm'
          have hDE : D = E := by
            rw [hEH.out, Nat.sub_self] at hmax
            rw [← hmax]; unfold depArgs; omega
          subst hDE
          have hBH := Lib.hid hBw
          clear hmax hsj hsm hB hBw hI h1 h2
          go_wp2_with fail
          go_ret
          exact ⟨ret_int (by simp), hBH.out⟩

def depE (s : Sg) (t : List Int) : Int × Int := if okT s t = true then (((depth s t : Nat) : Int), 0) else (0, 1)
theorem depE_eq (s : Sg) (t : List Int) : (if okT s t then #[Value.int .i64 (depth s t : Nat), .int .i64 0] else #[.int .i64 0, .int .i64 1]) = #[.int .i64 (depE s t).1, .int .i64 (depE s t).2] := by
  unfold depE; split <;> rfl
set_option maxHeartbeats 1000000 in
theorem rDepth_any {S1 S2 : Nat → Prop} (a1 a2 : Option Addr) (c1 c2 : Nat) (s : Sg) (t : List Int) (w : World) (h1 : Sign S1 w a1 c1 s) (h2 : Ints S2 w a2 c2 t) :
    Calls Try.prog 28 #[.slice a1 s.length c1, .slice a2 t.length c2] w fun e w' => e = .returned (.tuple #[.int .i64 (depE s t).1, .int .i64 (depE s t).2]) ∧ Below w.heap.size w w' := by
  have m2 := h2.le
  have v1 := rValid_any a1 a2 c1 c2 s t w h1 h2
  obtain ⟨x, hx⟩ : ∃ x, okT s t = x := ⟨_, rfl⟩
  rw [hx] at v1
  have v1H := Lib.hid v1
  clear v1
  cases x with
  | false =>
    have hE : depE s t = (0, 1) := by rw [depE, hx]; rfl
    rw [hE]
    clear hx hE
    go_enter Try.func28, Try.ntmps28
    go_wp2_with (go_at_call 26; refine v1H.out.mono ?_; rintro e w1 ⟨rfl, hd⟩)
    go_ret2
    exact ⟨rfl, hd.below _⟩
  | true =>
    have hE : depE s t = (((depth s t : Nat) : Int), 0) := by rw [depE, if_pos hx]
    rw [hE]
    obtain ⟨h3, h4, h5, h6⟩ := okT_parts hx
    have cd := fun W hW1 hW2 => rdepth_any (S1 := S1) (S2 := S2) a1 a2 c1 c2 s t h3 h5 t.length (by omega) 0 [] W hW1 hW2 (okT_skip0 hx) (by omega)
    rw [List.drop_zero] at cd
    have cdH := Lib.hid cd
    have hdE : ((depth s t : Nat) : Int) = (dep s t.length t : Nat) := rfl
    rw [hdE]
    clear hx cd hE h6 hdE
    go_enter Try.func28, Try.ntmps28
    go_wp2_with (first | (go_at_call 26; refine v1H.out.mono ?_; rintro e w1 ⟨rfl, hd⟩) | (go_at_call 59; refine (cdH.out _ (h1.drew hd) (h2.drew hd)).mono ?_; rintro e w2 ⟨rfl, hb2⟩))
    go_ret2
    exact ⟨rfl, bcall (hd.below _) hb2⟩
end Go.Proofs.Ytgpfdflpkaeedaa
