/- Walks of package unify: comes, walked. -/
import Derived.Test.YtgkddhakhapjlaaUComes
namespace Go.Proofs.Ytgkddhakhapjlaa
open Go Go.RowKit Go.Maps

def comesRet (B : Bd) (θ : Int → List Int) (v : Int) (t : List Int) (mm : Nat) (M : Bd) (w : World) (e : Ending) (w' : World) : Prop :=
  ∃ (M' : Bd) (n' : Nat) (r : Bool), e = .returned (.bool r) ∧ MetW w' mm n' M' ∧ n' + free M' ≤ 24 ∧ w.grownBy w' (some mm) ∧ Sub M M' ∧ (r = true → v ∈ ap θ t) ∧
    (r = false → (∀ n ∈ t, n < 0 → (M' n).isSome = true) ∧ Mets B v M M')
def comesRel (B : Bd) (v : Int) (t : List Int) (mm : Nat) (M : Bd) (w : World) (jv : Value) (wr : World) : Prop :=
  ∃ (j n : Nat) (M' : Bd), jv = .int .i64 j ∧ j ≤ t.length ∧ MetW wr mm n M' ∧ n + free M' ≤ 24 ∧ w.grownBy wr (some mm) ∧ Sub M M' ∧ (∀ n ∈ t.take j, n < 0 → (M' n).isSome = true) ∧ Mets B v M M'
theorem take_all {t : List Int} {j : Nat} {P : Int → Prop} (h : ∀ n ∈ t.take j, P n) (hj : j < t.length) (hp : P t[j]) : ∀ n ∈ t.take (j + 1), P n := by
  intro n hn
  rw [List.take_succ_eq_append_getElem hj, List.mem_append, List.mem_singleton] at hn
  rcases hn with e | e
  · exact h n e
  · rw [e]; exact hp

theorem grown_by' {w w1 w2 : World} {o : Option Nat} (h : w.grownBy w1 o) (b : w1.grownBy w2 o) : w.grownBy w2 o :=
  ⟨b.os.trans h.os, b.tape.trans h.tape, b.output.trans h.output, Nat.le_trans h.size b.size, fun x hx hne => (b.block x (Nat.lt_of_lt_of_le hx h.size) hne).trans (h.block x hx hne)⟩
set_option maxRecDepth 20000 in
set_option maxHeartbeats 8000000 in
theorem comes1_any {w0 : World} {xb mb nb : Nat} {a1 : Option Addr} {c1 : Nat} {s : Sg} {B : Bd} {θ : Int → List Int} {ρ : Int → Nat} (hSl : Slv s B θ ρ) (hRg : RgB B) {v : Int} (hv : v < 0) (hBv : B v = none) (vb tb xx wb mm : Nat) (hmx : mm ≠ xb) (hmb : mm ≠ mb) (hm0 : w0.heap.size ≤ mm) :
    ∀ (K : Nat) (t : List Int) (a : Option Addr) (c n : Nat) (M : Bd) (w : World), (∀ m ∈ t, m < 0 → ρ m < K) → Rg t → T0 w0 a c t → SolvW w0 w xb mb nb a1 c1 s B → CapW w vb tb xx wb xb mm v → MetW w mm n M → n + free M ≤ 24 →
      Calls Try.prog 47 #[.slice a t.length c, .pointer (some ⟨vb, 0, none⟩), .pointer (some ⟨tb, 0, none⟩), .pointer (some ⟨xx, 0, none⟩), .pointer (some ⟨wb, 0, none⟩)] w (comesRet B θ v t mm M w) := by
  intro K
  induction K using Nat.strongRecOn with
  | _ K ih =>
    intro t a c n M w hK hR hT hS hC hM hn
    have ihH := Lib.hid ih
    have hKH := Lib.hid hK
    have hRH := Lib.hid hR
    have hTH := Lib.hid hT
    have hSH := Lib.hid hS
    have hCH := Lib.hid hC
    have hMH := Lib.hid hM
    have hnH := Lib.hid hn
    have m2 := hT.le
    clear ih hK hR hT hS hC hM hn
    go_enter Try.func47, Try.ntmps47
    go_wp2_with fail
    go_loopw [13] (fun jv wr => comesRel B v t mm M w jv wr) (fun jv _ => t.length - (intOf jv).toNat)
    case atStart => exact ⟨0, n, M, rfl, Nat.zero_le _, hMH.out, hnH.out, ⟨rfl, rfl, rfl, Nat.le_refl _, fun _ _ _ => rfl⟩, .refl _, (fun _ h => by cases h), .refl _ _ _⟩
    case round =>
      obtain ⟨j, n1, M1, rfl, hj, hM1, hn1, hg, hs1, ht1, hMt⟩ := hrel
      have hS1 := hSH.out.grown hg hmx hmb hm0
      have hC1 := hCH.out.grown hg
      by_cases hlt : j < t.length
      · obtain ⟨b, o, rfl, -, q, hr⟩ := (hTH.out.below hS1.bel).int j hlt
        obtain ⟨x, hx⟩ : ∃ x, t[j] = x := ⟨_, rfl⟩
        have hxm : x ∈ t := hx ▸ List.getElem_mem hlt
        have htk : x < 0 → ∀ M2 : Bd, Sub M1 M2 → (M2 x).isSome = true → ∀ n ∈ t.take (j + 1), n < 0 → (M2 n).isSome = true := fun _ M2 hsb hx2 => take_all (fun n hn h0 => hsb n (ht1 n hn h0)) hlt (by rw [hx]; exact fun _ => hx2)
        have htp : ¬ x < 0 → ∀ n ∈ t.take (j + 1), n < 0 → (M1 n).isSome = true := fun hx0 => take_all ht1 hlt (by rw [hx]; exact fun h => (hx0 h).elim)
        rw [hx] at q hr
        have qv := hC1.v
        have qt := hC1.t
        have qx := hC1.x
        have qf := hC1.f
        have hM1H := Lib.hid hM1
        have hgH := Lib.hid hg
        have hs1H := Lib.hid hs1
        have hMtH := Lib.hid hMt
        have htkH := Lib.hid htk
        have htpH := Lib.hid htp
        have hS1H := Lib.hid hS1
        have hC1H := Lib.hid hC1
        have hn1H := Lib.hid hn1
        clear hM1 hg hs1 hMt htk htp hS1 hC1 hx ht1
        by_cases hxv : x = v
        · subst hxv
          have hin : x ∈ ap θ t := mem_ap.2 (.inr ⟨x, hxm, hv, by rw [hSl.free x hv hBv]; simp⟩)
          have hinH := Lib.hid hin
          have hxx : (x == x) = true := by simp
          clear hin hxm
          go_wp2_with fail
          go_ret
          exact ⟨M1, n1, true, rfl, hM1H.out, hn1H.out, hgH.out, hs1H.out, fun _ => hinH.out, fun h => by cases h⟩
        · have hxvb : (x == v) = false := by simpa using hxv
          by_cases hx0 : x < 0
          · have hlk := hM1H.out.look x hr
            by_cases hmet : (M1 x).isSome = true
            · rw [hmet] at hlk
              have htk := Lib.hid (htkH.out hx0 M1 (.refl _) hmet)
              clear hxm hmet
              go_wp2_with fail
              go_roundw
              case rel => exact ⟨j + 1, n1, M1, by go_num, by omega, hM1H.out, hn1H.out, hgH.out, hs1H.out, htk.out, hMtH.out⟩
              case measure => simp [intOf]; omega
            · have hnone := isSome_none hmet
              rw [hnone] at hlk
              have hx24 := hRH.out x hxm hx0
              have hfr := free_bind (q := []) hx0 hx24 hnone
              obtain ⟨w2, hst, hM2, hg2⟩ := hM1H.out.store (by have := hn1H.out; unfold maxLen; omega) x hr hnone
              have hst2 := hst.out
              have hgg := grown_by' hgH.out hg2.out
              have hS2 := hSH.out.grown hgg hmx hmb hm0
              have hC2 := hCH.out.grown hgg
              have p1 := hS2.k1
              have qx2 := hC2.x
              have qf2 := hC2.f
              have hn2 : n1 + 1 + free (upB M1 x []) ≤ 24 := by have := hn1H.out; omega
              have htk := htkH.out hx0 (upB M1 x []) Sub.up (by rw [upB_same]; rfl)
              have hin : ∀ u, B x = some u → v ∈ ap θ u → v ∈ ap θ t := fun u hu hvu => mem_ap.2 (.inr ⟨x, hxm, hx0, by rw [hSl.bnd x u hu]; exact hvu⟩)
              have hKx := hKH.out x hxm hx0
              cases hBx : B x with
              | none =>
                have hlk2 := hS2.map.look_none x hr hBx
                have hMts := Lib.hid (hMtH.out.leaf hxv hBx)
                have htkH2 := Lib.hid htk
                have hggH := Lib.hid hgg
                have hn2H := Lib.hid hn2
                clear hgg hS2 hC2 hn2 hin htk hnone hfr hxm hxv hBx hmet
                go_wp2_with fail
                go_roundw
                case rel => exact ⟨j + 1, n1 + 1, _, by go_num, by omega, hM2.out, hn2H.out, hggH.out, hs1H.out.trans Sub.up, htkH2.out, hMts.out⟩
                case measure => simp [intOf]; omega
              | some u =>
                obtain ⟨a3, c3, hlk2, hI3⟩ := hS2.map.look_some x hr hBx
                have cw := ihH.out (ρ x) hKx u a3 c3 (n1 + 1) (upB M1 x []) w2 (fun m hm h0 => hSl.rk x u hBx m hm h0) (hRg x u hBx).1 hI3 hS2 hC2 hM2.out hn2
                have hMts := Lib.hid fun M3 h1 h2 h3 => hMtH.out.node (M2 := M3) hxv hBx h1 h2 h3
                have hinH := Lib.hid (hin u hBx)
                have cwH := Lib.hid cw
                have htkH2 := Lib.hid htk
                have hggH := Lib.hid hgg
                have hn2H := Lib.hid hn2
                clear hgg hS2 hC2 hn2 hin htk hnone hfr hxm hxv hBx hmet cw hI3
                go_wp2_with fail
                (with_reducible refine cwH.out.mono ?_)
                rintro e w3 ⟨M3, n3, r3, rfl, hM3, hn3, hg3, hs3, ht3, hf3⟩
                have hM3H := Lib.hid hM3
                have hn3H := Lib.hid hn3
                have hg3H := Lib.hid (grown_by' hggH.out hg3)
                have hs3H := Lib.hid hs3
                cases r3 with
                | true =>
                  have hrH := Lib.hid (hinH.out (ht3 rfl))
                  clear hM3 hn3 hg3 hs3 ht3 hf3
                  go_wp2_with fail
                  go_ret
                  exact ⟨M3, n3, true, rfl, hM3H.out, hn3H.out, hg3H.out, (hs1H.out.trans Sub.up).trans hs3H.out, fun _ => hrH.out, fun h => by cases h⟩
                | false =>
                  have hrH := Lib.hid (hf3 rfl)
                  clear hM3 hn3 hg3 hs3 ht3 hf3
                  go_wp2_with fail
                  go_roundw
                  case rel => exact ⟨j + 1, n3, M3, by go_num, by omega, hM3H.out, hn3H.out, hg3H.out, (hs1H.out.trans Sub.up).trans hs3H.out, fun n hn h0 => hs3H.out n (htkH2.out n hn h0), hMts.out M3 hrH.out.2 hs3H.out hrH.out.1⟩
                  case measure => simp [intOf]; omega
          · have htk := Lib.hid (htpH.out hx0)
            clear hxm hxv
            go_wp2_with fail
            go_roundw
            case rel => exact ⟨j + 1, n1, M1, by go_num, by omega, hM1H.out, hn1H.out, hgH.out, hs1H.out, htk.out, hMtH.out⟩
            case measure => simp [intOf]; omega
      · obtain rfl : j = t.length := by omega
        rw [List.take_length] at ht1
        have ht1H := Lib.hid ht1
        have hM1H := Lib.hid hM1
        have hgH := Lib.hid hg
        have hs1H := Lib.hid hs1
        have hMtH := Lib.hid hMt
        have hn1H := Lib.hid hn1
        clear hM1 hg hs1 hMt ht1 hS1 hC1
        go_wp2_with fail
        go_ret
        exact ⟨M1, n1, false, rfl, hM1H.out, hn1H.out, hgH.out, hs1H.out, (fun h => by cases h), fun _ => ⟨ht1H.out, hMtH.out⟩⟩
theorem cap_made (w W : World) (xb : Nat) (v : Int) (t1 t2 t3 t4 : TypeId)
    (hW : ((((w.alloc (.cells #[.pointer (some ⟨xb, 0, none⟩)] t1)).alloc (.cells #[.int .i64 v] t2)).alloc (.map #[] 0)).alloc (.cells #[.map (some (w.heap.size + 1 + 1))] t3)).alloc
      (.cells #[.func (.func 47) #[] #[.pointer (some ⟨w.heap.size + 1, 0, none⟩), .pointer (some ⟨w.heap.size + 1 + 1 + 1, 0, none⟩), .pointer (some ⟨w.heap.size, 0, none⟩), .pointer (some ⟨w.heap.size + 1 + 1 + 1 + 1, 0, none⟩)]] t4) = W) :
    CapW W (w.heap.size + 1) (w.heap.size + 1 + 1 + 1) w.heap.size (w.heap.size + 1 + 1 + 1 + 1) xb (w.heap.size + 1 + 1) v ∧ MetW W (w.heap.size + 1 + 1) 0 (fun _ => none) ∧ Below w.heap.size w W := by
  have e1 : W.cell? ⟨w.heap.size + 1, 0, none⟩ = some (.int .i64 v) := by rw [← hW]; clear hW; go_simp
  have e2 : W.cell? ⟨w.heap.size + 1 + 1 + 1, 0, none⟩ = some (.map (some (w.heap.size + 1 + 1))) := by rw [← hW]; clear hW; go_simp
  have e3 : W.cell? ⟨w.heap.size, 0, none⟩ = some (.pointer (some ⟨xb, 0, none⟩)) := by rw [← hW]; clear hW; go_simp
  have e4 : W.cell? ⟨w.heap.size + 1 + 1 + 1 + 1, 0, none⟩ = some (.func (.func 47) #[] #[.pointer (some ⟨w.heap.size + 1, 0, none⟩), .pointer (some ⟨w.heap.size + 1 + 1 + 1, 0, none⟩), .pointer (some ⟨w.heap.size, 0, none⟩), .pointer (some ⟨w.heap.size + 1 + 1 + 1 + 1, 0, none⟩)]) := by rw [← hW]; clear hW; go_simp
  refine ⟨⟨e1, e2, e3, e4, by omega, by omega, by omega, by omega⟩, ?_, ?_⟩
  · have h := MetW.made ((w.alloc (.cells #[.pointer (some ⟨xb, 0, none⟩)] t1)).alloc (.cells #[.int .i64 v] t2))
    have h2 := h.below (below2 _ (.cells #[.map (some (w.heap.size + 1 + 1))] t3) (.cells #[.func (.func 47) #[] #[.pointer (some ⟨w.heap.size + 1, 0, none⟩), .pointer (some ⟨w.heap.size + 1 + 1 + 1, 0, none⟩), .pointer (some ⟨w.heap.size, 0, none⟩), .pointer (some ⟨w.heap.size + 1 + 1 + 1 + 1, 0, none⟩)]] t4)) (by simp)
    rw [hW] at h2
    simpa using h2
  · rw [← hW]
    exact (((((Below.refl _ w).alloc (by simp) _).alloc (by simp <;> omega) _).alloc (by simp <;> omega) _).alloc (by simp <;> omega) _).alloc (by simp <;> omega) _
theorem free_none : free (fun _ => none) = 24 := by decide
theorem rank_bound (ρ : Int → Nat) : ∀ t : List Int, ∃ K, ∀ m ∈ t, m < 0 → ρ m < K
  | [] => ⟨0, fun _ h => by cases h⟩
  | x :: t => by
    obtain ⟨K, hK⟩ := rank_bound ρ t
    refine ⟨max K (ρ x + 1), fun m hm h0 => ?_⟩
    rcases List.mem_cons.1 hm with e | e
    · subst e; omega
    · have := hK m e h0; omega
set_option maxRecDepth 20000 in
set_option maxHeartbeats 4000000 in
theorem comes_any {w0 w : World} {xb mb nb : Nat} {a1 : Option Addr} {c1 : Nat} {s : Sg} {B : Bd} {θ : Int → List Int} {ρ : Int → Nat} (hS : SolvW w0 w xb mb nb a1 c1 s B) (hSl : Slv s B θ ρ) (hRg : RgB B) {v : Int} (hv : v < 0) (hBv : B v = none) {a : Option Addr} {c : Nat} {t : List Int} (ht : T0 w0 a c t) (hR : Rg t) :
    Calls Try.prog 42 #[.pointer (some ⟨xb, 0, none⟩), .int .i64 v, .slice a t.length c] w fun e w' => ∃ r, e = .returned (.bool r) ∧ (r = true ↔ v ∈ ap θ t) ∧ Below w.heap.size w w' := by
  obtain ⟨K, hK⟩ := rank_bound ρ t
  have hmm := @run_makeMap Try.prog
  have hx1 := hS.lt
  have hm1 := hS.map.lt
  have hz := hS.bel.size
  have hSH := Lib.hid hS
  have m2 := ht.le
  have key := fun vb tb xx wb mm hmx hmb hm0 n M W => comes1_any (w0 := w0) (xb := xb) (mb := mb) (nb := nb) (a1 := a1) (c1 := c1) hSl hRg hv hBv vb tb xx wb mm hmx hmb hm0 K t a c n M W hK hR ht
  have keyH := Lib.hid key
  clear key hS
  go_enter Try.func42, Try.ntmps42
  go_wp2_with fail
  obtain ⟨hC, hM, hB⟩ := cap_made w _ xb v _ _ _ _ rfl
  (with_reducible refine (keyH.out _ _ _ _ _ (by omega) (by omega) (by omega) 0 _ _ (hSH.out.below hB) hC hM (by rw [free_none]; omega)).mono ?_)
  rintro e w3 ⟨M3, n3, r3, rfl, -, -, hg3, -, ht3, hf3⟩
  have hB3 : Below w.heap.size w w3 := hB.grown hg3 hB.size (fun j e => by injection e with e; omega)
  have hiff : r3 = true ↔ v ∈ ap θ t := ⟨ht3, fun hin => by
    cases r3 with
    | true => rfl
    | false => obtain ⟨k1, k2⟩ := hf3 rfl; exact (mets_not hSl k2 K t k1 hK hv hin).elim⟩
  have hiffH := Lib.hid hiff
  have hB3H := Lib.hid hB3
  clear hiff hB3 ht3 hf3 hg3 hC hM hB
  go_wp2_with fail
  go_ret
  exact ⟨_, rfl, hiffH.out, hB3H.out⟩
end Go.Proofs.Ytgkddhakhapjlaa
