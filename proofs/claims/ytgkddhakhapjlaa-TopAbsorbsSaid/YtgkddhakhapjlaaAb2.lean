/- The proof of one statement, its texts joined in build order, part 2 of 3. Each part below begins with its own remark. -/
import Derived.Test.YtgkddhakhapjlaaAb1
import Derived.Lib.AppendZeros
import Derived.WalkKit
import Derived.Deep.RegionHeld3
import Derived.RangeFuncBox
import Derived.RangeFuncNested
import Derived.RangeFuncBound
import Derived.RangeFuncCalls
import Derived.RangeFuncLeaves
import Derived.DeepKeys4
import Derived.Lib.SlBytesRow
import Derived.Lib.BufferRead
/- Walks of package unify: comes, walked. -/
namespace Go.Proofs.Ytgkddhakhapjlaa
open Go Go.RowKit Go.Maps

def comesRet (B : Bd) (θ : Int → List Int) (v : Int) (t : List Int) (mm : Nat) (M : Bd) (w : World) (e : Ending) (w' : World) : Prop :=
  ∃ (M' : Bd) (n' : Nat) (r : Bool), e = .returned (.bool r) ∧ MetW w' mm n' M' ∧ n' + free M' ≤ 24 ∧ w.grownBy w' (some mm) ∧ Sub M M' ∧ (r = true → v ∈ ap θ t) ∧
    (r = false → (∀ n ∈ t, n < 0 → (M' n).isSome = true) ∧ Mets B v M M')
def comesRel (B : Bd) (v : Int) (t : List Int) (mm : Nat) (M : Bd) (w : World) (jv : Value) (wr : World) : Prop :=
  ∃ (j n : Nat) (M' : Bd), jv = .int .i64 j ∧ j ≤ t.length ∧ MetW wr mm n M' ∧ n + free M' ≤ 24 ∧ w.grownBy wr (some mm) ∧ Sub M M' ∧ (∀ n ∈ t.take j, n < 0 → (M' n).isSome = true) ∧ Mets B v M M'
theorem take_all {t : List Int} {j : Nat} {P : Int → Prop} (h : ∀ n ∈ t.take j, P n) (hj : j < t.length) (hp : P t[j]) : ∀ n ∈ t.take (j + 1), P n := by
  intro n hn
  rw [List.take_succ_eq_append_getElem hj, List.mem_append, List.mem_singleton] at hn
  rcases hn with e | e
  · exact h n e
  · rw [e]; exact hp

theorem grown_by' {w w1 w2 : World} {o : Option Nat} (h : w.grownBy w1 o) (b : w1.grownBy w2 o) : w.grownBy w2 o :=
  ⟨b.os.trans h.os, b.tape.trans h.tape, b.output.trans h.output, Nat.le_trans h.size b.size, fun x hx hne => (b.block x (Nat.lt_of_lt_of_le hx h.size) hne).trans (h.block x hx hne)⟩
set_option maxRecDepth 20000 in
set_option maxHeartbeats 8000000 in
theorem comes1_any {w0 : World} {xb mb nb : Nat} {a1 : Option Addr} {c1 : Nat} {s : Sg} {B : Bd} {θ : Int → List Int} {ρ : Int → Nat} (hSl : Slv s B θ ρ) (hRg : RgB B) {v : Int} (hv : v < 0) (hBv : B v = none) (vb tb xx wb mm : Nat) (hmx : mm ≠ xb) (hmb : mm ≠ mb) (hm0 : w0.heap.size ≤ mm) :
    ∀ (K : Nat) (t : List Int) (a : Option Addr) (c n : Nat) (M : Bd) (w : World), (∀ m ∈ t, m < 0 → ρ m < K) → Rg t → T0 w0 a c t → SolvW w0 w xb mb nb a1 c1 s B → CapW w vb tb xx wb xb mm v → MetW w mm n M → n + free M ≤ 24 →
      Calls Try.prog 47 #[.slice a t.length c, .pointer (some ⟨vb, 0, none⟩), .pointer (some ⟨tb, 0, none⟩), .pointer (some ⟨xx, 0, none⟩), .pointer (some ⟨wb, 0, none⟩)] w (comesRet B θ v t mm M w) := by
  intro K
  induction K using Nat.strongRecOn with
  | _ K ih =>
    intro t a c n M w hK hR hT hS hC hM hn
    have ihH := Lib.hid ih
    have hKH := Lib.hid hK
    have hRH := Lib.hid hR
    have hTH := Lib.hid hT
    have hSH := Lib.hid hS
    have hCH := Lib.hid hC
    have hMH := Lib.hid hM
    have hnH := Lib.hid hn
    have m2 := hT.le
    clear ih hK hR hT hS hC hM hn
    go_enter Try.func47, Try.ntmps47
    go_wp2_with fail
    go_loopw [13] (fun jv wr => comesRel B v t mm M w jv wr) (fun jv _ => t.length - (intOf jv).toNat)
    case atStart => exact ⟨0, n, M, rfl, Nat.zero_le _, hMH.out, hnH.out, ⟨rfl, rfl, rfl, Nat.le_refl _, fun _ _ _ => rfl⟩, .refl _, (fun _ h => by cases h), .refl _ _ _⟩
    case round =>
      obtain ⟨j, n1, M1, rfl, hj, hM1, hn1, hg, hs1, ht1, hMt⟩ := hrel
      have hS1 := hSH.out.grown hg hmx hmb hm0
      have hC1 := hCH.out.grown hg
      by_cases hlt : j < t.length
      · obtain ⟨b, o, rfl, -, q, hr⟩ := (hTH.out.below hS1.bel).int j hlt
        obtain ⟨x, hx⟩ : ∃ x, t[j] = x := ⟨_, rfl⟩
        have hxm : x ∈ t := hx ▸ List.getElem_mem hlt
        have htk : x < 0 → ∀ M2 : Bd, Sub M1 M2 → (M2 x).isSome = true → ∀ n ∈ t.take (j + 1), n < 0 → (M2 n).isSome = true := fun _ M2 hsb hx2 => take_all (fun n hn h0 => hsb n (ht1 n hn h0)) hlt (by rw [hx]; exact fun _ => hx2)
        have htp : ¬ x < 0 → ∀ n ∈ t.take (j + 1), n < 0 → (M1 n).isSome = true := fun hx0 => take_all ht1 hlt (by rw [hx]; exact fun h => (hx0 h).elim)
        rw [hx] at q hr
        have qv := hC1.v
        have qt := hC1.t
        have qx := hC1.x
        have qf := hC1.f
        have hM1H := Lib.hid hM1
        have hgH := Lib.hid hg
        have hs1H := Lib.hid hs1
        have hMtH := Lib.hid hMt
        have htkH := Lib.hid htk
        have htpH := Lib.hid htp
        have hS1H := Lib.hid hS1
        have hC1H := Lib.hid hC1
        have hn1H := Lib.hid hn1
        clear hM1 hg hs1 hMt htk htp hS1 hC1 hx ht1
        by_cases hxv : x = v
        · subst hxv
          have hin : x ∈ ap θ t := mem_ap.2 (.inr ⟨x, hxm, hv, by rw [hSl.free x hv hBv]; simp⟩)
          have hinH := Lib.hid hin
          have hxx : (x == x) = true := by simp
          clear hin hxm
          go_wp2_with fail
          go_ret
          exact ⟨M1, n1, true, rfl, hM1H.out, hn1H.out, hgH.out, hs1H.out, fun _ => hinH.out, fun h => by cases h⟩
        · have hxvb : (x == v) = false := by simpa using hxv
          by_cases hx0 : x < 0
          · have hlk := hM1H.out.look x hr
            by_cases hmet : (M1 x).isSome = true
            · rw [hmet] at hlk
              have htk := Lib.hid (htkH.out hx0 M1 (.refl _) hmet)
              clear hxm hmet
              go_wp2_with fail
              go_roundw
              case rel => exact ⟨j + 1, n1, M1, by go_num, by omega, hM1H.out, hn1H.out, hgH.out, hs1H.out, htk.out, hMtH.out⟩
              case measure => simp [intOf]; omega
            · have hnone := isSome_none hmet
              rw [hnone] at hlk
              have hx24 := hRH.out x hxm hx0
              have hfr := free_bind (q := []) hx0 hx24 hnone
              obtain ⟨w2, hst, hM2, hg2⟩ := hM1H.out.store (by have := hn1H.out; unfold maxLen; omega) x hr hnone
              have hst2 := hst.out
              have hgg := grown_by' hgH.out hg2.out
              have hS2 := hSH.out.grown hgg hmx hmb hm0
              have hC2 := hCH.out.grown hgg
              have p1 := hS2.k1
              have qx2 := hC2.x
              have qf2 := hC2.f
              have hn2 : n1 + 1 + free (upB M1 x []) ≤ 24 := by have := hn1H.out; omega
              have htk := htkH.out hx0 (upB M1 x []) Sub.up (by rw [upB_same]; rfl)
              have hin : ∀ u, B x = some u → v ∈ ap θ u → v ∈ ap θ t := fun u hu hvu => mem_ap.2 (.inr ⟨x, hxm, hx0, by rw [hSl.bnd x u hu]; exact hvu⟩)
              have hKx := hKH.out x hxm hx0
              cases hBx : B x with
              | none =>
                have hlk2 := hS2.map.look_none x hr hBx
                have hMts := Lib.hid (hMtH.out.leaf hxv hBx)
                have htkH2 := Lib.hid htk
                have hggH := Lib.hid hgg
                have hn2H := Lib.hid hn2
                clear hgg hS2 hC2 hn2 hin htk hnone hfr hxm hxv hBx hmet
                go_wp2_with fail
                go_roundw
                case rel => exact ⟨j + 1, n1 + 1, _, by go_num, by omega, hM2.out, hn2H.out, hggH.out, hs1H.out.trans Sub.up, htkH2.out, hMts.out⟩
                case measure => simp [intOf]; omega
              | some u =>
                obtain ⟨a3, c3, hlk2, hI3⟩ := hS2.map.look_some x hr hBx
                have cw := ihH.out (ρ x) hKx u a3 c3 (n1 + 1) (upB M1 x []) w2 (fun m hm h0 => hSl.rk x u hBx m hm h0) (hRg x u hBx).1 hI3 hS2 hC2 hM2.out hn2
                have hMts := Lib.hid fun M3 h1 h2 h3 => hMtH.out.node (M2 := M3) hxv hBx h1 h2 h3
                have hinH := Lib.hid (hin u hBx)
                have cwH := Lib.hid cw
                have htkH2 := Lib.hid htk
                have hggH := Lib.hid hgg
                have hn2H := Lib.hid hn2
                clear hgg hS2 hC2 hn2 hin htk hnone hfr hxm hxv hBx hmet cw hI3
                go_wp2_with fail
                (with_reducible refine cwH.out.mono ?_)
                rintro e w3 ⟨M3, n3, r3, rfl, hM3, hn3, hg3, hs3, ht3, hf3⟩
                have hM3H := Lib.hid hM3
                have hn3H := Lib.hid hn3
                have hg3H := Lib.hid (grown_by' hggH.out hg3)
                have hs3H := Lib.hid hs3
                cases r3 with
                | true =>
                  have hrH := Lib.hid (hinH.out (ht3 rfl))
                  clear hM3 hn3 hg3 hs3 ht3 hf3
                  go_wp2_with fail
                  go_ret
                  exact ⟨M3, n3, true, rfl, hM3H.out, hn3H.out, hg3H.out, (hs1H.out.trans Sub.up).trans hs3H.out, fun _ => hrH.out, fun h => by cases h⟩
                | false =>
                  have hrH := Lib.hid (hf3 rfl)
                  clear hM3 hn3 hg3 hs3 ht3 hf3
                  go_wp2_with fail
                  go_roundw
                  case rel => exact ⟨j + 1, n3, M3, by go_num, by omega, hM3H.out, hn3H.out, hg3H.out, (hs1H.out.trans Sub.up).trans hs3H.out, fun n hn h0 => hs3H.out n (htkH2.out n hn h0), hMts.out M3 hrH.out.2 hs3H.out hrH.out.1⟩
                  case measure => simp [intOf]; omega
          · have htk := Lib.hid (htpH.out hx0)
            clear hxm hxv
            go_wp2_with fail
            go_roundw
            case rel => exact ⟨j + 1, n1, M1, by go_num, by omega, hM1H.out, hn1H.out, hgH.out, hs1H.out, htk.out, hMtH.out⟩
            case measure => simp [intOf]; omega
      · obtain rfl : j = t.length := by omega
        rw [List.take_length] at ht1
        have ht1H := Lib.hid ht1
        have hM1H := Lib.hid hM1
        have hgH := Lib.hid hg
        have hs1H := Lib.hid hs1
        have hMtH := Lib.hid hMt
        have hn1H := Lib.hid hn1
        clear hM1 hg hs1 hMt ht1 hS1 hC1
        go_wp2_with fail
        go_ret
        exact ⟨M1, n1, false, rfl, hM1H.out, hn1H.out, hgH.out, hs1H.out, (fun h => by cases h), fun _ => ⟨ht1H.out, hMtH.out⟩⟩
theorem cap_made (w W : World) (xb : Nat) (v : Int) (t1 t2 t3 t4 : TypeId)
    (hW : ((((w.alloc (.cells #[.pointer (some ⟨xb, 0, none⟩)] t1)).alloc (.cells #[.int .i64 v] t2)).alloc (.map #[] 0)).alloc (.cells #[.map (some (w.heap.size + 1 + 1))] t3)).alloc
      (.cells #[.func (.func 47) #[] #[.pointer (some ⟨w.heap.size + 1, 0, none⟩), .pointer (some ⟨w.heap.size + 1 + 1 + 1, 0, none⟩), .pointer (some ⟨w.heap.size, 0, none⟩), .pointer (some ⟨w.heap.size + 1 + 1 + 1 + 1, 0, none⟩)]] t4) = W) :
    CapW W (w.heap.size + 1) (w.heap.size + 1 + 1 + 1) w.heap.size (w.heap.size + 1 + 1 + 1 + 1) xb (w.heap.size + 1 + 1) v ∧ MetW W (w.heap.size + 1 + 1) 0 (fun _ => none) ∧ Below w.heap.size w W := by
  have e1 : W.cell? ⟨w.heap.size + 1, 0, none⟩ = some (.int .i64 v) := by rw [← hW]; clear hW; go_simp
  have e2 : W.cell? ⟨w.heap.size + 1 + 1 + 1, 0, none⟩ = some (.map (some (w.heap.size + 1 + 1))) := by rw [← hW]; clear hW; go_simp
  have e3 : W.cell? ⟨w.heap.size, 0, none⟩ = some (.pointer (some ⟨xb, 0, none⟩)) := by rw [← hW]; clear hW; go_simp
  have e4 : W.cell? ⟨w.heap.size + 1 + 1 + 1 + 1, 0, none⟩ = some (.func (.func 47) #[] #[.pointer (some ⟨w.heap.size + 1, 0, none⟩), .pointer (some ⟨w.heap.size + 1 + 1 + 1, 0, none⟩), .pointer (some ⟨w.heap.size, 0, none⟩), .pointer (some ⟨w.heap.size + 1 + 1 + 1 + 1, 0, none⟩)]) := by rw [← hW]; clear hW; go_simp
  refine ⟨⟨e1, e2, e3, e4, by omega, by omega, by omega, by omega⟩, ?_, ?_⟩
  · have h := MetW.made ((w.alloc (.cells #[.pointer (some ⟨xb, 0, none⟩)] t1)).alloc (.cells #[.int .i64 v] t2))
    have h2 := h.below (below2 _ (.cells #[.map (some (w.heap.size + 1 + 1))] t3) (.cells #[.func (.func 47) #[] #[.pointer (some ⟨w.heap.size + 1, 0, none⟩), .pointer (some ⟨w.heap.size + 1 + 1 + 1, 0, none⟩), .pointer (some ⟨w.heap.size, 0, none⟩), .pointer (some ⟨w.heap.size + 1 + 1 + 1 + 1, 0, none⟩)]] t4)) (by simp)
    rw [hW] at h2
    simpa using h2
  · rw [← hW]
    exact (((((Below.refl _ w).alloc (by simp) _).alloc (by simp <;> omega) _).alloc (by simp <;> omega) _).alloc (by simp <;> omega) _).alloc (by simp <;> omega) _
theorem free_none : free (fun _ => none) = 24 := by decide
theorem rank_bound (ρ : Int → Nat) : ∀ t : List Int, ∃ K, ∀ m ∈ t, m < 0 → ρ m < K
  | [] => ⟨0, fun _ h => by cases h⟩
  | x :: t => by
    obtain ⟨K, hK⟩ := rank_bound ρ t
    refine ⟨max K (ρ x + 1), fun m hm h0 => ?_⟩
    rcases List.mem_cons.1 hm with e | e
    · subst e; omega
    · have := hK m e h0; omega
set_option maxRecDepth 20000 in
set_option maxHeartbeats 4000000 in
theorem comes_any {w0 w : World} {xb mb nb : Nat} {a1 : Option Addr} {c1 : Nat} {s : Sg} {B : Bd} {θ : Int → List Int} {ρ : Int → Nat} (hS : SolvW w0 w xb mb nb a1 c1 s B) (hSl : Slv s B θ ρ) (hRg : RgB B) {v : Int} (hv : v < 0) (hBv : B v = none) {a : Option Addr} {c : Nat} {t : List Int} (ht : T0 w0 a c t) (hR : Rg t) :
    Calls Try.prog 42 #[.pointer (some ⟨xb, 0, none⟩), .int .i64 v, .slice a t.length c] w fun e w' => ∃ r, e = .returned (.bool r) ∧ (r = true ↔ v ∈ ap θ t) ∧ Below w.heap.size w w' := by
  obtain ⟨K, hK⟩ := rank_bound ρ t
  have hmm := @run_makeMap Try.prog
  have hx1 := hS.lt
  have hm1 := hS.map.lt
  have hz := hS.bel.size
  have hSH := Lib.hid hS
  have m2 := ht.le
  have key := fun vb tb xx wb mm hmx hmb hm0 n M W => comes1_any (w0 := w0) (xb := xb) (mb := mb) (nb := nb) (a1 := a1) (c1 := c1) hSl hRg hv hBv vb tb xx wb mm hmx hmb hm0 K t a c n M W hK hR ht
  have keyH := Lib.hid key
  clear key hS
  go_enter Try.func42, Try.ntmps42
  go_wp2_with fail
  obtain ⟨hC, hM, hB⟩ := cap_made w _ xb v _ _ _ _ rfl
  (with_reducible refine (keyH.out _ _ _ _ _ (by omega) (by omega) (by omega) 0 _ _ (hSH.out.below hB) hC hM (by rw [free_none]; omega)).mono ?_)
  rintro e w3 ⟨M3, n3, r3, rfl, -, -, hg3, -, ht3, hf3⟩
  have hB3 : Below w.heap.size w w3 := hB.grown hg3 hB.size (fun j e => by injection e with e; omega)
  have hiff : r3 = true ↔ v ∈ ap θ t := ⟨ht3, fun hin => by
    cases r3 with
    | true => rfl
    | false => obtain ⟨k1, k2⟩ := hf3 rfl; exact (mets_not hSl k2 K t k1 hK hv hin).elim⟩
  have hiffH := Lib.hid hiff
  have hB3H := Lib.hid hB3
  clear hiff hB3 ht3 hf3 hg3 hC hM hB
  go_wp2_with fail
  go_ret
  exact ⟨_, rfl, hiffH.out, hB3H.out⟩
end Go.Proofs.Ytgkddhakhapjlaa

/- How high the stack of a unification can be. No program is named. -/
namespace Go.Proofs.Ytgkddhakhapjlaa

/-- a part of the one term or of the other -/
def InfT (a b t : List Int) : Prop := t <:+: a ∨ t <:+: b
theorem InfT.part {a b t u : List Int} (h : InfT a b t) (hu : u <:+: t) : InfT a b u := by
  rcases h with h | h
  · exact .inl (hu.trans h)
  · exact .inr (hu.trans h)
def allInf (a : List Int) : List (List Int) := (List.range (a.length + 1)).flatMap fun i => (List.range (a.length + 1)).map fun j => (a.drop i).take j
theorem mem_allInf {a t : List Int} (h : t <:+: a) : t ∈ allInf a := by
  obtain ⟨x, y, rfl⟩ := h
  unfold allInf
  rw [List.mem_flatMap]
  refine ⟨x.length, by rw [List.mem_range]; simp; omega, ?_⟩
  rw [List.mem_map]
  refine ⟨t.length, by rw [List.mem_range]; simp; omega, ?_⟩
  rw [List.append_assoc, List.drop_left, List.take_left]
theorem sum_const : ∀ (l : List Nat) (n : Nat), (l.map fun _ => n).sum = l.length * n
  | [], n => by simp
  | x :: l, n => by rw [List.map_cons, List.sum_cons, sum_const l n, List.length_cons, Nat.succ_mul]; omega
theorem allInf_len (a : List Int) : (allInf a).length = (a.length + 1) * (a.length + 1) := by
  unfold allInf
  rw [List.length_flatMap]
  simp only [List.length_map, List.length_range]
  rw [sum_const, List.length_range]
theorem nodup_len {α : Type} [DecidableEq α] : ∀ {l F : List α}, l.Nodup → (∀ x ∈ l, x ∈ F) → l.length ≤ F.length
  | [], F, _, _ => Nat.zero_le _
  | x :: l, F, h, hm => by
    rw [List.nodup_cons] at h
    have h1 := nodup_len (F := F.erase x) h.2 (fun y hy => (List.mem_erase_of_ne (fun e : y = x => h.1 (by rw [← e]; exact hy))).2 (hm y (by simp [hy])))
    have h2 := List.length_erase_of_mem (hm x (by simp))
    have h3 := List.length_pos_of_mem (hm x (by simp))
    simp only [List.length_cons]; omega

/-- what q becomes is a part, not the first, of what p becomes -/
def SubW (θ : Int → List Int) (p q : List Int) : Prop := ∃ pre post, pre ≠ [] ∧ ap θ p = pre ++ ap θ q ++ post
section
variable {s : Sg} {θ θ' : Int → List Int} {B : Bd} {p q r a b : List Int}
theorem SubW.trans (h : SubW θ p q) (k : SubW θ q r) : SubW θ p r := by
  obtain ⟨x, y, hx, h⟩ := h
  obtain ⟨x', y', hx', k⟩ := k
  exact ⟨x ++ x', y' ++ y, by simp [hx], by rw [h, k]; simp⟩
theorem SubW.ne (h : SubW θ p q) : p ≠ q := by
  rintro rfl
  obtain ⟨x, y, hx, h⟩ := h
  have := congrArg List.length h
  simp only [List.length_append] at this
  have := List.length_pos_iff.2 hx
  omega
theorem SubW.more (hθ : Wsub s θ') (hm : ∀ t, ap θ' (ap θ t) = ap θ' t) (h : SubW θ p q) : SubW θ' p q := by
  obtain ⟨x, y, hx, h⟩ := h
  refine ⟨ap θ' x, ap θ' y, fun e => ?_, ?_⟩
  · have := ap_len hθ x
    rw [e, List.length_nil] at this
    have := List.length_pos_iff.2 hx
    omega
  · rw [← hm p, h, ap_append, ap_append, hm]
theorem SubW.same (h : SubW θ p q) (e : ap θ r = ap θ q) : SubW θ p r := by
  obtain ⟨x, y, hx, h⟩ := h; exact ⟨x, y, hx, by rw [e]; exact h⟩

/-- the stack under its parents, the last first -/
def Pile (θ : Int → List Int) (a b : List Int) : List (List Int) → Prs → Prop
  | [], L => L.length ≤ 1
  | p :: C, L => ∃ L0 seg, L = L0 ++ seg ∧ seg.length ≤ 3 ∧ (∀ e ∈ seg, SubW θ p e.1) ∧ InfT a b p ∧ (∀ c ∈ C, SubW θ c p) ∧ Pile θ a b C L0
theorem Pile.more (hθ : Wsub s θ') (hm : ∀ t, ap θ' (ap θ t) = ap θ' t) : ∀ {C : List (List Int)} {L : Prs}, Pile θ a b C L → Pile θ' a b C L
  | [], _, h => h
  | _ :: _, _, ⟨L0, seg, h1, h2, h3, h4, h5, h6⟩ => ⟨L0, seg, h1, h2, fun e he => (h3 e he).more hθ hm, h4, fun c hc => (h5 c hc).more hθ hm, Pile.more hθ hm h6⟩
theorem Pile.pop : ∀ {C : List (List Int)} {L : Prs} {e : List Int × List Int}, Pile θ a b C (L ++ [e]) → ∃ C', Pile θ a b C' L ∧ ∀ c ∈ C', SubW θ c e.1
  | [], L, e, h => by
    have h' : (L ++ [e]).length ≤ 1 := h
    rw [List.length_append, List.length_singleton] at h'
    exact ⟨[], by show L.length ≤ 1; omega, fun c hc => by cases hc⟩
  | p :: C, L, e, ⟨L0, seg, h1, h2, h3, h4, h5, h6⟩ => by
    rcases List.eq_nil_or_concat seg with rfl | ⟨seg', x, rfl⟩
    · rw [List.append_nil] at h1
      rw [← h1] at h6
      exact Pile.pop h6
    · rw [List.concat_eq_append, ← List.append_assoc] at h1
      obtain ⟨g1, g2⟩ := snoc_inj h1
      subst g2
      have hs := h3 e (by simp)
      refine ⟨p :: C, ⟨L0, seg', g1, by simp at h2; omega, fun y hy => h3 y (by simp [hy]), h4, h5, h6⟩, fun c hc => ?_⟩
      rcases List.mem_cons.1 hc with g | g
      · rw [g]; exact hs
      · exact (h5 c g).trans hs
theorem Pile.push {C : List (List Int)} {L seg : Prs} (h : Pile θ a b C L) (h2 : seg.length ≤ 3) (h3 : ∀ e ∈ seg, SubW θ p e.1) (h4 : InfT a b p) (h5 : ∀ c ∈ C, SubW θ c p) : Pile θ a b (p :: C) (L ++ seg) :=
  ⟨L, seg, rfl, h2, h3, h4, h5, h⟩
theorem Pile.chain : ∀ {C : List (List Int)} {L : Prs}, Pile θ a b C L → C.Nodup ∧ (∀ c ∈ C, InfT a b c) ∧ L.length ≤ 3 * C.length + 1
  | [], _, h => ⟨List.nodup_nil, fun _ h => (by cases h), by have h' : List.length _ ≤ 1 := h; simpa using h'⟩
  | p :: C, _, ⟨L0, seg, h1, h2, h3, h4, h5, h6⟩ => by
    obtain ⟨g1, g2, g3⟩ := Pile.chain h6
    refine ⟨List.nodup_cons.2 ⟨fun hp => (h5 p hp).ne rfl, g1⟩, fun c hc => ?_, by rw [h1, List.length_append, List.length_cons]; omega⟩
    rcases List.mem_cons.1 hc with e | e
    · rw [e]; exact h4
    · exact g2 c e
theorem Pile.len {C : List (List Int)} {L : Prs} (h : Pile θ a b C L) (ha : a.length ≤ 1000) (hb : b.length ≤ 1000) : L.length ≤ 10000000 := by
  obtain ⟨g1, g2, g3⟩ := h.chain
  have h1 := nodup_len (F := allInf a ++ allInf b) g1 (fun x hx => by
    rcases g2 x hx with e | e
    · exact List.mem_append.2 (.inl (mem_allInf e))
    · exact List.mem_append.2 (.inr (mem_allInf e)))
  rw [List.length_append, allInf_len, allInf_len] at h1
  have k1 : (a.length + 1) * (a.length + 1) ≤ 1001 * 1001 := Nat.mul_le_mul (by omega) (by omega)
  have k2 : (b.length + 1) * (b.length + 1) ≤ 1001 * 1001 := Nat.mul_le_mul (by omega) (by omega)
  omega
/-- an argument is a part -/
theorem args_sub_w {n : Int} {x : List Int} (h : W1 s (n :: x)) (hn : 0 ≤ n) : ∀ u ∈ argsW s (n :: x), SubW θ (n :: x) u ∧ u <:+: (n :: x) := by
  intro u hu
  obtain ⟨-, h2, -, -⟩ := h.args
  obtain ⟨l, r, hlr⟩ := List.append_of_mem hu
  rw [hlr] at h2
  have hx : x = l.flatten ++ u ++ r.flatten := by rw [← h2, List.flatten_append, List.flatten_cons, List.append_assoc]
  refine ⟨⟨n :: ap θ l.flatten, ap θ r.flatten, by simp, ?_⟩, ⟨n :: l.flatten, r.flatten, ?_⟩⟩
  · rw [ap_pos (by omega), hx, ap_append, ap_append]; simp
  · rw [hx]; simp
theorem Lkd.inf {t : List Int} (hl : Lkd B t p) (hB : ∀ n u, B n = some u → InfT a b u) (ht : InfT a b t) : InfT a b p := by
  induction hl with
  | stop _ => exact ht
  | go _ hu _ ih => exact ih (hB _ _ hu)
end
end Go.Proofs.Ytgkddhakhapjlaa

/- The steps of a unification, as a plain law. No program is named. -/
namespace Go.Proofs.Ytgkddhakhapjlaa

def Same2 (s : Sg) (a b : List Int) (B : Bd) (L : Prs) : Prop := ∀ η, Wsub s η → (ap η a = ap η b ↔ Sat B η ∧ ∀ e ∈ L, ap η e.1 = ap η e.2)
theorem Same2.start (s : Sg) (a b : List Int) : Same2 s a b (fun _ => none) [(a, b)] := fun η _ => ⟨fun h => ⟨fun _ _ h => (by cases h), fun e he => by rw [List.mem_singleton] at he; rw [he]; exact h⟩, fun h => h.2 (a, b) (by simp)⟩
theorem turned_eq {η : Int → List Int} {p q : List Int} : ap η (turned p q).1 = ap η (turned p q).2 ↔ ap η p = ap η q := by
  unfold turned; split
  · exact ⟨Eq.symm, Eq.symm⟩
  · exact Iff.rfl
theorem Same2.done {s : Sg} {a b : List Int} {B : Bd} (h : Same2 s a b B []) : ∀ η, Wsub s η → (Sat B η ↔ ap η a = ap η b) := fun η hw => by rw [h η hw]; simp
/-- what has been done and what is left say together that the two terms become one -/
structure St (s : Sg) (a b : List Int) (k : Nat) (B : Bd) (θ : Int → List Int) (ρ : Int → Nat) (L : Prs) : Prop where
  halts : Halts s k B L
  slv : Slv s B θ ρ
  rg : RgB B
  ok : PrsOk s L
  eq : Same2 s a b B L
  inf : ∀ e ∈ L, InfT a b e.1 ∧ InfT a b e.2
  infB : ∀ n u, B n = some u → InfT a b u
  pile : ∃ C, Pile θ a b C L
section
variable {s : Sg} {a b : List Int} {k : Nat} {B : Bd} {θ : Int → List Int} {ρ : Int → Nat} {L : Prs} {x y p q : List Int}
theorem St.start (ha : W1 s a) (hb : W1 s b) (ra : Rg a) (rb : Rg b) : ∃ k, St s a b k (fun _ => none) (fun n => [n]) (fun _ => 0) [(a, b)] := by
  have hok : PrsOk s [(a, b)] := fun e he => by rw [List.mem_singleton] at he; rw [he]; exact ⟨⟨ha, ra⟩, hb, rb⟩
  have hrg : RgB (fun _ => none) := fun _ _ h => by cases h
  obtain ⟨k, hk⟩ := Halts.ex (s := s) _ _ _ _ _ _ (Slv.empty s) hrg hok (Nat.le_refl _) (Nat.le_refl _)
  exact ⟨k, hk, Slv.empty s, hrg, hok, Same2.start s a b, fun e he => by rw [List.mem_singleton] at he; rw [he]; exact ⟨.inl (List.infix_refl _), .inr (List.infix_refl _)⟩, (fun _ _ h => by cases h), [], Nat.le_refl 1⟩
theorem St.pos (h : St s a b k B θ ρ (L ++ [(x, y)])) : ∃ m, k = m + 1 := by
  cases k with
  | zero => have := h.halts; simp [Halts] at this
  | succ m => exact ⟨m, rfl⟩
theorem St.len (h : St s a b k B θ ρ L) (ha : a.length ≤ 1000) (hb : b.length ≤ 1000) : L.length ≤ 10000000 := by
  obtain ⟨C, hC⟩ := h.pile; exact hC.len ha hb
theorem St.item (h : St s a b k B θ ρ (L ++ [(x, y)])) : (W1 s x ∧ Rg x ∧ InfT a b x) ∧ W1 s y ∧ Rg y ∧ InfT a b y := by
  obtain ⟨⟨h1, h2⟩, h3, h4⟩ := h.ok (x, y) (by simp)
  obtain ⟨h5, h6⟩ := h.inf (x, y) (by simp)
  exact ⟨⟨h1, h2, h5⟩, h3, h4, h6⟩
/-- a term that was looked up -/
structure Seen (s : Sg) (a b : List Int) (B : Bd) (p : List Int) : Prop where
  w : W1 s p
  r : Rg p
  i : InfT a b p
  v : p.headD 0 < 0 → p = [p.headD 0] ∧ B (p.headD 0) = none ∧ -24 ≤ p.headD 0
theorem Seen.of (h : St s a b k B θ ρ L) (hx : W1 s x) (hr : Rg x) (hi : InfT a b x) (hl : Lkd B x p) : Seen s a b B p := by
  obtain ⟨h1, h2, h3⟩ := hl.spec h.slv hx
  have hrg := hl.rg h.rg hr
  refine ⟨h1, hrg, hl.inf h.infB hi, fun h0 => ?_⟩
  cases p with
  | nil => exact (h1.ne rfl).elim
  | cons n r =>
    have hn : n < 0 := h0
    have := h1.leaf hn
    subst this
    exact ⟨rfl, h3 n [] rfl hn, hrg n (by simp) hn⟩
theorem St.seen (h : St s a b k B θ ρ (L ++ [(x, y)])) (hp : Lkd B x p) (hq : Lkd B y q) : Seen s a b B p ∧ Seen s a b B q := by
  obtain ⟨⟨h1, h2, h3⟩, h4, h5, h6⟩ := h.item
  exact ⟨Seen.of h h1 h2 h3 hp, Seen.of h h4 h5 h6 hq⟩
theorem St.top (h : St s a b k B θ ρ (L ++ [(x, y)])) (hp : Lkd B x p) (hq : Lkd B y q) {η : Int → List Int} (hw : Wsub s η) :
    ap η a = ap η b ↔ Sat B η ∧ (∀ e ∈ L, ap η e.1 = ap η e.2) ∧ ap η (turned p q).1 = ap η (turned p q).2 := by
  obtain ⟨⟨hx, -, -⟩, hy, -, -⟩ := h.item
  have hwf : ∀ n u, B n = some u → W1 s u := fun n u hu => (h.slv.wf n u hu).1
  rw [h.eq η hw]
  constructor
  · rintro ⟨h1, h2⟩
    have h3 := h2 (x, y) (by simp)
    simp only at h3
    rw [← hp.eta h1 hx hwf, ← hq.eta h1 hy hwf] at h3
    exact ⟨h1, fun e he => h2 e (by simp [he]), turned_eq.2 h3⟩
  · rintro ⟨h1, h2, h3⟩
    have h4 : ap η p = ap η q := turned_eq.1 h3
    rw [hp.eta h1 hx hwf, hq.eta h1 hy hwf] at h4
    exact ⟨h1, fun e he => by
      rcases List.mem_append.1 he with g | g
      · exact h2 e g
      · rw [List.mem_singleton] at g; rw [g]; exact h4⟩
theorem St.below (h : St s a b (k + 1) B θ ρ (L ++ [(x, y)])) : PrsOk s L ∧ (∀ e ∈ L, InfT a b e.1 ∧ InfT a b e.2) ∧ ∃ C, Pile θ a b C L ∧ ∀ c ∈ C, SubW θ c x := by
  obtain ⟨C, hC⟩ := h.pile
  exact ⟨fun e he => h.ok e (by simp [he]), fun e he => h.inf e (by simp [he]), hC.pop⟩
theorem St.same (h : St s a b (k + 1) B θ ρ (L ++ [(x, y)])) (hp : Lkd B x p) (hq : Lkd B y q) (h0 : (turned p q).1.headD 0 < 0) (he : (turned p q).2.headD 0 = (turned p q).1.headD 0) : St s a b k B θ ρ L := by
  obtain ⟨sp, sq⟩ := h.seen hp hq
  obtain ⟨s1, s2⟩ := turned_all (P := Seen s a b B) sp sq
  obtain ⟨g1, g2, C, g3, -⟩ := h.below
  have e1 := (s1.v h0).1
  have e2 := (s2.v (by rw [he]; exact h0)).1
  rw [he] at e2
  refine ⟨(h.halts L x y rfl p q hp hq).1 h0 he, h.slv, h.rg, g1, fun η hw => ?_, g2, h.infB, C, g3⟩
  rw [h.top hp hq hw]
  exact ⟨fun g => ⟨g.1, g.2.1⟩, fun g => ⟨g.1, g.2, by rw [e1, e2]⟩⟩
theorem St.bind (h : St s a b (k + 1) B θ ρ (L ++ [(x, y)])) (hp : Lkd B x p) (hq : Lkd B y q) (h0 : (turned p q).1.headD 0 < 0) (he : (turned p q).2.headD 0 ≠ (turned p q).1.headD 0) (hocc : (turned p q).1.headD 0 ∉ ap θ (turned p q).2) :
    ∃ θ' ρ', St s a b k (upB B ((turned p q).1.headD 0) (turned p q).2) θ' ρ' L := by
  obtain ⟨sp, sq⟩ := h.seen hp hq
  obtain ⟨s1, s2⟩ := turned_all (P := Seen s a b B) sp sq
  obtain ⟨g1, g2, C, g3, -⟩ := h.below
  obtain ⟨e1, hBv, h24⟩ := s1.v h0
  obtain ⟨θ', ρ', hS⟩ := h.slv.bind h0 hBv s2.w hocc
  have hsat := (sat_upB hBv).1 hS.bnd
  refine ⟨θ', ρ', (h.halts L x y rfl p q hp hq).2.1 h0 he ⟨θ', ρ', hS⟩, hS, fun n u hu => ?_, g1, fun η hw => ?_, g2, fun n u hu => ?_, C, g3.more hS.th (h.slv.most hsat.1)⟩
  · unfold upB at hu
    split at hu
    · rename_i e; cases hu; rw [e]; exact ⟨s2.r, h24⟩
    · exact h.rg n u hu
  · rw [h.top hp hq hw, sat_upB hBv]
    have : ap η (turned p q).1 = η ((turned p q).1.headD 0) := by
      conv => lhs; rw [e1]
      rw [ap_one h0]
    rw [this]
    exact ⟨fun g => ⟨⟨g.1, g.2.2⟩, g.2.1⟩, fun g => ⟨g.1.1, g.2, g.1.2⟩⟩
  · unfold upB at hu
    split at hu
    · cases hu; exact s2.i
    · exact h.infB n u hu
theorem St.occ (h : St s a b (k + 1) B θ ρ (L ++ [(x, y)])) (hp : Lkd B x p) (hq : Lkd B y q) (h0 : (turned p q).1.headD 0 < 0) (he : (turned p q).2.headD 0 ≠ (turned p q).1.headD 0) (hocc : (turned p q).1.headD 0 ∈ ap θ (turned p q).2) :
    ∀ η, Wsub s η → ap η a ≠ ap η b := fun η hw hab => by
  obtain ⟨sp, sq⟩ := h.seen hp hq
  obtain ⟨s1, s2⟩ := turned_all (P := Seen s a b B) sp sq
  obtain ⟨e1, hBv, -⟩ := s1.v h0
  obtain ⟨g1, -, g3⟩ := (h.top hp hq hw).1 hab
  have hne : ap θ (turned p q).2 ≠ [(turned p q).1.headD 0] := fun e => by
    obtain ⟨n, r, hnr⟩ : ∃ n r, (turned p q).2 = n :: r := by
      cases hh : (turned p q).2 with
      | nil => exact (s2.w.ne hh).elim
      | cons n r => exact ⟨n, r, rfl⟩
    have hn : (turned p q).2.headD 0 = n := by rw [hnr]; rfl
    by_cases hneg : n < 0
    · obtain ⟨f1, f2, -⟩ := s2.v (by rw [hn]; exact hneg)
      rw [hn] at f1 f2
      rw [f1, ap_one hneg, h.slv.free n hneg f2] at e
      exact he (by rw [hn]; exact (List.cons.inj e).1)
    · rw [hnr, ap_pos hneg] at e
      have := (List.cons.inj e).1
      omega
  rw [e1, ap_one h0] at g3
  exact h.slv.occurs_no h0 hocc hne hw g1 g3
theorem St.nonneg (h0 : 0 ≤ (turned p q).1.headD 0) : (turned p q).1 = p ∧ (turned p q).2 = q ∧ 0 ≤ q.headD 0 := by
  unfold turned at *
  split at h0
  · rename_i hq; simp only at h0; omega
  · rename_i hq; rw [if_neg hq]; exact ⟨rfl, rfl, by omega⟩
theorem St.clash (h : St s a b (k + 1) B θ ρ (L ++ [(x, y)])) (hp : Lkd B x p) (hq : Lkd B y q) (h0 : 0 ≤ (turned p q).1.headD 0) (he : (turned p q).1.headD 0 ≠ (turned p q).2.headD 0) :
    ∀ η, Wsub s η → ap η a ≠ ap η b := fun η hw hab => by
  obtain ⟨e1, e2, h1⟩ := St.nonneg h0
  obtain ⟨sp, sq⟩ := h.seen hp hq
  obtain ⟨-, -, g3⟩ := (h.top hp hq hw).1 hab
  rw [e1, e2] at g3 he
  rw [e1] at h0
  cases p with
  | nil => exact (sp.w.ne rfl).elim
  | cons n r =>
    cases q with
    | nil => exact (sq.w.ne rfl).elim
    | cons m r' =>
      simp only [List.headD_cons] at h0 h1 he
      rw [ap_pos (by omega), ap_pos (by omega)] at g3
      exact he (List.cons.inj g3).1
theorem map_zip_iff {f : List Int → List Int} : ∀ {l m : List (List Int)}, l.length = m.length → (l.map f = m.map f ↔ ∀ e ∈ l.zip m, f e.1 = f e.2)
  | [], [], _ => by simp
  | x :: l, y :: m, h => by
    have ih := map_zip_iff (f := f) (l := l) (m := m) (by simpa using h)
    rw [List.map_cons, List.map_cons, List.zip_cons_cons]
    simp only [List.cons.injEq, ih, List.mem_cons, forall_eq_or_imp]
theorem St.args (h : St s a b (k + 1) B θ ρ (L ++ [(x, y)])) (hp : Lkd B x p) (hq : Lkd B y q) (h0 : 0 ≤ (turned p q).1.headD 0) (he : (turned p q).2.headD 0 = (turned p q).1.headD 0) (h3 : (argsW s (turned p q).1).length ≤ 3) :
    St s a b k B θ ρ (L ++ (argsW s (turned p q).1).zip (argsW s (turned p q).2)) := by
  obtain ⟨e1, e2, h1⟩ := St.nonneg h0
  obtain ⟨sp, sq⟩ := h.seen hp hq
  obtain ⟨g1, g2, C, g3, g4⟩ := h.below
  have hh := (h.halts L x y rfl p q hp hq).2.2 h0 he
  have htop := fun η hw => h.top hp hq (η := η) hw
  rw [e1] at h3
  rw [e1, e2] at he hh ⊢
  simp only [e1, e2] at htop
  rw [e1] at h0
  obtain ⟨⟨hx, -, -⟩, -⟩ := h.item
  obtain ⟨-, hpx, -⟩ := hp.spec h.slv hx
  cases p with
  | nil => exact (sp.w.ne rfl).elim
  | cons n r =>
    cases q with
    | nil => exact (sq.w.ne rfl).elim
    | cons m r' =>
      simp only [List.headD_cons] at h0 h1 he
      subst he
      have mz : ∀ e ∈ (argsW s (m :: r)).zip (argsW s (m :: r')), e.1 ∈ argsW s (m :: r) ∧ e.2 ∈ argsW s (m :: r') := fun e hm => by
        obtain ⟨e1, e2⟩ := e
        exact List.of_mem_zip hm
      refine ⟨hh, h.slv, h.rg, fun e hm => ?_, fun η hw => ?_, fun e hm => ?_, h.infB, _, g3.push (p := m :: r) (by rw [List.length_zip]; omega) (fun e hm => (args_sub_w sp.w h0 _ (mz e hm).1).1) sp.i (fun c hc => (g4 c hc).same hpx)⟩
      · rcases List.mem_append.1 hm with g | g
        · exact g1 e g
        · exact ⟨args_sub sp.w sp.r _ (mz e g).1, args_sub sq.w sq.r _ (mz e g).2⟩
      · rw [htop η hw, ap_eq_args hw sp.w sq.w h0, map_zip_iff (by rw [sp.w.args.1, sq.w.args.1])]
        constructor
        · rintro ⟨k1, k2, k3⟩
          refine ⟨k1, fun e hm => ?_⟩
          rcases List.mem_append.1 hm with g | g
          · exact k2 e g
          · exact k3 e g
        · rintro ⟨k1, k2⟩
          exact ⟨k1, fun e g => k2 e (by simp [g]), fun e g => k2 e (by simp [g])⟩
      · rcases List.mem_append.1 hm with g | g
        · exact g2 e g
        · exact ⟨sp.i.part (args_sub_w (θ := θ) sp.w h0 _ (mz e g).1).2, sq.i.part (args_sub_w (θ := θ) sq.w h0 _ (mz e g).2).2⟩
/-- all that a step may do, at the two looked-up terms, the variable first -/
structure Nxt (s : Sg) (a b : List Int) (k : Nat) (B : Bd) (θ : Int → List Int) (ρ : Int → Nat) (L : Prs) (P Q : List Int) (p0 q0 : Int) : Prop where
  hP : P.headD 0 = p0
  hQ : Q.headD 0 = q0
  sP : Seen s a b B P
  sQ : Seen s a b B Q
  slv : Slv s B θ ρ
  rg : RgB B
  same : p0 < 0 → q0 = p0 → St s a b k B θ ρ L
  bind : p0 < 0 → q0 ≠ p0 → p0 ∉ ap θ Q → ∃ θ' ρ', St s a b k (upB B p0 Q) θ' ρ' L
  occ : p0 < 0 → q0 ≠ p0 → p0 ∈ ap θ Q → ∀ η, Wsub s η → ap η a ≠ ap η b
  clash : 0 ≤ p0 → p0 ≠ q0 → ∀ η, Wsub s η → ap η a ≠ ap η b
  args : 0 ≤ p0 → q0 = p0 → (argsW s P).length ≤ 3 → St s a b k B θ ρ (L ++ (argsW s P).zip (argsW s Q))
theorem St.nxt (h : St s a b (k + 1) B θ ρ (L ++ [(x, y)])) (hp : Lkd B x p) (hq : Lkd B y q) : Nxt s a b k B θ ρ L (turned p q).1 (turned p q).2 ((turned p q).1.headD 0) ((turned p q).2.headD 0) := by
  obtain ⟨sp, sq⟩ := h.seen hp hq
  obtain ⟨s1, s2⟩ := turned_all (P := Seen s a b B) sp sq
  exact ⟨rfl, rfl, s1, s2, h.slv, h.rg, h.same hp hq, h.bind hp hq, h.occ hp hq, h.clash hp hq, h.args hp hq⟩
end
end Go.Proofs.Ytgkddhakhapjlaa

/- Walks of package unify: the stack of pairs; where arguments lie; after of a logic; the step of unification. -/
namespace Go.Proofs.Ytgkddhakhapjlaa
open Go Go.RowKit Go.Maps

abbrev prE : Enc (List Int × List Int) := pairE (slE intE) (slE intE)
abbrev OwnPr (S : Nat → Prop) (w : World) (base : Nat) (v : Value) (L : Prs) : Prop := OwnL prE S w base 79 v L
theorem infoPair : (Try.prog.info? 79).map (fun i => (i.zero, i.size, i.bytes)) = some (some (.agg #[.slice none 0 0, .slice none 0 0]), 2, 48) := by kernel_rfl

section
variable {S : Nat → Prop} {w : World} {base g n cap : Nat} {L : Prs}
theorem pr_len {xs : List (List Value)} {T : Nat → Prop} (hl : xs.length = L.length) (hx : ∀ i (h1 : i < xs.length) (h2 : i < L.length), prE.R T w xs[i] L[i]) : ∀ x ∈ xs, x.length = 2 := by
  intro x hxm
  obtain ⟨i, hi, rfl⟩ := List.getElem_of_mem hxm
  exact prE.len (hx i hi (by omega))
theorem OwnPr.cell (h : OwnPr S w base (.slice (some ⟨g, 0, none⟩) n cap) L) (hn : n = L.length) (i : Nat) (hi : i < L.length) :
    ∃ a c a' c', w.cell? ⟨g, i * 2, none⟩ = some (.slice a L[i].1.length c) ∧ w.cell? ⟨g, i * 2 + 1, none⟩ = some (.slice a' L[i].2.length c') ∧ Ints (Off S (.slice (some ⟨g, 0, none⟩) n cap)) w a c L[i].1 ∧ Ints (Off S (.slice (some ⟨g, 0, none⟩) n cap)) w a' c' L[i].2 := by
  subst hn
  obtain ⟨xs, ho, hl, hx⟩ := h
  have hi' : i < xs.length := by omega
  have h1 := pr_len hl hx
  obtain ⟨us, ts, he, ⟨a, c, rfl, hI⟩, ⟨a', c', rfl, hI'⟩⟩ := hx i hi' hi
  refine ⟨a, c, a', c', ?_, ?_, hI, hI'⟩
  · rw [ho.cellAt (i * 2) (by show i * 2 < L.length * 2; omega)]
    have := flatten_get h1 i hi' 0 (by rw [he]; simp)
    rw [Nat.add_zero] at this
    rw [this]; simp [he]
  · rw [ho.cellAt (i * 2 + 1) (by show i * 2 + 1 < L.length * 2; omega)]
    have := flatten_get h1 i hi' 1 (by rw [he]; simp)
    rw [this]; simp [he]
theorem OwnPr.take (h : OwnPr S w base (.slice (some ⟨g, 0, none⟩) n cap) L) (hn : n = L.length) {k : Nat} (hk : k ≤ n) : OwnPr S w base (.slice (some ⟨g, 0, none⟩) k cap) (L.take k) := by
  subst hn
  obtain ⟨xs, ho, hl, hx⟩ := h
  have h1 := pr_len hl hx
  have hlk : (L.take k).length = k := by simp; omega
  have hfl : (xs.take k).flatten = xs.flatten.take (k * 2) := by
    clear ho hx hl hk hlk
    induction xs generalizing k with
    | nil => simp
    | cons x r ih =>
      have hx2 := h1 x (by simp)
      cases k with
      | zero => simp
      | succ k => rw [List.take_succ_cons, List.flatten_cons, List.flatten_cons, ih (fun z hz => h1 z (by simp [hz])), show (k + 1) * 2 = x.length + k * 2 by omega, List.take_length_add_append]
  refine ⟨xs.take k, ?_, by simp [hl], fun i g1 g2 => ?_⟩
  · rw [hlk, hfl]
    obtain ⟨e1, e2⟩ := ho
    have hs : prE.size = 2 := rfl
    rw [hs] at e1 e2 ⊢
    refine ⟨by rw [List.length_take, e1]; omega, ?_⟩
    rcases e2 with ⟨e2, -⟩ | ⟨g', cap', cur, e3, e4, e5, e6, e7, e8, e9⟩
    · cases e2
    · cases e3
      refine .inr ⟨g, cap, cur, rfl, e4, e5, by omega, e7, e8, ?_⟩
      rw [← e9, List.take_take, Nat.min_eq_left (by omega)]
  · simp only [List.getElem_take]
    exact hx i (by simp at g1; omega) (by simp at g2; omega)
end

/-- the places of the arguments -/
def apos (s : Sg) (t : List Int) (m : Nat) : Nat := 1 + ((argsW s t).take m).flatten.length
theorem apos_zero (s : Sg) (t : List Int) : apos s t 0 = 1 := rfl
theorem args_at {s : Sg} {n : Int} {x : List Int} (h : W1 s (n :: x)) {m : Nat} (hm : m < arW s n) (hl : m < (argsW s (n :: x)).length) :
    skw s 1 ((n :: x).drop (apos s (n :: x) m)) = some ((n :: x).drop (apos s (n :: x) (m + 1))) ∧ apos s (n :: x) m < apos s (n :: x) (m + 1) ∧ apos s (n :: x) (m + 1) ≤ (n :: x).length ∧
      ((n :: x).drop (apos s (n :: x) m)).take (apos s (n :: x) (m + 1) - apos s (n :: x) m) = (argsW s (n :: x))[m] := by
  obtain ⟨h1, h2, h3, -⟩ := h.args
  obtain ⟨A, hA⟩ : ∃ A, argsW s (n :: x) = A := ⟨_, rfl⟩
  rw [hA] at h1 h2 h3
  simp only [apos, hA]
  have hd : ∀ k, (n :: x).drop (1 + (A.take k).flatten.length) = (A.drop k).flatten := fun k => by
    rw [Nat.add_comm, List.drop_succ_cons, ← h2]
    conv => lhs; rw [← List.take_append_drop k A]
    rw [List.flatten_append]
    have : ((A.take k ++ A.drop k).take k) = A.take k := by rw [List.take_append_drop]
    rw [this, List.drop_left]
  have ht : (A.take (m + 1)).flatten.length = (A.take m).flatten.length + (A[m]'(by omega)).length := by
    rw [List.take_succ_eq_append_getElem (by omega), List.flatten_append, List.length_append]; simp
  have hdm : (A.drop m).flatten = A[m]'(by omega) ++ (A.drop (m + 1)).flatten := by rw [List.drop_eq_getElem_cons (by omega), List.flatten_cons]
  have hw := h3 _ (List.getElem_mem (by omega : m < A.length))
  have hle : (A.take (m + 1)).flatten.length ≤ x.length := by
    rw [← h2]
    conv => rhs; rw [← List.take_append_drop (m + 1) A]
    rw [List.flatten_append, List.length_append]; omega
  have hwl := hw.len
  refine ⟨?_, by omega, by rw [List.length_cons]; omega, ?_⟩
  · rw [hd, hd, hdm, skw_append s 1 _ _ _ hw]; rfl
  · rw [hd, ht, hdm, show 1 + ((A.take m).flatten.length + (A[m]'(by omega)).length) - (1 + (A.take m).flatten.length) = (A[m]'(by omega)).length by omega, List.take_left]
theorem args_all {s : Sg} {t : List Int} (h : W1 s t) {n : Int} (hn : t.headD 0 = n) : (argsW s t).length = arW s n ∧ n < s.length ∧ ∀ m (hm : m < (argsW s t).length), skw s 1 (t.drop (apos s t m)) = some (t.drop (apos s t (m + 1))) ∧ apos s t m < apos s t (m + 1) ∧ apos s t (m + 1) ≤ t.length ∧
    (t.drop (apos s t m)).take (apos s t (m + 1) - apos s t m) = (argsW s t)[m] := by
  cases t with
  | nil => exact (h.ne rfl).elim
  | cons k x =>
    simp only [List.headD_cons] at hn
    subst hn
    exact ⟨h.args.1, h.args.2.2.2, fun m hm => args_at h (by rw [← h.args.1]; exact hm) hm⟩
theorem drop_len {t : List Int} {k : Nat} (h : k ≤ t.length) : t.length - (t.drop k).length = k := by rw [List.length_drop]; omega

set_option maxHeartbeats 1000000 in
theorem lafter_any {S1 S2 : Nat → Prop} (a1 a2 : Option Addr) (c1 c2 : Nat) (s : Sg) (t : List Int) (p : Nat) (r : List Int) (w : World) (h1 : Sign S1 w a1 c1 s) (h2 : Ints S2 w a2 c2 t) (hok : okSign s = true) (hp : skw s 1 (t.drop p) = some r) :
    Calls Try.prog 43 #[.agg #[.slice a1 s.length c1], .slice a2 t.length c2, .int .i64 p] w fun e w' => e = .returned (.int .i64 (t.length - r.length : Nat)) ∧ Below w.heap.size w w' := by
  have cf := fun W hb => after_any a1 a2 c1 c2 s t p r W (h1.below (w' := W) hb) (h2.below hb) hok hp
  have cfH := Lib.hid cf
  clear cf h1 h2 hp
  go_enter Try.func43, Try.ntmps43
  go_wp2_with fail
  refine (cfH.out _ (below1 _ _)).mono ?_
  rintro e w1 ⟨rfl, rfl⟩
  go_wp2_with fail
  go_ret
  exact ⟨rfl, below1 _ _⟩

end Go.Proofs.Ytgkddhakhapjlaa

/- Walks of the reference: where parts end, arguments, parts; lists of terms alike; all valid. -/
namespace Go.Proofs.Ytgkddhakhapjlaa
open Go Go.RowKit Go.Maps

def rendRel (s : Sg) (t r : List Int) (w : World) (at_ need : Value) (wr : World) : Prop :=
  ∃ p k : Nat, at_ = .int .i64 p ∧ need = .int .i64 k ∧ p ≤ t.length ∧ skip s k (t.drop p) = some r ∧ wr = w
def argPRel (s : Sg) (t r P : List Int) (m : Nat) (w : World) (out k i : Value) (wr : World) : Prop :=
  ∃ j q : Nat, i = .int .i64 j ∧ k = .int .i64 q ∧ j ≤ m ∧ q ≤ t.length ∧ skip s (m - j) (t.drop q) = some r ∧ P.take j ++ posK s t.length (m - j) (t.drop q) = P ∧ OwnI wr w.heap.size out (P.take j) ∧ Below w.heap.size w wr
end Go.Proofs.Ytgkddhakhapjlaa

/- Walks: Args, of both; lists of terms alike; all valid. -/
namespace Go.Proofs.Ytgkddhakhapjlaa
open Go Go.RowKit Go.Maps

theorem quiet_drew {P : Program} {f : FuncId} {args : Array Value} {w : World} {n : Nat} {v : Value}
    (h : Calls P f args (w.drewN n) fun e w' => e = .returned v ∧ Drew (w.drewN n) w') : Calls P f args (w.drewN n) fun e w'' => e = .returned v ∧ ∃ m, w'' = w.drewN m :=
  h.mono fun _ _ ⟨he, m, hm⟩ => ⟨he, n + m, by rw [hm]; simp⟩

theorem flatten_set1 : ∀ {xs : List (List Value)} (_ : ∀ x ∈ xs, x.length = 1) (i : Nat) (u : Value), (xs.set i [u]).flatten = xs.flatten.set i u
  | [], _, _, _ => rfl
  | x :: r, h, i, u => by
    have hx := h x (by simp)
    obtain ⟨y, rfl⟩ := List.length_eq_one_iff.1 hx
    cases i with
    | zero => rfl
    | succ i =>
      rw [List.set_cons_succ, List.flatten_cons, flatten_set1 (fun z hz => h z (by simp [hz])) i u]; rfl
section
variable {S : Nat → Prop} {w : World} {base g n cap : Nat} {l : List (List Int)}
theorem OwnTs.ones {xs : List (List Value)} {T : Nat → Prop} (hl : xs.length = l.length) (hx : ∀ i (h1 : i < xs.length) (h2 : i < l.length), (slE intE).R T w xs[i] l[i]) : ∀ x ∈ xs, x.length = 1 := by
  intro x hxm
  obtain ⟨i, hi, rfl⟩ := List.getElem_of_mem hxm
  exact (slE intE).len (hx i hi (by omega))
theorem OwnTs.cell (h : OwnTs S w base (.slice (some ⟨g, 0, none⟩) n cap) l) (hn : n = l.length) (i : Nat) (hi : i < l.length) :
    ∃ a c, w.cell? ⟨g, i, none⟩ = some (.slice a l[i].length c) ∧ Ints (Off S (.slice (some ⟨g, 0, none⟩) n cap)) w a c l[i] ∧ w.frozen? ⟨g, i, none⟩ = false := by
  subst hn
  obtain ⟨xs, ho, hl, hx⟩ := h
  have hi' : i < xs.length := by omega
  obtain ⟨a, c, he, hI⟩ := hx i hi' hi
  have h1 := OwnTs.ones hl hx
  refine ⟨a, c, ?_, hI, ho.frozenAt i⟩
  rw [ho.cellAt i (by show i < l.length * 1; omega)]
  have := flatten_get h1 i hi' 0 (by rw [he]; simp)
  rw [Nat.mul_one, Nat.add_zero] at this
  rw [this]; simp [he]
theorem OwnTs.set (h : OwnTs S w base (.slice (some ⟨g, 0, none⟩) n cap) l) (hn : n = l.length) (i : Nat) {a : Option Addr} {c : Nat} {u : List Int} (hu : Ints (Off S (.slice (some ⟨g, 0, none⟩) n cap)) w a c u) :
    OwnTs S (w.setCell ⟨g, i, none⟩ (.slice a u.length c)) base (.slice (some ⟨g, 0, none⟩) n cap) (l.set i u) ∧ w.grownBy (w.setCell ⟨g, i, none⟩ (.slice a u.length c)) (some g) := by
  subst hn
  obtain ⟨xs, ho, hl, hx⟩ := h
  have h1 := OwnTs.ones hl hx
  obtain ⟨r1, r2⟩ := ho.stored i (.slice a u.length c)
  have hA : Agree (Off S (.slice (some ⟨g, 0, none⟩) l.length cap)) w (w.setCell ⟨g, i, none⟩ (.slice a u.length c)) := .of_grown r2 (fun b hb e => hb.2 (by rw [e]; rfl))
  refine ⟨⟨xs.set i [.slice a u.length c], by rw [List.length_set, flatten_set1 h1]; exact r1, by simp [hl], fun j h1 h2 => ?_⟩, r2⟩
  by_cases hj : i = j
  · subst hj
    simp only [List.getElem_set_self]
    exact (slE intE).mono (w := w) (S := Off S (.slice (some ⟨g, 0, none⟩) l.length cap)) ⟨a, c, rfl, hu⟩ (fun _ _ h => h) hA
  · rw [List.getElem_set_ne hj, List.getElem_set_ne hj]
    exact (slE intE).mono (hx j (by simpa using h1) (by simpa using h2)) (fun _ _ h => h) hA
end

def argsE (s : Sg) (t : List Int) : List (List Int) × Int := if okT s t then (argsT s t, 0) else ([], 1)
theorem argsE_ok {s : Sg} {t : List Int} (h : okT s t = true) : argsE s t = (argsT s t, 0) := by rw [argsE, if_pos h]
theorem argsE_no {s : Sg} {t : List Int} (h : okT s t = false) : argsE s t = ([], 1) := by rw [argsE, h]; rfl
def retTE (r : List (List Int) × Int) (w : World) (e : Ending) (w' : World) : Prop := ∃ v, e = .returned (.tuple #[v, .int .i64 r.2]) ∧ OwnTs (fun _ => True) w' w.heap.size v r.1 ∧ Below w.heap.size w w'

def ArgRel (L : List (List Int)) (w : World) (v i : Value) (wr : World) : Prop := ∃ k : Nat, i = .int .i64 k ∧ k ≤ L.length ∧ OwnTs (fun _ => True) wr w.heap.size v L ∧ Below w.heap.size w wr
def rArgRel (L : List (List Int)) (w : World) (out i : Value) (wr : World) : Prop := ∃ k : Nat, i = .int .i64 k ∧ k ≤ L.length ∧ OwnTs (fun _ => True) wr w.heap.size out (L.take k) ∧ Below w.heap.size w wr
end Go.Proofs.Ytgkddhakhapjlaa

/- Walks: slices.Grow, slices.Concat, of terms. -/
namespace Go.Proofs.Ytgkddhakhapjlaa
open Go Go.RowKit Go.Maps

theorem wpList_append_run2 {P : Program} {w : World} {ops : Array Oper} {rest : List Oper} {o : Oper} {a : Act} {Q : Exit → Act → World → Prop} (hgd : o.guard = none) (s x : Operand) (t t2 : TypeId)
    (ho : o.op = .call { callee := .builtin .append, args := #[s, x], argTypes := #[t, t2] }) {vs vx : Value} (hs : a.eval s = vs) (hx : a.eval x = vx) {v' : Value} {w' : World}
    (hr : (Builtin.append_ #[t, t2] o.type #[vs, vx]).run P w = .ok v' w') (h : wpList P ops Q rest (a.put o.dst v') w') : wpList P ops Q (o :: rest) a w := by
  refine wpList_plain hgd fun K hK => ?_
  unfold Oper.wp execOp
  simp only [ho, resolve, invoke, builtin, Sem.run_bind, Sem.run_pure, Result.andThen_ok, List.map_toArray, List.map_cons, List.map_nil, hs, hx, hr]
  exact hK _ _ h
theorem infoInt2 : ∃ i, Try.prog.info? 3 = some i ∧ i.zero = some (.int .i64 0) ∧ i.size = 1 ∧ i.bytes = 8 := by
  obtain ⟨i, h, h1, h2, h3⟩ := info_parts infoInt
  exact ⟨i, h, h1, h2, h3⟩
set_option maxRecDepth 20000 in
set_option maxHeartbeats 1000000 in
theorem Grow_any (n : Nat) (w : World) (hn : n ≤ lim) :
    Calls Try.prog 30 #[.slice none 0 0, .int .i64 n] w (retOwn w []) := by
  unfold lim at hn
  by_cases h0 : n = 0
  · subst h0
    go_enter Try.func30, Try.ntmps30
    go_wp2_with fail
    go_ret
    exact ⟨_, rfl, .nil _ _ _ _ _, .refl _ _⟩
  · obtain ⟨i, hi, hz, hsz, hby⟩ := infoInt2
    have hrun := Lib.run_append_nil_zeros (P := Try.prog) w 25 3 25 3 i (.int .i64 0) .i64 .i64 Try.underlying25 Try.underlying3 hi hz n (by omega) (by omega) (by omega) (by rw [hby]; omega)
    obtain ⟨cap, hcap⟩ : ∃ cap, grownCap w n 0 3 = cap := ⟨_, rfl⟩
    have hc1 := grownCap_ge w n 0 3
    have hc2 := grownCap_le_maxLen w n 0 3 (by unfold maxLen; omega)
    rw [hcap] at hrun hc1 hc2
    unfold maxLen at hc2
    have hz1 : ∀ k, (Builtin.zeroCells (Value.cells (.int .i64 0)) k).size = k := fun k => by simp [Builtin.zeroCells, Value.cells]
    obtain ⟨cs, hcs⟩ : ∃ cs, Builtin.zeroCells (Value.cells (.int .i64 0)) n ++ Builtin.zeroCells (Value.cells (.int .i64 0)) (cap - n) = cs := ⟨_, rfl⟩
    have hcn : cs.size = cap * 1 := by rw [← hcs, Array.size_append, hz1, hz1]; omega
    rw [hcs] at hrun
    have ho : OwnI (w.drew.alloc (.cells cs 3)) w.heap.size (.slice (some ⟨w.heap.size, 0, none⟩) 0 cap) [] :=
      ⟨[], World.ownsRow_made w.drew cs cap (Nat.le_refl _) (by unfold maxLen; omega) hcn, rfl, fun i h => by simp at h⟩
    have hB : Below w.heap.size w (w.drew.alloc (.cells cs 3)) := (Below.refl _ _).drew.alloc (Nat.le_refl _) _
    have hrunH := Lib.hid hrun
    have hoH := Lib.hid ho
    have hBH := Lib.hid hB
    clear hrun ho hB hcs hcap hz1 hi hz hsz hby hcn
    go_enter Try.func30, Try.ntmps30
    go_wp2_with (at_builtin; refine wpList_append_run2 rfl (.tmp 20) (.tmp 21) _ _ rfl rfl rfl hrunH.out ?_)
    go_ret
    exact ⟨_, rfl, hoH.out, hBH.out⟩

theorem ints_append {S2 : Nat → Prop} {w : World} {base : Nat} {v : Value} {l l2 : List Int} {a : Option Addr} {c : Nat} (ho : OwnI w base v l) (h2 : Ints S2 w a c l2) (hl : l.length + l2.length ≤ 10000000) (hb : base ≤ w.heap.size) :
    ∃ v' w', RowKit.Hid ((Builtin.append_ #[25, 25] 25 #[v, .slice a l2.length c]).run Try.prog w = .ok v' w') ∧ RowKit.Hid (OwnI w' base v' (l ++ l2)) ∧ RowKit.Hid (Below base w w') := by
  obtain ⟨v', w', hrun, ho', hg, -, -⟩ := ho.append_run (P := Try.prog) (t := 25) (ty := 25) Try.underlying25 infoInt rfl h2 (fun _ _ _ h => h) (by omega) (by unfold big; omega) hb
  exact ⟨v', w', Lib.hid hrun, Lib.hid ho', Lib.hid ((Below.refl _ _).grown hg hb (fun k e => (ho.lt k e).1))⟩

def cat1Rel (L : List (List Int)) (w : World) (size i : Value) (wr : World) : Prop := ∃ k : Nat, i = .int .i64 k ∧ k ≤ L.length ∧ size = .int .i64 ((L.take k).flatten.length : Nat) ∧ wr = w
def cat2Rel (L : List (List Int)) (w : World) (out i : Value) (wr : World) : Prop := ∃ k : Nat, i = .int .i64 k ∧ k ≤ L.length ∧ OwnI wr w.heap.size out (L.take k).flatten ∧ Below w.heap.size w wr
theorem flat_take_le {L : List (List Int)} {q : Nat} : (L.take q).flatten.length ≤ L.flatten.length := by
  have : L.flatten.length = (L.take q).flatten.length + (L.drop q).flatten.length := by rw [← List.length_append, ← List.flatten_append, List.take_append_drop]
  omega
theorem flat_take_succ {L : List (List Int)} {q : Nat} (h : q < L.length) : (L.take (q + 1)).flatten = (L.take q).flatten ++ L[q] := by
  rw [List.take_succ_eq_append_getElem h, List.flatten_append]; simp
set_option maxHeartbeats 2000000 in
theorem Concat_any {S : Nat → Prop} (a : Option Addr) (c : Nat) (L : List (List Int)) (w : World) (h : Terms S w a c L) (hl : L.flatten.length ≤ lim) :
    Calls Try.prog 17 #[.slice a L.length c] w (retOwn w L.flatten) := by
  have m := h.le
  unfold lim at hl
  go_enter Try.func17, Try.ntmps17
  go_wp2_with fail
  go_loopw [3, 11] (fun size i wr => cat1Rel L w size i wr) (fun _ i _ => L.length - (intOf i).toNat)
  case atStart => exact ⟨0, rfl, Nat.zero_le _, rfl, rfl⟩
  case round =>
    obtain ⟨k, rfl, hk, rfl, rfl⟩ := hrel
    by_cases hlt : k < L.length
    · obtain ⟨b, o, a', c', rfl, -, q, -⟩ := h.sub k hlt
      have hs := congrArg List.length (flat_take_succ hlt)
      rw [List.length_append] at hs
      have hle := flat_take_le (L := L) (q := k + 1)
      obtain ⟨M, hM⟩ : ∃ M : Nat, (L.take k).flatten.length = M := ⟨_, rfl⟩
      rw [hM] at hs ⊢
      rw [hs] at hle
      have hsH := Lib.hid hs
      clear hs hM h
      go_wp2_with fail
      go_roundw
      case rel => exact ⟨k + 1, by go_num, by omega, by rw [hsH.out]; go_num, rfl⟩
      case measure => simp [intOf]; omega
    · have hkn : L.take k = L := List.take_of_length_le (by omega)
      rw [hkn]
      obtain ⟨N, hN⟩ : ∃ N : Nat, L.flatten.length = N := ⟨_, rfl⟩
      rw [hN]
      have cg := Grow_any N wr (by unfold lim; omega)
      have cgH := Lib.hid cg
      clear cg hkn hN
      go_wp2_with (go_at_call 30; refine cgH.out.mono ?_; rintro e w1 ⟨v, rfl, ho, hb⟩; have hoH := Lib.hid ho; have hbH := Lib.hid hb; clear ho hb)
      go_loopw [6, 27] (fun out i wr2 => cat2Rel L wr out i wr2) (fun _ i _ => L.length - (intOf i).toNat)
      case atStart => exact ⟨0, rfl, Nat.zero_le _, hoH.out, hbH.out⟩
      case round =>
        obtain ⟨k, rfl, hk, ho, hB⟩ := hrel
        by_cases hlt : k < L.length
        · obtain ⟨b, o, a', c', rfl, -, q, hI⟩ := h.sub k hlt
          have q' := (hB.cell (p := ⟨b, o + k, none⟩) (World.block_lt_of_cell? _ _ q)).trans q
          have hs := flat_take_succ hlt
          have hle := flat_take_le (L := L) (q := k + 1)
          rw [hs, List.length_append] at hle
          obtain ⟨v', w', hrunH, ho', hb'⟩ := ints_append ho (hI.below hB) (by omega) hB.size
          have hsH := Lib.hid hs
          have hBH := Lib.hid (hB.trans hb'.out)
          clear hs ho hI hB h q hb'
          go_wp2_with (at_builtin; refine wpList_append_run rfl _ _ _ rfl rfl rfl hrunH.out ?_)
          go_roundw
          case rel => exact ⟨k + 1, by go_num, by omega, by rw [hsH.out]; exact ho'.out, hBH.out⟩
          case measure => simp [intOf]; omega
        · have hkn : L.take k = L := List.take_of_length_le (by omega)
          rw [hkn] at ho
          have hoH := Lib.hid ho
          have hBH := Lib.hid hB
          clear ho hB hkn h
          go_wp2_with fail
          go_ret
          exact ⟨_, rfl, hoH.out, hBH.out⟩
end Go.Proofs.Ytgkddhakhapjlaa

/- Walks: Built, of both. -/
namespace Go.Proofs.Ytgkddhakhapjlaa
open Go Go.RowKit Go.Maps

theorem Drew.trans {a b c : World} (h : Drew a b) (h2 : Drew b c) : Drew a c := by obtain ⟨n, rfl⟩ := h2; exact drew_more h n
def idxTPost (s : Sg) (L : List (List Int)) (w : World) (e : Ending) (w' : World) : Prop := ∃ n : Int, e = .returned (.int .i64 n) ∧ -1 ≤ n ∧ decide (0 ≤ n) = !(L.all (okT s)) ∧ Below w.heap.size w w'
def builtE (s : Sg) (y : Int) (L : List (List Int)) : List Int × Int :=
  if okSign s = true ∧ L.all (okT s) = true then
    (if 0 ≤ y ∧ y < s.length then (if (L.length : Int) = (s.getD y.toNat default).2 then (if 1 + L.flatten.length ≤ 60 then (y :: L.flatten, 0) else ([], 4)) else ([], 9)) else ([], 5))
  else ([], 1)
theorem builtE_1 {s : Sg} {y : Int} {L : List (List Int)} (h : ¬ (okSign s = true ∧ L.all (okT s) = true)) : builtE s y L = ([], 1) := by rw [builtE, if_neg h]
theorem builtE_5 {s : Sg} {y : Int} {L : List (List Int)} (h : okSign s = true ∧ L.all (okT s) = true) (h1 : ¬ (0 ≤ y ∧ y < s.length)) : builtE s y L = ([], 5) := by rw [builtE, if_pos h, if_neg h1]
theorem builtE_9 {s : Sg} {y : Int} {L : List (List Int)} (h : okSign s = true ∧ L.all (okT s) = true) (h1 : 0 ≤ y ∧ y < s.length) (h2 : ¬ (L.length : Int) = (s.getD y.toNat default).2) : builtE s y L = ([], 9) := by rw [builtE, if_pos h, if_pos h1, if_neg h2]
theorem builtE_4 {s : Sg} {y : Int} {L : List (List Int)} (h : okSign s = true ∧ L.all (okT s) = true) (h1 : 0 ≤ y ∧ y < s.length) (h2 : (L.length : Int) = (s.getD y.toNat default).2) (h3 : ¬ (1 + L.flatten.length ≤ 60)) : builtE s y L = ([], 4) := by rw [builtE, if_pos h, if_pos h1, if_pos h2, if_neg h3]
theorem builtE_0 {s : Sg} {y : Int} {L : List (List Int)} (h : okSign s = true ∧ L.all (okT s) = true) (h1 : 0 ≤ y ∧ y < s.length) (h2 : (L.length : Int) = (s.getD y.toNat default).2) (h3 : 1 + L.flatten.length ≤ 60) : builtE s y L = (y :: L.flatten, 0) := by rw [builtE, if_pos h, if_pos h1, if_pos h2, if_pos h3]
theorem rbelow {W W' : World} {l : List Int × Int} {e : Ending} (h : retE l W e W') : Below W.heap.size W W' := by obtain ⟨_, _, _, h⟩ := h; exact h

def brRel (y : Int) (L : List (List Int)) (w : World) (B : Nat) (out i : Value) (wr : World) : Prop := ∃ k : Nat, i = .int .i64 k ∧ k ≤ L.length ∧ OwnI wr B out (y :: (L.take k).flatten) ∧ Below B w wr
end Go.Proofs.Ytgkddhakhapjlaa

/- Walks: Built. -/
namespace Go.Proofs.Ytgkddhakhapjlaa
open Go Go.RowKit Go.Maps

theorem OwnTs.lit1 {w : World} {a : Option Addr} {c : Nat} {u : List Int} {T : Nat → Prop} (h : Ints T w a c u) :
    OwnTs (fun _ => True) (w.alloc (.cells #[.slice a u.length c] 25)) w.heap.size (.slice (some ⟨w.heap.size, 0, none⟩) 1 1) [u] := by
  have hr := World.ownsRow_lit (base := w.heap.size) (e := 25) (size := 1) w #[.slice a u.length c] 1 (Nat.le_refl _) (by unfold maxLen; omega) (by simp)
  refine ⟨[[.slice a u.length c]], hr, rfl, fun i h1 h2 => ?_⟩
  match i, h1 with
  | 0, _ => exact ⟨a, c, rfl, (h.lt.weak (S' := Off (fun _ => True) (.slice (some ⟨w.heap.size, 0, none⟩) 1 1)) (fun b hb => ⟨trivial, fun e => by simp [Value.ownBlock] at e; omega⟩)).below (below1 _ _)⟩

theorem lit_append {S2 : Nat → Prop} {w w2 : World} {a2 : Option Addr} {c2 : Nat} {L : List (List Int)} (n : Int) (hn : inRange n) (h2 : Terms S2 w a2 c2 L) (hB : Below w.heap.size w w2) (hl : L.length ≤ 1000000) :
    ∃ a c w', RowKit.Hid ((Builtin.append_ #[37, 37] 37 #[.slice (some ⟨w2.heap.size + 1, 0, none⟩) 1 1, .slice a2 L.length c2]).run Try.prog ((w2.alloc (.cells #[.int .i64 n] 3)).alloc (.cells #[.slice (some ⟨w2.heap.size, 0, none⟩) 1 1] 25)) = .ok (.slice a (L.length + 1) c) w') ∧
      RowKit.Hid (Terms (fun _ => True) w' a c ([n] :: L)) ∧ RowKit.Hid (Below w2.heap.size w2 w') := by
  have hI : Ints (fun _ => True) (w2.alloc (.cells #[.int .i64 n] 3)) (some ⟨w2.heap.size, 0, none⟩) 1 [n] := by
    have := OwnL.lit (S := fun _ => False) w2 [n] 3 (by simpa using hn) (by unfold maxLen; simp)
    obtain ⟨a, c, he, hI⟩ := OwnI.ints this
    simp at he
    obtain ⟨rfl, rfl⟩ := he
    exact hI.any
  have ho := OwnTs.lit1 hI
  simp only [World.size_alloc] at ho
  have hB' : Below w.heap.size w ((w2.alloc (.cells #[.int .i64 n] 3)).alloc (.cells #[.slice (some ⟨w2.heap.size, 0, none⟩) 1 1] 25)) := hB.trans ((below2 _ _ _).mono hB.size)
  obtain ⟨v', w', hrun, ho', hg, -, -⟩ := ho.append_run (P := Try.prog) (t := 37) (ty := 37) Try.underlying37 infoTerm rfl (h2.lt.below hB') (fun i hi vs h => (slE intE).mono h (fun b _ hb => ⟨trivial, fun e => by have := hB.size; simp [Value.ownBlock] at e; omega⟩) (.refl _ _)) (by simp; omega) (by unfold big; simp; omega) (by simp)
  have hBn := (below2 w2 (.cells #[.int .i64 n] 3) (.cells #[.slice (some ⟨w2.heap.size, 0, none⟩) 1 1] 25)).grown hg (by simp; omega) (fun k e => by simp [Value.ownBlock] at e; omega)
  obtain ⟨a, c, rfl, hT⟩ := ho'.sl
  refine ⟨a, c, w', Lib.hid ?_, Lib.hid hT.any, Lib.hid hBn⟩
  simpa [Nat.add_comm] using hrun

end Go.Proofs.Ytgkddhakhapjlaa

/- A region that draws its order, walked operation by operation under one condition on the world. No program is named. -/
namespace Go.Proofs.Ytgkddhakhapjlaa
open Go Go.RowKit
section
variable {P : Program} {Q : Exit → Act → World → Prop} {md : Region.Mode} {S : World → Prop} {l : List Oper} {listed : Array Bool} {fuel : Nat} {a : Act} {w : World}
/-- an operation that yields its value in every world that meets S -/
theorem region_take (i : Nat) (d : Option Tmp) {oi : Oper} {v : Value} (hi : l[i]? = some oi) (hd : oi.dst = d)
    (hs : Region.noSelect l.toArray = true) (hf : Region.free md l.toArray listed i = true) (hr : (Region.ready md l.toArray listed).contains i = true)
    (hQ : ∀ c a w, Q (.panic c) (a.put d v) w → Q (.panic c) a w) (hg : Region.wanted oi (yielded l.toArray a.tmps) = true) (hy : ∀ w, S w → (execOp a.eval oi).run P w = .ok (.value v) w) (hS : S w)
    (h : wpAnyH P md l.toArray Q S fuel (listed.setIfInBounds i true) (a.put d v) w) : wpAnyH P md l.toArray Q S (fuel + 1) listed a w := by
  subst hd
  exact wpAnyH_take (by simpa using hi) hs hf hr hQ (.inl ⟨hg, hy⟩) hS h
/-- an operation whose guard says no -/
theorem region_skip (i : Nat) (d : Option Tmp) {oi : Oper} (hi : l[i]? = some oi) (hd : oi.dst = d)
    (hs : Region.noSelect l.toArray = true) (hf : Region.free md l.toArray listed i = true) (hr : (Region.ready md l.toArray listed).contains i = true)
    (hQ : ∀ c a w, Q (.panic c) (a.put d undef) w → Q (.panic c) a w) (hg : Region.wanted oi (yielded l.toArray a.tmps) = false) (hS : S w)
    (h : wpAnyH P md l.toArray Q S fuel (listed.setIfInBounds i true) (a.put d undef) w) : wpAnyH P md l.toArray Q S (fuel + 1) listed a w := by
  subst hd
  exact wpAnyH_take (by simpa using hi) hs hf hr hQ (.inr ⟨hg, rfl⟩) hS h
/-- an operation that is the only one that may come up: a call -/
theorem region_call (i : Nat) {o : Oper} (hi : l[i]? = some o) (hr : Region.ready md l.toArray listed = [i])
    (h : ∀ K' : Act → World → Prop, Shut (∀ a w, S w → (S w → wpAnyH P md l.toArray Q S fuel (listed.setIfInBounds i true) a w) → K' a w) → if Region.wanted o (yielded l.toArray a.tmps) = true then Oper.wp P o a w K' Q else K' (a.put o.dst undef) w) :
    wpAnyH P md l.toArray Q S (fuel + 1) listed a w :=
  wpAnyH_ready hr (by simp) (AllReadyH.cons (by simpa using hi) h AllReadyH.nil)
end
theorem oper_append_run {P : Program} {w : World} {o : Oper} {a : Act} {K : Act → World → Prop} {Q : Exit → Act → World → Prop} (s x : Operand) (t : TypeId)
    (ho : o.op = .call { callee := .builtin .append, args := #[s, x], argTypes := #[t, t] }) {vs vx : Value} (hs : a.eval s = vs) (hx : a.eval x = vx) {v' : Value} {w' : World}
    (hr : (Builtin.append_ #[t, t] o.type #[vs, vx]).run P w = .ok v' w') (h : K (a.put o.dst v') w') : Oper.wp P o a w K Q := by
  unfold Oper.wp execOp
  simp only [ho, resolve, invoke, builtin, Sem.run_bind, Sem.run_pure, Result.andThen_ok, List.map_toArray, List.map_cons, List.map_nil, hs, hx, hr]
  exact h
end Go.Proofs.Ytgkddhakhapjlaa

/- Walks of package unify: solve. -/
namespace Go.Proofs.Ytgkddhakhapjlaa
open Go Go.RowKit Go.Maps

theorem OwnPr.lit1 {w : World} {S : Nat → Prop} {a a' : Option Addr} {c c' : Nat} {t u : List Int} (h : Ints S w a c t) (h' : Ints S w a' c' u) :
    OwnPr S (w.alloc (.cells #[.slice a t.length c, .slice a' u.length c'] 79)) w.heap.size (.slice (some ⟨w.heap.size, 0, none⟩) 1 1) [(t, u)] := by
  have hr := World.ownsRow_lit (base := w.heap.size) (e := 79) (size := 2) w #[.slice a t.length c, .slice a' u.length c'] 1 (Nat.le_refl _) (by unfold maxLen; omega) (by simp)
  refine ⟨[[.slice a t.length c, .slice a' u.length c']], hr, rfl, fun i g1 g2 => ?_⟩
  obtain rfl : i = 0 := by simp at g1; omega
  have hA := Agree.all (S := S) (below1 w (.cells #[.slice a t.length c, .slice a' u.length c'] 79))
  have hm : ∀ b, b < w.heap.size → S b → Off S (.slice (some ⟨w.heap.size, 0, none⟩) 1 1) b := fun b hb hs => ⟨hs, fun e => by simp [Value.ownBlock] at e; omega⟩
  exact ⟨[_], [_], rfl, ⟨a, c, rfl, h.mono hm hA⟩, ⟨a', c', rfl, h'.mono hm hA⟩⟩
theorem T0.back {w0 w : World} (hB : Below w0.heap.size w0 w) {S : Nat → Prop} {a : Option Addr} {c : Nat} {t : List Int} (h : Ints S w a c t) (hS : ∀ b, S b → b < w0.heap.size) : T0 w0 a c t :=
  h.mono (fun b _ hb => hS b hb) (fun b hb _ => (hB.block b (hS b hb)).symm)

def solRel (w0 wS : World) (xb mb : Nat) (a1 : Option Addr) (c1 : Nat) (s : Sg) (a b : List Int) (k : Nat) (lv : Value) (wr : World) : Prop :=
  ∃ B θ ρ n L, St s a b k B θ ρ L ∧ n + free B ≤ 24 ∧ SolvW w0 wr xb mb n a1 c1 s B ∧ OwnPr (fun b => b < w0.heap.size) wr wS.heap.size lv L ∧ wS.heap.size ≤ wr.heap.size
def solRet (w0 : World) (xb mb : Nat) (a1 : Option Addr) (c1 : Nat) (s : Sg) (a b : List Int) (e : Ending) (w' : World) : Prop :=
  ∃ r, e = .returned (.bool r) ∧ Below w0.heap.size w0 w' ∧ (r = false → ∀ η, Wsub s η → ap η a ≠ ap η b) ∧
    (r = true → ∃ B θ ρ n, Slv s B θ ρ ∧ RgB B ∧ (∀ η, Wsub s η → (Sat B η ↔ ap η a = ap η b)) ∧ SolvW w0 w' xb mb n a1 c1 s B ∧ ∀ n u, B n = some u → InfT a b u)
section
variable {P : Program} {Q : Exit → Act → World → Prop} {md : Region.Mode} {S : World → Prop} {l : List Oper} {listed : Array Bool} {fuel : Nat} {a : Act} {w : World}
/-- two operations either of which may come up -/
theorem region_2 (i j : Nat) {o o' : Oper} (hi : l[i]? = some o) (hj : l[j]? = some o') (hr : Region.ready md l.toArray listed = [i, j])
    (h : ∀ K' : Act → World → Prop, Shut (∀ a w, S w → (S w → wpAnyH P md l.toArray Q S fuel (listed.setIfInBounds i true) a w) → K' a w) → if Region.wanted o (yielded l.toArray a.tmps) = true then Oper.wp P o a w K' Q else K' (a.put o.dst undef) w)
    (h' : ∀ K' : Act → World → Prop, Shut (∀ a w, S w → (S w → wpAnyH P md l.toArray Q S fuel (listed.setIfInBounds j true) a w) → K' a w) → if Region.wanted o' (yielded l.toArray a.tmps) = true then Oper.wp P o' a w K' Q else K' (a.put o'.dst undef) w) :
    wpAnyH P md l.toArray Q S (fuel + 1) listed a w :=
  wpAnyH_ready hr (by simp) (AllReadyH.cons (by simpa using hi) h (AllReadyH.cons (by simpa using hj) h' AllReadyH.nil))
end
theorem SolvW.keep {w0 w w' : World} {xb mb n K : Nat} {a1 : Option Addr} {c1 : Nat} {s : Sg} {B : Bd} (h : SolvW w0 w xb mb n a1 c1 s B) (hb : Below K w w') (h1 : xb < K) (h2 : mb < K) (h3 : w0.heap.size ≤ K) : SolvW w0 w' xb mb n a1 c1 s B :=
  ⟨(World.cell?_of_block (a := ⟨xb, 0, none⟩) (hb.block xb h1)).trans h.k0, (World.cell?_of_block (a := ⟨xb, 1, none⟩) (hb.block xb h1)).trans h.k1, h.map.below hb h2, h.bx, h.bm, h.ne, h.sg, h.bel.trans (hb.mono h3), h.wf⟩
theorem SolvW.stored {w0 w w' : World} {xb mb n n' : Nat} {a1 : Option Addr} {c1 : Nat} {s : Sg} {B : Bd} {v : Int} {q : List Int} (h : SolvW w0 w xb mb n a1 c1 s B) (hg : w.grownBy w' (some mb)) (hD : BdMap w0 w' mb n' (upB B v q)) (hq : W1 s q) : SolvW w0 w' xb mb n' a1 c1 s (upB B v q) := by
  have hx : w'.heap[xb]? = w.heap[xb]? := hg.block xb h.lt (fun e => h.ne (by injection e))
  refine ⟨(World.cell?_of_block (a := ⟨xb, 0, none⟩) hx).trans h.k0, (World.cell?_of_block (a := ⟨xb, 1, none⟩) hx).trans h.k1, hD, h.bx, h.bm, h.ne, h.sg, h.bel.grown hg h.bel.size (fun j e => by have := h.bm; injection e with e; omega), fun m u hu => ?_⟩
  unfold upB at hu
  split at hu
  · cases hu; exact hq
  · exact h.wf m u hu
def inRel (w0 wS : World) (xb mb n : Nat) (a1 : Option Addr) (c1 : Nat) (s : Sg) (B : Bd) (L0 : Prs) (P Q : List Int) (N : Nat) (lv iv jv cv : Value) (wr : World) : Prop :=
  ∃ m : Nat, cv = .int .i64 m ∧ m ≤ N ∧ iv = .int .i64 (apos s P m : Nat) ∧ jv = .int .i64 (apos s Q m : Nat) ∧ OwnPr (fun b => b < w0.heap.size) wr wS.heap.size lv (L0 ++ ((argsW s P).zip (argsW s Q)).take m) ∧ SolvW w0 wr xb mb n a1 c1 s B ∧ wS.heap.size ≤ wr.heap.size
theorem Pr_push {S : Nat → Prop} {w : World} {base : Nat} {v : Value} {L : Prs} (ho : OwnPr S w base v L) (hS : ∀ b, S b → b < base) (hbs : base ≤ w.heap.size) {a a' : Option Addr} {c c' : Nat} {t u : List Int} (h : Ints S w a c t) (h' : Ints S w a' c' u) (hl : L.length + 1 ≤ 100000000) :
    ∃ v' w', RowKit.Hid ((Builtin.append_ #[80, 80] 80 #[v, .slice (some ⟨w.heap.size, 0, none⟩) 1 1]).run Try.prog (w.alloc (.cells #[.slice a t.length c, .slice a' u.length c'] 79)) = .ok v' w') ∧ RowKit.Hid (OwnPr S w' base v' (L ++ [(t, u)])) ∧ RowKit.Hid (Below base w w') := by
  have hw : ∀ b, S b → Off S v b := fun b hb => ⟨hb, fun e => by have := (OwnL.lt ho b e.symm).1; have := hS b hb; omega⟩
  obtain ⟨v', w', hrun, ho', hg, -⟩ := OwnL.push (P := Try.prog) (t := 80) (ty := 80) ho Try.underlying80 infoPair rfl (vs := [.slice a t.length c, .slice a' u.length c']) (x := (t, u)) ⟨[_], [_], rfl, ⟨a, c, rfl, h.weak hw⟩, ⟨a', c', rfl, h'.weak hw⟩⟩ (by omega) (by unfold big; omega) hbs
  exact ⟨v', w', Lib.hid hrun, Lib.hid ho', Lib.hid ((Below.refl base w).grown hg hbs (fun k e => (OwnL.lt ho k e).1))⟩
theorem rank_head (ρ : Int → Nat) (t : List Int) : ∀ n r, t = n :: r → n < 0 → ρ n < ρ (t.headD 0) + 1 := fun n r e _ => by rw [e]; simp
theorem last_snoc {α : Type} {L : List α} (h : 0 < L.length) : ∃ L0 e, L = L0 ++ [e] ∧ L0.length + 1 = L.length := by
  rcases List.eq_nil_or_concat L with rfl | ⟨L0, e, rfl⟩
  · simp at h
  · exact ⟨L0, e, by rw [List.concat_eq_append], by simp⟩
set_option maxRecDepth 20000 in
set_option maxHeartbeats 1000000 in
theorem solve_any {w0 wS : World} {xb mb : Nat} {a1 : Option Addr} {c1 : Nat} {s : Sg} (hok : okSign s = true) (hS : SolvW w0 wS xb mb 0 a1 c1 s (fun _ => none)) {a2 a3 : Option Addr} {c2 c3 : Nat} {a b : List Int} (ta : T0 w0 a2 c2 a) (tb : T0 w0 a3 c3 b)
    (ha : W1 s a) (hb : W1 s b) (ra : Rg a) (rb : Rg b) (la : a.length ≤ 1000) (lb : b.length ≤ 1000) :
    Calls Try.prog 32 #[.pointer (some ⟨xb, 0, none⟩), .slice a2 a.length c2, .slice a3 b.length c3] wS (solRet w0 xb mb a1 c1 s a b) := by
  obtain ⟨k0, hst⟩ := St.start ha hb ra rb
  have hxS := hS.lt
  have hmS := hS.map.lt
  have hz := hS.bel.size
  have hSH := Lib.hid hS
  have hstH := Lib.hid hst
  have hokH := Lib.hid hok
  have m2 := ta.le
  have m3 := tb.le
  have hlit := Lib.hid (OwnPr.lit1 (w := wS) (ta.below hS.bel) (tb.below hS.bel))
  clear ha hb ra rb hst hS hok ta tb
  go_enter Try.func32, Try.ntmps32
  go_wp2_with fail
  go_loopg [7] k0 (fun k lv wr => solRel w0 wS xb mb a1 c1 s a b k lv wr)
  case atStart => exact ⟨_, _, _, 0, _, hstH.out, by rw [free_none]; omega, hSH.out.below (below1 _ _), hlit.out, by simp⟩
  case round =>
    obtain ⟨B, θ, ρ, n, L, hst, hn, hS, ho, hsz⟩ := hrel
    obtain ⟨al, cl, hv, hsl⟩ := OwnL.sl ho
    by_cases hL : 0 < L.length
    · obtain ⟨g, cap, hvv, hg1, hg2⟩ := OwnL.form ho (by intro e; rw [e] at hL; simp at hL)
      subst hvv
      obtain ⟨L0, ⟨x, y⟩, hLe, hLl⟩ := last_snoc hL
      have hll := hst.len la lb
      obtain ⟨ax, cx, ay, cy, qx, qy, hIx, hIy⟩ := OwnPr.cell ho rfl L0.length (by omega)
      have hi : L[L0.length]'(by omega) = (x, y) := by
        have : L[L0.length]? = some (x, y) := by rw [hLe]; simp
        rw [List.getElem?_eq_getElem (by omega)] at this
        exact Option.some.inj this
      rw [hi] at qx qy hIx hIy
      simp only at qx qy hIx hIy
      have hot := OwnPr.take ho rfl (k := L0.length) (by omega)
      rw [hLe, List.take_left] at hot
      have tx := T0.back hS.bel hIx (fun b hb => hb.1)
      have ty := T0.back hS.bel hIy (fun b hb => hb.1)
      have hsg : IntKind.i64.wrap (((L.length : Nat) : Int) - 1) = (L0.length : Nat) := by rw [show (((L.length : Nat) : Int) - 1) = (L0.length : Nat) by omega]; exact IntWalk.i64_in _ (by omega)
      have hlt1 : ((L0.length : Nat) : Int) < L.length := by omega
      have hlt0 : (0 : Int) ≤ (L0.length : Nat) := by omega
      have hcap : L.length ≤ cap := by have := hsl.cap; simp at hv; omega
      subst hLe
      obtain ⟨gk', rfl⟩ := hst.pos
      obtain ⟨hx, hy, -⟩ := hst.item
      obtain ⟨px, hpx⟩ := Lkd.ex hst.slv _ x (rank_head ρ x)
      obtain ⟨py, hpy⟩ := Lkd.ex hst.slv _ y (rank_head ρ y)
      obtain ⟨ap, cp, hTp, clx⟩ := look_any (hS.below (below1 wr (.cells #[.slice ax x.length cx, .slice ay y.length cy] 79))) tx hx.1 hpx
      obtain ⟨aq, cq, hTq, cly⟩ := look_any (hS.below (below1 wr (.cells #[.slice ax x.length cx, .slice ay y.length cy] 79))) ty hy hpy
      obtain ⟨lL, hlL⟩ : ∃ l, (L0 ++ [(x, y)]).length = l := ⟨_, rfl⟩
      rw [hlL] at hsg hlt1 hcap hLl hL hll
      simp only [hlL]
      obtain ⟨W1, hW1⟩ : ∃ W1, wr.alloc (.cells #[.slice ax x.length cx, .slice ay y.length cy] 79) = W1 := ⟨_, rfl⟩
      have hb1 : Below wr.heap.size wr W1 := by rw [← hW1]; exact below1 _ _
      rw [hW1] at clx cly
      have u0 : W1.cell? ⟨wr.heap.size, 0, none⟩ = some (.slice ax x.length cx) := by rw [← hW1]; clear hW1; go_simp
      have u1 : W1.cell? ⟨wr.heap.size, 1, none⟩ = some (.slice ay y.length cy) := by rw [← hW1]; clear hW1; go_simp
      have hS1 := hS.below hb1
      have hot1 := OwnL.call hot hb1
      have hsz1 := Nat.le_trans hsz hb1.size
      have hN := hst.nxt hpx hpy
      obtain ⟨sp, sq⟩ := hst.seen hpx hpy
      have lp := sp.w.len
      have lq := sq.w.len
      obtain ⟨bp, op, rfl, hbp, qp, rp⟩ := (hTp.below hS1.bel).int 0 (by omega)
      obtain ⟨bq, oq, rfl, hbq, qq, rq⟩ := (hTq.below hS1.bel).int 0 (by omega)
      rw [Nat.add_zero] at qp qq
      have hp0 : px[0] = px.headD 0 := by cases px with | nil => simp at lp | cons _ _ => rfl
      have hq0 : py[0] = py.headD 0 := by cases py with | nil => simp at lq | cons _ _ => rfl
      rw [hp0] at qp rp
      rw [hq0] at qq rq
      have hturn : turned px py = if py.headD 0 < 0 then (py, px) else (px, py) := rfl
      obtain ⟨p0, hp0⟩ : ∃ p0, px.headD 0 = p0 := ⟨_, rfl⟩
      obtain ⟨q0, hq0⟩ : ∃ q0, py.headD 0 = q0 := ⟨_, rfl⟩
      rw [hp0] at qp rp
      rw [hq0] at qq rq hturn
      have hNH := Lib.hid hN
      have hturnH := Lib.hid hturn
      have clxH := Lib.hid clx
      have clyH := Lib.hid cly
      have hS1H := Lib.hid hS1
      have hotH := Lib.hid hot1
      have hTpH := Lib.hid hTp
      have hTqH := Lib.hid hTq
      have hnH := Lib.hid hn
      have hW1H := Lib.hid hW1
      have hp0H := Lib.hid hp0
      have hq0H := Lib.hid hq0
      have hrpH := Lib.hid rp
      have hrqH := Lib.hid rq
      clear clx cly hst hS hot ho hTp hTq hpx hpy hn tx ty hIx hIy hi hlL hx hy hv hsl hll hb1 hS1 hot1 hN sp sq hturn hp0 hq0 rp rq hW1
      go_wp2_with fail
      rw [hW1H.out]
      clear hW1H qx qy
      go_quiet ((go_at_call 41; first | (with_reducible exact quiet_drew (clxH.out _)) | (with_reducible exact quiet_drew (clyH.out _))))
      clear clxH clyH u0 u1
      obtain ⟨W2, hW2⟩ : ∃ W2, W1.drewN nq = W2 := ⟨_, rfl⟩
      have hb2 : Below W1.heap.size W1 W2 := by rw [← hW2]; exact (Drew.mk _ _).below _
      rw [hW2]
      have hS2H := Lib.hid (hS1H.out.below hb2)
      have hot2H := Lib.hid (OwnL.call hotH.out hb2)
      have qp := cell_later hb2 qp
      have qq := cell_later hb2 qq
      have hsz2 := Nat.le_trans hsz1 hb2.size
      clear hb2 hW2 hS1H hotH hsz1
      by_cases hq : q0 < 0
      · have hN2H := Lib.hid (show Nxt s a b gk' B θ ρ L0 py px q0 p0 by
          have h := hNH.out
          rw [hturnH.out, if_pos hq] at h
          simp only [hp0H.out, hq0H.out] at h
          exact h)
        have TPH := Lib.hid hTqH.out
        have TQH := Lib.hid hTpH.out
        have lP := lq
        have lQ := lp
        have rPH := Lib.hid hrqH.out
        have rQH := Lib.hid hrpH.out
        have hcase : (q0 < 0 ∧ p0 = q0) ∨ (q0 < 0 ∧ p0 ≠ q0) ∨ (0 ≤ q0 ∧ p0 = q0) ∨ (0 ≤ q0 ∧ q0 ≠ p0) := by omega
        have hcaseH := Lib.hid hcase
        clear hNH hturnH hTpH hTqH hrpH hrqH hp0H hq0H hcase
        go_wp2_with fail
        rcases hcaseH.out with ⟨hv, hw⟩ | ⟨hv, hw⟩ | ⟨hv, hw⟩ | ⟨hv, hw⟩
        · have hnx := Lib.hid (hN2H.out.same hv hw)
          have hb : (p0 == q0) = true := by simpa using hw
          have hdv : decide (q0 < 0) = true := by simpa using hv
          clear hcaseH hw hN2H
          go_quiet (fail)
          all_goals go_wp2_with fail
          go_roundg gk'
          case measure => omega
          case rel => exact ⟨B, θ, ρ, n, L0, hnx.out, hnH.out, hS2H.out.below ((Drew.mk _ _).below _), OwnL.call hot2H.out ((Drew.mk _ _).below _), hsz2⟩
        · have hbd := Lib.hid (hN2H.out.bind hv hw)
          have hoc := Lib.hid (hN2H.out.occ hv hw)
          have hBv : B q0 = none := by have := (hN2H.out.sP.v (by rw [hN2H.out.hP]; exact hv)).2.1; rwa [hN2H.out.hP] at this
          have hV24 : -24 ≤ q0 := by have := (hN2H.out.sP.v (by rw [hN2H.out.hP]; exact hv)).2.2; rwa [hN2H.out.hP] at this
          have hfr := free_bind (q := px) hv hV24 hBv
          have cc := fun W hb => comes_any (w := W) (hS2H.out.below hb) hN2H.out.slv hN2H.out.rg hv hBv TQH.out hN2H.out.sQ.r
          have ccH := Lib.hid cc
          have hBvH := Lib.hid hBv
          have hN4H := Lib.hid hN2H.out.sQ.w
          have hb : (p0 == q0) = false := by simpa using hw
          have hdv : decide (q0 < 0) = true := by simpa using hv
          clear hcaseH hw hN2H cc hBv
          go_quiet (fail)
          all_goals go_wp2_with fail
          obtain ⟨W3, hW3⟩ : ∃ W3, W2.drewN nq = W3 := ⟨_, rfl⟩
          have hb3 : Below W2.heap.size W2 W3 := by rw [← hW3]; exact (Drew.mk _ _).below _
          rw [hW3]
          (with_reducible refine (ccH.out W3 hb3).mono ?_)
          rintro e w4 ⟨r, rfl, hr, hb4⟩
          have hb24 := bcall hb3 hb4
          have hS4H := Lib.hid (hS2H.out.below hb24)
          have hrH := Lib.hid hr
          cases r with
          | true =>
            clear hr hb3 hb4 hW3 hb24
            go_wp2_with fail
            go_ret
            exact ⟨false, rfl, hS4H.out.bel, fun _ => hoc.out (hrH.out.1 (by simp)), fun h => by cases h⟩
          | false =>
            have hot4H := Lib.hid (OwnL.call hot2H.out hb24)
            have qp4 := cell_later hb24 qq
            have k1 := hS4H.out.k1
            have hsz4 := Nat.le_trans hsz2 hb24.size
            clear hr hb3 hb4 hW3 hb24
            go_wp2_with fail
            have hnoc : q0 ∉ ap θ px := fun h => by have := hrH.out.2 h; cases this
            obtain ⟨θ', ρ', hst'⟩ := hbd.out hnoc
            have hst'H := Lib.hid hst'
            obtain ⟨w5, n5, hup, hn5, hD5, hg5, -⟩ := (hS4H.out.map.below (w' := w4.drew) (Below.drew (.refl w4.heap.size _)) hS4H.out.map.lt).store (by have := hnH.out; unfold maxLen; omega) q0 rPH.out TQH.out
            have hup2 := hup.out
            clear hst' hnoc
            have hlPi : 0 < py.length := lP
            have hxw := hS4H.out.lt
            have hbw : bq < w4.drew.heap.size := World.block_lt_of_cell? _ _ qp4
            have hBm : bq ≠ mb := by have := hS4H.out.bm; omega
            refine wp_region_held_drew (S := (fun w' => w'.cell? ⟨xb, 1, none⟩ = some (.map (some mb)) ∧ w'.cell? ⟨bq, oq, none⟩ = some (.int .i64 q0))) (by kernel_rfl) ⟨k1, qp4⟩ (fun hS => ?_)
            refine region_take 0 (some 116) (v := ?_) rfl rfl (by kernel_rfl) (by kernel_rfl) (by kernel_rfl) (fun _ _ _ h => h) rfl ?_ hS ?_
            rotate_left
            · (intro w9 hS9; go_simp; try (with_reducible rfl))
            simp only [Act.put, List.setIfInBounds_toArray, List.set_cons_zero, List.set_cons_succ]
            refine region_take 1 (some 117) (v := ?_) rfl rfl (by kernel_rfl) (by kernel_rfl) (by kernel_rfl) (fun _ _ _ h => h) rfl ?_ hS ?_
            rotate_left
            · (intro w9 hS9; go_simp; try (with_reducible rfl))
            simp only [Act.put, List.setIfInBounds_toArray, List.set_cons_zero, List.set_cons_succ]
            refine region_take 2 (some 118) (v := ?_) rfl rfl (by kernel_rfl) (by kernel_rfl) (by kernel_rfl) (fun _ _ _ h => h) rfl ?_ hS ?_
            rotate_left
            · (intro w9 hS9; go_simp; try (with_reducible rfl))
            simp only [Act.put, List.setIfInBounds_toArray, List.set_cons_zero, List.set_cons_succ]
            refine region_take 3 (some 119) (v := ?_) rfl rfl (by kernel_rfl) (by kernel_rfl) (by kernel_rfl) (fun _ _ _ h => h) rfl ?_ hS ?_
            rotate_left
            · (intro w9 hS9; go_simp; try (with_reducible rfl))
            simp only [Act.put, List.setIfInBounds_toArray, List.set_cons_zero, List.set_cons_succ]
            refine region_take 4 (some 120) (v := ?_) rfl rfl (by kernel_rfl) (by kernel_rfl) (by kernel_rfl) (fun _ _ _ h => h) rfl ?_ hS ?_
            rotate_left
            · (intro w9 hS9; go_simp; try (with_reducible rfl))
            simp only [Act.put, List.setIfInBounds_toArray, List.set_cons_zero, List.set_cons_succ]
            refine region_take 5 (some 121) (v := ?_) rfl rfl (by kernel_rfl) (by kernel_rfl) (by kernel_rfl) (fun _ _ _ h => h) rfl ?_ hS ?_
            rotate_left
            · (intro w9 hS9; go_simp; try (with_reducible rfl))
            simp only [Act.put, List.setIfInBounds_toArray, List.set_cons_zero, List.set_cons_succ]
            refine region_take 6 (some 122) (v := ?_) rfl rfl (by kernel_rfl) (by kernel_rfl) (by kernel_rfl) (fun _ _ _ h => h) rfl ?_ hS ?_
            rotate_left
            · (intro w9 hS9; go_simp; try (with_reducible rfl))
            simp only [Act.put, List.setIfInBounds_toArray, List.set_cons_zero, List.set_cons_succ]
            refine region_take 7 (some 123) (v := ?_) rfl rfl (by kernel_rfl) (by kernel_rfl) (by kernel_rfl) (fun _ _ _ h => h) rfl ?_ hS ?_
            rotate_left
            · (intro w9 hS9; go_simp; try (with_reducible rfl))
            simp only [Act.put, List.setIfInBounds_toArray, List.set_cons_zero, List.set_cons_succ]
            refine region_call 8 rfl (by kernel_rfl) (fun K hK => ?_)
            go_simp
            refine hK.out _ _ ⟨(World.cell?_of_block (hg5.out.block xb hxw (fun e => hS4H.out.ne (by injection e)))).trans k1, (World.cell?_of_block (hg5.out.block bq hbw (fun e => hBm (by injection e)))).trans qp4⟩ ?_
            clear hS hK
            intro hS
            refine wpAnyH_done (by kernel_rfl) ?_ _
            have hrel : solRel w0 wS xb mb a1 c1 s a b gk' (.slice (some ⟨g, 0, none⟩) L0.length cap) w5 :=
              ⟨_, θ', ρ', n5, L0, hst'H.out, by have := hnH.out; have := hn5.out; omega, (hS4H.out.below (Below.drew (.refl w4.heap.size _))).stored hg5.out hD5.out hN4H.out,
                OwnL.grown (OwnL.call hot4H.out (Below.drew (.refl w4.heap.size _))) hg5.out (fun j e e' => by simp [Value.ownBlock] at e; injection e' with e'; omega) (fun j hj _ e => by have := hS4H.out.bm; have hj' : j < w0.heap.size := hj; injection e with e; omega), Nat.le_trans hsz4 hg5.out.size⟩
            have hrelH := Lib.hid hrel
            clear hrel hS hup2
            go_wp2_with fail
            go_roundg gk'
            case measure => omega
            case rel => exact hrelH.out
        · omega
        · have hnx := Lib.hid (hN2H.out.clash hv hw)
          have hb : (q0 != p0) = true := by simpa using hw
          have hdv : decide (q0 < 0) = false := by simp; omega
          clear hcaseH hw hN2H
          go_quiet (fail)
          all_goals go_wp2_with fail
          all_goals go_quiet (fail)
          all_goals go_wp2_with fail
          all_goals go_ret
          all_goals exact ⟨false, rfl, bcall hS2H.out.bel ((Drew.mk2 _ _ _).below _), fun _ => hnx.out, fun h => by cases h⟩
      · have hN2H := Lib.hid (show Nxt s a b gk' B θ ρ L0 px py p0 q0 by
          have h := hNH.out
          rw [hturnH.out, if_neg hq] at h
          simp only [hp0H.out, hq0H.out] at h
          exact h)
        have TPH := Lib.hid hTpH.out
        have TQH := Lib.hid hTqH.out
        have lP := lp
        have lQ := lq
        have rPH := Lib.hid hrpH.out
        have rQH := Lib.hid hrqH.out
        have hcase : (p0 < 0 ∧ q0 = p0) ∨ (p0 < 0 ∧ q0 ≠ p0) ∨ (0 ≤ p0 ∧ q0 = p0) ∨ (0 ≤ p0 ∧ p0 ≠ q0) := by omega
        have hcaseH := Lib.hid hcase
        clear hNH hturnH hTpH hTqH hrpH hrqH hp0H hq0H hcase
        go_wp2_with fail
        rcases hcaseH.out with ⟨hv, hw⟩ | ⟨hv, hw⟩ | ⟨hv, hw⟩ | ⟨hv, hw⟩
        · have hnx := Lib.hid (hN2H.out.same hv hw)
          have hb : (q0 == p0) = true := by simpa using hw
          have hdv : decide (p0 < 0) = true := by simpa using hv
          clear hcaseH hw hN2H
          go_quiet (fail)
          all_goals go_wp2_with fail
          go_roundg gk'
          case measure => omega
          case rel => exact ⟨B, θ, ρ, n, L0, hnx.out, hnH.out, hS2H.out.below ((Drew.mk _ _).below _), OwnL.call hot2H.out ((Drew.mk _ _).below _), hsz2⟩
        · have hbd := Lib.hid (hN2H.out.bind hv hw)
          have hoc := Lib.hid (hN2H.out.occ hv hw)
          have hBv : B p0 = none := by have := (hN2H.out.sP.v (by rw [hN2H.out.hP]; exact hv)).2.1; rwa [hN2H.out.hP] at this
          have hV24 : -24 ≤ p0 := by have := (hN2H.out.sP.v (by rw [hN2H.out.hP]; exact hv)).2.2; rwa [hN2H.out.hP] at this
          have hfr := free_bind (q := py) hv hV24 hBv
          have cc := fun W hb => comes_any (w := W) (hS2H.out.below hb) hN2H.out.slv hN2H.out.rg hv hBv TQH.out hN2H.out.sQ.r
          have ccH := Lib.hid cc
          have hBvH := Lib.hid hBv
          have hN4H := Lib.hid hN2H.out.sQ.w
          have hb : (q0 == p0) = false := by simpa using hw
          have hdv : decide (p0 < 0) = true := by simpa using hv
          clear hcaseH hw hN2H cc hBv
          go_quiet (fail)
          all_goals go_wp2_with fail
          obtain ⟨W3, hW3⟩ : ∃ W3, W2.drewN nq = W3 := ⟨_, rfl⟩
          have hb3 : Below W2.heap.size W2 W3 := by rw [← hW3]; exact (Drew.mk _ _).below _
          rw [hW3]
          (with_reducible refine (ccH.out W3 hb3).mono ?_)
          rintro e w4 ⟨r, rfl, hr, hb4⟩
          have hb24 := bcall hb3 hb4
          have hS4H := Lib.hid (hS2H.out.below hb24)
          have hrH := Lib.hid hr
          cases r with
          | true =>
            clear hr hb3 hb4 hW3 hb24
            go_wp2_with fail
            go_ret
            exact ⟨false, rfl, hS4H.out.bel, fun _ => hoc.out (hrH.out.1 (by simp)), fun h => by cases h⟩
          | false =>
            have hot4H := Lib.hid (OwnL.call hot2H.out hb24)
            have QP4 := cell_later hb24 qp
            have k1 := hS4H.out.k1
            have hsz4 := Nat.le_trans hsz2 hb24.size
            clear hr hb3 hb4 hW3 hb24
            go_wp2_with fail
            have hnoc : p0 ∉ ap θ py := fun h => by have := hrH.out.2 h; cases this
            obtain ⟨θ', ρ', hst'⟩ := hbd.out hnoc
            have hst'H := Lib.hid hst'
            obtain ⟨w5, n5, hup, hn5, hD5, hg5, -⟩ := (hS4H.out.map.below (w' := w4.drew) (Below.drew (.refl w4.heap.size _)) hS4H.out.map.lt).store (by have := hnH.out; unfold maxLen; omega) p0 rPH.out TQH.out
            have hup2 := hup.out
            clear hst' hnoc
            have hlPi : 0 < px.length := lP
            have hxw := hS4H.out.lt
            have hbw : bp < w4.drew.heap.size := World.block_lt_of_cell? _ _ QP4
            have hBm : bp ≠ mb := by have := hS4H.out.bm; omega
            refine wp_region_held_drew (S := (fun w' => w'.cell? ⟨xb, 1, none⟩ = some (.map (some mb)) ∧ w'.cell? ⟨bp, op, none⟩ = some (.int .i64 p0))) (by kernel_rfl) ⟨k1, QP4⟩ (fun hS => ?_)
            refine region_take 0 (some 116) (v := ?_) rfl rfl (by kernel_rfl) (by kernel_rfl) (by kernel_rfl) (fun _ _ _ h => h) rfl ?_ hS ?_
            rotate_left
            · (intro w9 hS9; go_simp; try (with_reducible rfl))
            simp only [Act.put, List.setIfInBounds_toArray, List.set_cons_zero, List.set_cons_succ]
            refine region_take 1 (some 117) (v := ?_) rfl rfl (by kernel_rfl) (by kernel_rfl) (by kernel_rfl) (fun _ _ _ h => h) rfl ?_ hS ?_
            rotate_left
            · (intro w9 hS9; go_simp; try (with_reducible rfl))
            simp only [Act.put, List.setIfInBounds_toArray, List.set_cons_zero, List.set_cons_succ]
            refine region_take 2 (some 118) (v := ?_) rfl rfl (by kernel_rfl) (by kernel_rfl) (by kernel_rfl) (fun _ _ _ h => h) rfl ?_ hS ?_
            rotate_left
            · (intro w9 hS9; go_simp; try (with_reducible rfl))
            simp only [Act.put, List.setIfInBounds_toArray, List.set_cons_zero, List.set_cons_succ]
            refine region_take 3 (some 119) (v := ?_) rfl rfl (by kernel_rfl) (by kernel_rfl) (by kernel_rfl) (fun _ _ _ h => h) rfl ?_ hS ?_
            rotate_left
            · (intro w9 hS9; go_simp; try (with_reducible rfl))
            simp only [Act.put, List.setIfInBounds_toArray, List.set_cons_zero, List.set_cons_succ]
            refine region_take 4 (some 120) (v := ?_) rfl rfl (by kernel_rfl) (by kernel_rfl) (by kernel_rfl) (fun _ _ _ h => h) rfl ?_ hS ?_
            rotate_left
            · (intro w9 hS9; go_simp; try (with_reducible rfl))
            simp only [Act.put, List.setIfInBounds_toArray, List.set_cons_zero, List.set_cons_succ]
            refine region_take 5 (some 121) (v := ?_) rfl rfl (by kernel_rfl) (by kernel_rfl) (by kernel_rfl) (fun _ _ _ h => h) rfl ?_ hS ?_
            rotate_left
            · (intro w9 hS9; go_simp; try (with_reducible rfl))
            simp only [Act.put, List.setIfInBounds_toArray, List.set_cons_zero, List.set_cons_succ]
            refine region_take 6 (some 122) (v := ?_) rfl rfl (by kernel_rfl) (by kernel_rfl) (by kernel_rfl) (fun _ _ _ h => h) rfl ?_ hS ?_
            rotate_left
            · (intro w9 hS9; go_simp; try (with_reducible rfl))
            simp only [Act.put, List.setIfInBounds_toArray, List.set_cons_zero, List.set_cons_succ]
            refine region_take 7 (some 123) (v := ?_) rfl rfl (by kernel_rfl) (by kernel_rfl) (by kernel_rfl) (fun _ _ _ h => h) rfl ?_ hS ?_
            rotate_left
            · (intro w9 hS9; go_simp; try (with_reducible rfl))
            simp only [Act.put, List.setIfInBounds_toArray, List.set_cons_zero, List.set_cons_succ]
            refine region_call 8 rfl (by kernel_rfl) (fun K hK => ?_)
            go_simp
            refine hK.out _ _ ⟨(World.cell?_of_block (hg5.out.block xb hxw (fun e => hS4H.out.ne (by injection e)))).trans k1, (World.cell?_of_block (hg5.out.block bp hbw (fun e => hBm (by injection e)))).trans QP4⟩ ?_
            clear hS hK
            intro hS
            refine wpAnyH_done (by kernel_rfl) ?_ _
            have hrel : solRel w0 wS xb mb a1 c1 s a b gk' (.slice (some ⟨g, 0, none⟩) L0.length cap) w5 :=
              ⟨_, θ', ρ', n5, L0, hst'H.out, by have := hnH.out; have := hn5.out; omega, (hS4H.out.below (Below.drew (.refl w4.heap.size _))).stored hg5.out hD5.out hN4H.out,
                OwnL.grown (OwnL.call hot4H.out (Below.drew (.refl w4.heap.size _))) hg5.out (fun j e e' => by simp [Value.ownBlock] at e; injection e' with e'; omega) (fun j hj _ e => by have := hS4H.out.bm; have hj' : j < w0.heap.size := hj; injection e with e; omega), Nat.le_trans hsz4 hg5.out.size⟩
            have hrelH := Lib.hid hrel
            clear hrel hS hup2
            go_wp2_with fail
            go_roundg gk'
            case measure => omega
            case rel => exact hrelH.out
        · have hnx := hN2H.out.args hv hw
          have hP := hN2H.out.hP
          have hQ := hN2H.out.hQ
          have wP := hN2H.out.sP.w
          have wQ := hN2H.out.sQ.w
          rw [hw] at hQ
          obtain ⟨hlP, hms0, hatP⟩ := args_all wP hP
          obtain ⟨hlQ, -, hatQ⟩ := args_all wQ hQ
          obtain ⟨m0, hm0⟩ := Int.eq_ofNat_of_zero_le hv
          have hms : m0 < s.length := by omega
          obtain ⟨bs, os, has, -, -, qs, -, -⟩ := (hS2H.out.sg.below hS2H.out.bel).sym m0 hms
          have har := okSign_ars hokH.out m0 hms
          rw [arW_sym hms har.1] at qs
          have har3 := har.2
          rw [arW_sym hms har.1] at har3
          rw [hm0] at hlP hlQ
          obtain ⟨N, hN⟩ : ∃ N, arW s (m0 : Int) = N := ⟨_, rfl⟩
          rw [hN] at qs har3 hlP hlQ
          have hnxH := Lib.hid (hnx (by omega))
          have hatPH := Lib.hid hatP
          have hatQH := Lib.hid hatQ
          have hlPH := Lib.hid hlP
          have hlQH := Lib.hid hlQ
          have hb : (p0 != q0) = false := by simpa using hw.symm
          have hdv : decide (p0 < 0) = false := by simp; omega
          have hdv2 : ¬ p0 < 0 := by omega
          have k0 := hS2H.out.k0
          rw [has] at k0
          have hasH := Lib.hid has
          have hcpP : px.length ≤ cp := TPH.out.cap
          have hcpQ : py.length ≤ cq := TQH.out.cap
          subst hm0
          clear hcaseH hw hN2H hnx hP hQ wP wQ hms0 har hatP hatQ hlP hlQ hN has
          go_quiet (fail)
          all_goals go_wp2_with fail
          go_quiet (fail)
          all_goals go_wp2_with fail
          go_quiet (fail)
          all_goals go_wp2_with fail
          rename_i nq1 nq2
          obtain ⟨W3, hW3⟩ : ∃ W3, ((W2.drewN nq1).drewN nq2).drewN nq = W3 := ⟨_, rfl⟩
          have hb3 : Below W2.heap.size W2 W3 := by rw [← hW3]; exact (drew_more (Drew.mk2 W2 nq1 nq2) nq).below _
          rw [hW3]
          have hS3H := Lib.hid (hS2H.out.below hb3)
          have ho3H := Lib.hid (OwnL.call hot2H.out hb3)
          have hsz3 := Nat.le_trans hsz2 hb3.size
          have hLn : L0.length + N ≤ 10000000 := by
            have h := hnxH.out.len la lb
            rw [List.length_append, List.length_zip, hlPH.out, hlQH.out, Nat.min_self] at h; exact h
          clear hb3 hW3 hS2H hot2H hsz2 qp qq qs k0
          go_loopw [7, 11, 12, 58] (fun lv iv jv cv wr => inRel w0 wS xb mb n a1 c1 s B L0 px py N lv iv jv cv wr) (fun _ _ _ cv _ => N - (intOf cv).toNat)
          case atStart => exact ⟨0, rfl, Nat.zero_le _, rfl, rfl, by rw [List.take_zero, List.append_nil]; exact ho3H.out, hS3H.out, hsz3⟩
          case round =>
            obtain ⟨m, rfl, hm, rfl, rfl, hor, hSr, hszr⟩ := hrel
            by_cases hmN : m < N
            · obtain ⟨gP1, gP2, gP3, gP4⟩ := hatPH.out m (by rw [hlPH.out]; exact hmN)
              obtain ⟨gQ1, gQ2, gQ3, gQ4⟩ := hatQH.out m (by rw [hlQH.out]; exact hmN)
              have hzl : ((argsW s px).zip (argsW s py)).length = N := by rw [List.length_zip, hlPH.out, hlQH.out, Nat.min_self]
              have htk : ((argsW s px).zip (argsW s py)).take (m + 1) = ((argsW s px).zip (argsW s py)).take m ++ [((argsW s px)[m]'(by rw [hlPH.out]; exact hmN), (argsW s py)[m]'(by rw [hlQH.out]; exact hmN))] := by
                rw [List.take_succ_eq_append_getElem (by rw [hzl]; exact hmN), List.getElem_zip]
              have cafP := fun W (hb : Below wr.heap.size wr W) => lafter_any a1 (some ⟨bp, op, none⟩) c1 cp s px (apos s px m) _ W (hSr.sg.below (bcall hSr.bel hb)) (TPH.out.below (bcall hSr.bel hb)) hokH.out gP1
              have cafQ := fun W (hb : Below wr.heap.size wr W) => lafter_any a1 (some ⟨bq, oq, none⟩) c1 cq s py (apos s py m) _ W (hSr.sg.below (bcall hSr.bel hb)) (TQH.out.below (bcall hSr.bel hb)) hokH.out gQ1
              rw [drop_len gP3] at cafP
              rw [drop_len gQ3] at cafQ
              obtain ⟨i, hi⟩ : ∃ i, apos s px m = i := ⟨_, rfl⟩
              obtain ⟨i', hi'⟩ : ∃ i, apos s px (m + 1) = i := ⟨_, rfl⟩
              obtain ⟨j, hj⟩ : ∃ i, apos s py m = i := ⟨_, rfl⟩
              obtain ⟨j', hj'⟩ : ∃ i, apos s py (m + 1) = i := ⟨_, rfl⟩
              rw [hi, hi'] at gP2 gP4
              rw [hj, hj'] at gQ2 gQ4
              rw [hi'] at gP3
              rw [hj'] at gQ3
              rw [hi, hi'] at cafP
              rw [hj, hj'] at cafQ
              have pP := Ints.part TPH.out i i' (i' - i) (by omega) gP3 (Nat.le_refl _) (by omega)
              have pQ := Ints.part TQH.out j j' (j' - j) (by omega) gQ3 (Nat.le_refl _) (by omega)
              have eP : ((px.drop i).take (i' - i)).length = i' - i := by simp; omega
              have eQ : ((py.drop j).take (j' - j)).length = j' - j := by simp; omega
              rw [gP4] at pP eP
              rw [gQ4] at pQ eQ
              rw [hi, hj]
              have k0 := hSr.k0
              have hpush := fun W (hb : Below wr.heap.size wr W) => Pr_push (OwnL.call hor hb) (fun b hb' => Nat.lt_of_lt_of_le hb' hz) (Nat.le_trans hszr hb.size) (pP.below (bcall hSr.bel hb)) (pQ.below (bcall hSr.bel hb)) (by rw [List.length_append, List.length_take, hzl]; omega)
              rw [eP, eQ] at hpush
              have hpushH := Lib.hid hpush
              have htkH := Lib.hid htk
              have hi'H := Lib.hid hi'
              have hj'H := Lib.hid hj'
              have hSrH := Lib.hid hSr
              have cafPH := Lib.hid cafP
              have cafQH := Lib.hid cafQ
              have hni : ¬ i' = i := by omega
              have hnj : ¬ j' = j := by omega
              have hii : i ≤ i' := by omega
              have hjj : j ≤ j' := by omega
              have hic : i' ≤ cp := by omega
              have hjc : j' ≤ cq := by omega
              clear hpush htk hi hi' hj hj' hSr cafP cafQ pP pQ eP eQ gP1 gP4 gQ1 gQ4 hor hzl
              go_wp2_with fail
              refine wp_region_held_drew (S := (fun w' => w'.cell? ⟨xb, 0, none⟩ = some (.slice a1 s.length c1) ∧ Below wr.heap.size wr w')) (by kernel_rfl) ⟨k0, Below.drew (.refl _ _)⟩ (fun hS => ?_)
              refine region_take 0 (some 60) (v := ?_) rfl rfl (by kernel_rfl) (by kernel_rfl) (by kernel_rfl) (fun _ _ _ h => h) rfl ?_ hS ?_
              rotate_left
              · (intro w9 hS9; go_simp; try (with_reducible rfl))
              simp only [Act.put, List.setIfInBounds_toArray, List.set_cons_zero, List.set_cons_succ]
              refine region_take 1 (some 61) (v := ?_) rfl rfl (by kernel_rfl) (by kernel_rfl) (by kernel_rfl) (fun _ _ _ h => h) rfl ?_ hS ?_
              rotate_left
              · (intro w9 hS9; go_simp; try (with_reducible rfl))
              simp only [Act.put, List.setIfInBounds_toArray, List.set_cons_zero, List.set_cons_succ]
              refine region_take 2 (some 62) (v := ?_) rfl rfl (by kernel_rfl) (by kernel_rfl) (by kernel_rfl) (fun _ _ _ h => h) rfl ?_ hS ?_
              rotate_left
              · (intro w9 hS9; go_simp; try (with_reducible rfl))
              simp only [Act.put, List.setIfInBounds_toArray, List.set_cons_zero, List.set_cons_succ]
              refine region_take 3 (some 63) (v := ?_) rfl rfl (by kernel_rfl) (by kernel_rfl) (by kernel_rfl) (fun _ _ _ h => h) rfl ?_ hS ?_
              rotate_left
              · (intro w9 hS9; go_simp; try (with_reducible rfl))
              simp only [Act.put, List.setIfInBounds_toArray, List.set_cons_zero, List.set_cons_succ]
              refine region_take 4 (some 64) (v := ?_) rfl rfl (by kernel_rfl) (by kernel_rfl) (by kernel_rfl) (fun _ _ _ h => h) rfl ?_ hS ?_
              rotate_left
              · (intro w9 hS9; go_simp; try (with_reducible rfl))
              simp only [Act.put, List.setIfInBounds_toArray, List.set_cons_zero, List.set_cons_succ]
              refine region_take 5 (some 65) (v := ?_) rfl rfl (by kernel_rfl) (by kernel_rfl) (by kernel_rfl) (fun _ _ _ h => h) rfl ?_ hS ?_
              rotate_left
              · (intro w9 hS9; go_simp; try (with_reducible rfl))
              simp only [Act.put, List.setIfInBounds_toArray, List.set_cons_zero, List.set_cons_succ]
              refine region_take 7 (some 67) (v := ?_) rfl rfl (by kernel_rfl) (by kernel_rfl) (by kernel_rfl) (fun _ _ _ h => h) rfl ?_ hS ?_
              rotate_left
              · (intro w9 hS9; go_simp; try (with_reducible rfl))
              simp only [Act.put, List.setIfInBounds_toArray, List.set_cons_zero, List.set_cons_succ]
              refine region_take 8 (some 68) (v := ?_) rfl rfl (by kernel_rfl) (by kernel_rfl) (by kernel_rfl) (fun _ _ _ h => h) rfl ?_ hS ?_
              rotate_left
              · (intro w9 hS9; go_simp; try (with_reducible rfl))
              simp only [Act.put, List.setIfInBounds_toArray, List.set_cons_zero, List.set_cons_succ]
              refine region_take 9 (some 69) (v := ?_) rfl rfl (by kernel_rfl) (by kernel_rfl) (by kernel_rfl) (fun _ _ _ h => h) rfl ?_ hS ?_
              rotate_left
              · (intro w9 hS9; go_simp; try (with_reducible rfl))
              simp only [Act.put, List.setIfInBounds_toArray, List.set_cons_zero, List.set_cons_succ]
              refine region_take 10 (some 70) (v := ?_) rfl rfl (by kernel_rfl) (by kernel_rfl) (by kernel_rfl) (fun _ _ _ h => h) rfl ?_ hS ?_
              rotate_left
              · (intro w9 hS9; go_simp; try (with_reducible rfl))
              simp only [Act.put, List.setIfInBounds_toArray, List.set_cons_zero, List.set_cons_succ]
              refine region_take 11 (some 71) (v := ?_) rfl rfl (by kernel_rfl) (by kernel_rfl) (by kernel_rfl) (fun _ _ _ h => h) rfl ?_ hS ?_
              rotate_left
              · (intro w9 hS9; go_simp; try (with_reducible rfl))
              simp only [Act.put, List.setIfInBounds_toArray, List.set_cons_zero, List.set_cons_succ]
              refine region_take 12 (some 72) (v := ?_) rfl rfl (by kernel_rfl) (by kernel_rfl) (by kernel_rfl) (fun _ _ _ h => h) rfl ?_ hS ?_
              rotate_left
              · (intro w9 hS9; go_simp; try (with_reducible rfl))
              simp only [Act.put, List.setIfInBounds_toArray, List.set_cons_zero, List.set_cons_succ]
              refine region_call 6 rfl (by kernel_rfl) (fun K hK => ?_)
              go_simp
              (with_reducible refine (cafPH.out _ hS.2).mono ?_)
              rintro e w8 ⟨rfl, hb8⟩
              refine hK.out _ _ ⟨cell_later hb8 hS.1, bcall hS.2 hb8⟩ ?_
              clear hS hK
              intro hS
              refine region_call 13 rfl (by kernel_rfl) (fun K hK => ?_)
              go_simp
              (with_reducible refine (cafQH.out _ hS.2).mono ?_)
              rintro e w8 ⟨rfl, hb8⟩
              refine hK.out _ _ ⟨cell_later hb8 hS.1, bcall hS.2 hb8⟩ ?_
              clear hS hK
              intro hS
              refine region_take 14 (some 13) (v := ?_) rfl rfl (by kernel_rfl) (by kernel_rfl) (by kernel_rfl) (fun _ _ _ h => h) rfl ?_ hS ?_
              rotate_left
              · (intro w9 hS9; go_simp; try (with_reducible rfl))
              simp only [Act.put, List.setIfInBounds_toArray, List.set_cons_zero, List.set_cons_succ]
              refine region_take 15 (some 14) (v := ?_) rfl rfl (by kernel_rfl) (by kernel_rfl) (by kernel_rfl) (fun _ _ _ h => h) rfl ?_ hS ?_
              rotate_left
              · (intro w9 hS9; go_simp; try (with_reducible rfl))
              simp only [Act.put, List.setIfInBounds_toArray, List.set_cons_zero, List.set_cons_succ]
              refine wpAnyH_done (by kernel_rfl) ?_ _
              obtain ⟨-, hb4⟩ := hS
              obtain ⟨v5, w5, hup, ho5, hb5⟩ := hpushH.out w8.drew hb4.drew
              have hup2 := hup.out
              have hS5H := Lib.hid ((hSrH.out.below hb4.drew).keep hb5.out hxS hmS hz)
              have hsz5 := Nat.le_trans (Nat.le_trans hszr hb4.drew.size) hb5.out.size
              clear hb4
              go_wp2_with fail
              refine wp_region_held_drew (S := (fun _ => True)) (by kernel_rfl) trivial (fun hS => ?_)
              refine region_take 0 (some 74) (v := ?_) rfl rfl (by kernel_rfl) (by kernel_rfl) (by kernel_rfl) (fun _ _ _ h => h) rfl ?_ hS ?_
              rotate_left
              · (intro w9 hS9; go_simp; try (with_reducible rfl))
              simp only [Act.put, List.setIfInBounds_toArray, List.set_cons_zero, List.set_cons_succ]
              refine region_take 1 (some 75) (v := ?_) rfl rfl (by kernel_rfl) (by kernel_rfl) (by kernel_rfl) (fun _ _ _ h => h) rfl ?_ hS ?_
              rotate_left
              · (intro w9 hS9; go_simp; try (with_reducible rfl))
              simp only [Act.put, List.setIfInBounds_toArray, List.set_cons_zero, List.set_cons_succ]
              refine region_take 2 (some 76) (v := ?_) rfl rfl (by kernel_rfl) (by kernel_rfl) (by kernel_rfl) (fun _ _ _ h => h) rfl ?_ hS ?_
              rotate_left
              · (intro w9 hS9; go_simp; try (with_reducible rfl))
              simp only [Act.put, List.setIfInBounds_toArray, List.set_cons_zero, List.set_cons_succ]
              refine region_take 3 (some 77) (v := ?_) rfl rfl (by kernel_rfl) (by kernel_rfl) (by kernel_rfl) (fun _ _ _ h => h) rfl ?_ hS ?_
              rotate_left
              · (intro w9 hS9; go_simp; try (with_reducible rfl))
              simp only [Act.put, List.setIfInBounds_toArray, List.set_cons_zero, List.set_cons_succ]
              refine region_take 4 (some 78) (v := ?_) rfl rfl (by kernel_rfl) (by kernel_rfl) (by kernel_rfl) (fun _ _ _ h => h) rfl ?_ hS ?_
              rotate_left
              · (intro w9 hS9; go_simp; try (with_reducible rfl))
              simp only [Act.put, List.setIfInBounds_toArray, List.set_cons_zero, List.set_cons_succ]
              refine region_take 5 (some 79) (v := ?_) rfl rfl (by kernel_rfl) (by kernel_rfl) (by kernel_rfl) (fun _ _ _ h => h) rfl ?_ hS ?_
              rotate_left
              · (intro w9 hS9; go_simp; try (with_reducible rfl))
              simp only [Act.put, List.setIfInBounds_toArray, List.set_cons_zero, List.set_cons_succ]
              refine region_take 6 (some 80) (v := ?_) rfl rfl (by kernel_rfl) (by kernel_rfl) (by kernel_rfl) (fun _ _ _ h => h) rfl ?_ hS ?_
              rotate_left
              · (intro w9 hS9; go_simp; try (with_reducible rfl))
              simp only [Act.put, List.setIfInBounds_toArray, List.set_cons_zero, List.set_cons_succ]
              refine region_take 7 (some 81) (v := ?_) rfl rfl (by kernel_rfl) (by kernel_rfl) (by kernel_rfl) (fun _ _ _ h => h) rfl ?_ hS ?_
              rotate_left
              · (intro w9 hS9; go_simp; try (with_reducible rfl))
              simp only [Act.put, List.setIfInBounds_toArray, List.set_cons_zero, List.set_cons_succ]
              refine region_take 8 (some 82) (v := ?_) rfl rfl (by kernel_rfl) (by kernel_rfl) (by kernel_rfl) (fun _ _ _ h => h) rfl ?_ hS ?_
              rotate_left
              · (intro w9 hS9; go_simp; try (with_reducible rfl))
              simp only [Act.put, List.setIfInBounds_toArray, List.set_cons_zero, List.set_cons_succ]
              refine region_take 9 (some 83) (v := ?_) rfl rfl (by kernel_rfl) (by kernel_rfl) (by kernel_rfl) (fun _ _ _ h => h) rfl ?_ hS ?_
              rotate_left
              · (intro w9 hS9; go_simp; try (with_reducible rfl))
              simp only [Act.put, List.setIfInBounds_toArray, List.set_cons_zero, List.set_cons_succ]
              refine region_take 10 (some 84) (v := ?_) rfl rfl (by kernel_rfl) (by kernel_rfl) (by kernel_rfl) (fun _ _ _ h => h) rfl ?_ hS ?_
              rotate_left
              · (intro w9 hS9; go_simp; try (with_reducible rfl))
              simp only [Act.put, List.setIfInBounds_toArray, List.set_cons_zero, List.set_cons_succ]
              refine region_take 11 (some 85) (v := ?_) rfl rfl (by kernel_rfl) (by kernel_rfl) (by kernel_rfl) (fun _ _ _ h => h) rfl ?_ hS ?_
              rotate_left
              · (intro w9 hS9; go_simp; try (with_reducible rfl))
              simp only [Act.put, List.setIfInBounds_toArray, List.set_cons_zero, List.set_cons_succ]
              refine region_call 12 rfl (by kernel_rfl) (fun K hK => ?_)
              go_simp
              refine hK.out _ _ trivial ?_
              clear hS hK
              intro hS
              refine region_call 13 rfl (by kernel_rfl) (fun K hK => ?_)
              rw [if_pos (by kernel_rfl)]
              refine oper_append_run (vs := u7) (vx := .slice (some ⟨w8.heap.size, 0, none⟩) 1 1) (v' := v5) (w' := w5) (.tmp 74) (.tmp 86) 80 rfl rfl rfl hup2 ?_
              refine hK.out _ _ trivial ?_
              clear hS hK
              intro hS
              refine region_take 14 (some 7) (v := ?_) rfl rfl (by kernel_rfl) (by kernel_rfl) (by kernel_rfl) (fun _ _ _ h => h) rfl ?_ hS ?_
              rotate_left
              · (intro w9 hS9; go_simp; try (with_reducible rfl))
              simp only [Act.put, List.setIfInBounds_toArray, List.set_cons_zero, List.set_cons_succ]
              refine wpAnyH_done (by kernel_rfl) ?_ _
              clear hup2 hS
              go_wp2_with fail
              go_roundw
              case rel => exact ⟨m + 1, by go_num, by omega, by rw [hi'H.out], by rw [hj'H.out], by rw [htkH.out, ← List.append_assoc]; exact ho5.out, hS5H.out, hsz5⟩
              case measure => simp [intOf]; omega
            · obtain rfl : m = N := by omega
              have hfull : ((argsW s px).zip (argsW s py)).take m = (argsW s px).zip (argsW s py) := List.take_of_length_le (by rw [List.length_zip, hlPH.out, hlQH.out]; omega)
              rw [hfull] at hor
              have hrel : solRel w0 wS xb mb a1 c1 s a b gk' u7 wr := ⟨B, θ, ρ, n, _, hnxH.out, hnH.out, hSr, hor, hszr⟩
              have hrelH := Lib.hid hrel
              clear hrel hor hSr hfull
              go_wp2_with fail
              go_roundg gk'
              case measure => omega
              case rel => exact hrelH.out
        · have hnx := Lib.hid (hN2H.out.clash hv hw)
          have hb : (p0 != q0) = true := by simpa using hw
          have hdv : decide (p0 < 0) = false := by simp; omega
          clear hcaseH hw hN2H
          go_quiet (fail)
          all_goals go_wp2_with fail
          all_goals go_quiet (fail)
          all_goals go_wp2_with fail
          all_goals go_ret
          all_goals exact ⟨false, rfl, bcall hS2H.out.bel ((Drew.mk2 _ _ _).below _), fun _ => hnx.out, fun h => by cases h⟩
    · have hL0 : L = [] := by cases L with | nil => rfl | cons _ _ => simp at hL
      subst hL0
      have hfin : solRet w0 xb mb a1 c1 s a b (.returned (.bool true)) wr := ⟨true, rfl, hS.bel, (fun h => by cases h), fun _ => ⟨B, θ, ρ, n, hst.slv, hst.rg, hst.eq.done, hS, hst.infB⟩⟩
      have hfinH := Lib.hid hfin
      subst hv
      clear hst hS ho hfin hsl hL
      go_wp2_with fail
      go_ret
      exact hfinH.out
end Go.Proofs.Ytgkddhakhapjlaa

/- A part put into a term: what is put in is there. No program is named. -/
namespace Go.Proofs.Ytgkddhakhapjlaa

theorem posK_get {s : Sg} {n : Nat} : ∀ {k m : Nat} {l l' : List Int} (_ : skip s k l = some l') (_ : k < m), (posK s n m l)[k]? = some ((n - l'.length : Nat) : Int)
  | _, 0, _, _, _, hm => by omega
  | 0, m + 1, l, l', h, _ => by
    rw [skip_zero] at h
    cases h
    simp [posK]
  | k + 1, m + 1, l, l', h, hm => by
    obtain ⟨x, h1, h2⟩ := skip_one h
    rw [posK, h1]
    simpa using posK_get (n := n) h2 (show k < m by omega)
theorem stepTo_skip {s : Sg} {t l' : List Int} {a k : Nat} (hk : k < ar s (t.getD a 0)) (h : skip s k (t.drop (a + 1)) = some l') : stepTo s t a k = some (t.length - l'.length) := by
  rw [stepTo, if_pos ⟨by omega, by omega⟩, List.getD_eq_getElem?_getD, Int.toNat_natCast, posK_get h hk]; rfl
theorem step_skip {s : Sg} {t rest : List Int} {a : Nat} (h : skip s 1 (t.drop a) = some rest) {k : Int} {y : Nat} (hy : stepTo s t a k = some y) :
    ∃ n : Nat, k = n ∧ n < ar s (t.getD a 0) ∧ skip s n (t.drop (a + 1)) = some (t.drop y) ∧ a < y ∧ y ≤ t.length ∧ ∃ ry, skip s 1 (t.drop y) = some ry ∧ skip s (ar s (t.getD a 0) - n - 1) ry = some rest := by
  obtain ⟨-, h2, -, h4⟩ := part_args h
  have hk : 0 ≤ k ∧ k < ar s (t.getD a 0) := by
    rcases Classical.em (0 ≤ k ∧ k < ar s (t.getD a 0)) with hh | hh
    · exact hh
    · rw [stepTo, if_neg hh] at hy; cases hy
  obtain ⟨n, rfl⟩ := Int.eq_ofNat_of_zero_le hk.1
  have hn : n < ar s (t.getD a 0) := by omega
  obtain ⟨m, hm⟩ : ∃ m, ar s (t.getD a 0) = n + (1 + m) := ⟨ar s (t.getD a 0) - n - 1, by omega⟩
  have h3 := h2
  rw [hm, skip_add] at h3
  cases hl : skip s n (t.drop (a + 1)) with
  | none => rw [hl] at h3; cases h3
  | some l' =>
    rw [hl, Option.bind_some, skip_add] at h3
    cases hr : skip s 1 l' with
    | none => rw [hr] at h3; cases h3
    | some ry =>
      rw [hr, Option.bind_some] at h3
      rw [stepTo_skip hn hl] at hy
      obtain rfl := Option.some.inj hy
      obtain ⟨M, hM, -, -⟩ := skip_split s n _ _ hl
      have hlen := congrArg List.length hM
      rw [List.length_drop, List.length_append] at hlen
      have hl1 := skip_len _ _ _ _ hr
      have hd : t.drop (t.length - l'.length) = l' := by
        rw [show t.length - l'.length = (a + 1) + M.length by omega, ← List.drop_drop, hM]; simp
      refine ⟨n, rfl, hn, by rw [hd]; exact hl, by omega, by omega, ry, by rw [hd]; exact hr, ?_⟩
      rw [hm, show n + (1 + m) - n - 1 = m by omega]; exact h3
theorem drop_take_drop {l : List Int} {i y : Nat} (h1 : i ≤ y) (h2 : y ≤ l.length) : l.drop i = (l.take y).drop i ++ l.drop y := by
  have h3 : l.drop i = (l.take y ++ l.drop y).drop i := by rw [List.take_append_drop]
  rw [h3, List.drop_append_of_le_length (by rw [List.length_take]; omega)]
theorem place_put {s : Sg} {t c u r' : List Int} {z : Nat} (hz : z ≤ t.length) (hzc : z ≤ c.length) (hc : c.take z = t.take z) (hr : skip s 1 (t.drop z) = some r') (hd : c.drop z = u ++ r') (hu : skip s 1 u = some []) :
    ∀ (p : List Int) {rest : List Int} {a : Nat} (_ : skip s 1 (t.drop a) = some rest) (_ : place s t p a = some z), a ≤ z ∧ place s c p a = some z ∧ skip s 1 (c.drop a) = some rest
  | [], rest, a, h, hp => by
    simp only [place, Option.some.injEq] at hp
    subst hp
    refine ⟨Nat.le_refl _, rfl, ?_⟩
    rw [h] at hr
    obtain rfl := Option.some.inj hr
    rw [hd]
    exact skip_append s 1 u _ [] hu
  | k :: ks, rest, a, h, hp => by
    rw [place] at hp
    cases hy : stepTo s t a k with
    | none => rw [hy] at hp; cases hp
    | some y =>
      rw [hy, Option.bind_some] at hp
      obtain ⟨n, rfl, hn, h1, h2, h3, ry, h4, h5⟩ := step_skip h hy
      obtain ⟨i1, i2, i3⟩ := place_put hz hzc hc hr hd hu ks h4 hp
      obtain ⟨hlt, hco, -⟩ := skip_drop (k := 0) h
      have hyc : c.take y = t.take y := by
        have := congrArg (List.take y) hc
        rwa [List.take_take, List.take_take, Nat.min_eq_left i1] at this
      have hca : c[a]? = t[a]? := by
        have e1 : (c.take y)[a]? = c[a]? := by rw [List.getElem?_take, if_pos h2]
        have e2 : (t.take y)[a]? = t[a]? := by rw [List.getElem?_take, if_pos h2]
        rw [← e1, ← e2, hyc]
      have hcl : a < c.length := by omega
      have hcg : c[a] = t[a] := by rw [List.getElem?_eq_getElem hcl, List.getElem?_eq_getElem hlt] at hca; exact Option.some.inj hca
      have hgd : c.getD a 0 = t.getD a 0 := by rw [List.getD_eq_getElem?_getD, List.getD_eq_getElem?_getD, hca]
      have ht1 := drop_take_drop (l := t) (i := a + 1) (y := y) (by omega) h3
      have hc1 := drop_take_drop (l := c) (i := a + 1) (y := y) (by omega) (by omega)
      rw [hyc] at hc1
      have hM : skip s n ((t.take y).drop (a + 1)) = some [] := by
        rw [ht1] at h1
        obtain ⟨u', e1, e2, -⟩ := skip_split s n _ _ h1
        rw [List.append_cancel_right e1]; exact e2
      have hcs : skip s n (c.drop (a + 1)) = some (c.drop y) := by
        rw [hc1]; exact skip_append s n _ _ _ hM
      have hst : stepTo s c a n = some y := by
        rw [stepTo_skip (by rw [hgd]; exact hn) hcs, List.length_drop]
        congr 1; omega
      refine ⟨by omega, by rw [place, hst]; exact i2, ?_⟩
      have hall : skip s (ar s (t.getD a 0)) (c.drop (a + 1)) = some rest := by
        rw [show ar s (t.getD a 0) = n + (1 + (ar s (t.getD a 0) - n - 1)) by omega, skip_add, hcs, Option.bind_some, skip_add, i3]
        exact h5
      rw [List.drop_eq_getElem_cons hcl, skip_cons, hcg, if_pos hco, Nat.zero_add]
      have : t.getD a 0 = t[a] := by simp [hlt]
      rw [← this]; exact hall

def putL (s : Sg) (t u : List Int) (z : Nat) : List Int := t.take z ++ (u ++ t.drop (z + (partAt s (t.drop z)).length))
def putE (s : Sg) (t p u : List Int) : List Int × Int :=
  if okT s t = true ∧ okT s u = true then (match place s t p 0 with | some z => (if (putL s t u z).length ≤ 60 then (putL s t u z, 0) else ([], 4)) | none => ([], 8)) else ([], 1)
theorem putE_1 {s : Sg} {t p u : List Int} (h : ¬ (okT s t = true ∧ okT s u = true)) : putE s t p u = ([], 1) := by rw [putE, if_neg h]
theorem putE_8 {s : Sg} {t p u : List Int} (h : okT s t = true ∧ okT s u = true) (hp : place s t p 0 = none) : putE s t p u = ([], 8) := by rw [putE, if_pos h, hp]
theorem putE_4 {s : Sg} {t p u : List Int} {z : Nat} (h : okT s t = true ∧ okT s u = true) (hp : place s t p 0 = some z) (hl : ¬ (putL s t u z).length ≤ 60) : putE s t p u = ([], 4) := by rw [putE, if_pos h, hp]; exact if_neg hl
theorem putE_0 {s : Sg} {t p u : List Int} {z : Nat} (h : okT s t = true ∧ okT s u = true) (hp : place s t p 0 = some z) (hl : (putL s t u z).length ≤ 60) : putE s t p u = (putL s t u z, 0) := by rw [putE, if_pos h, hp]; exact if_pos hl
/-- the part at a place, and what lies behind it -/
theorem part_split {s : Sg} {t r : List Int} {z : Nat} (hr : skip s 1 (t.drop z) = some r) : z + (partAt s (t.drop z)).length = t.length - r.length ∧ t.drop (z + (partAt s (t.drop z)).length) = r ∧ z < t.length ∧ r.length < t.length := by
  have hl := partAt_len hr
  have h1 := skip_len _ _ _ _ hr
  rw [List.length_drop] at hl h1
  obtain ⟨-, g2, g3, g4⟩ := endOf_some s t z r hr
  have : z + (partAt s (t.drop z)).length = t.length - r.length := by omega
  rw [this]
  exact ⟨rfl, g2, by omega, by omega⟩
/-- what is put in is there -/
theorem put_at {s : Sg} {t p u : List Int} (h : (putE s t p u).2 = 0) : okT s t = true ∧ okT s u = true ∧ atE s (putE s t p u).1 p = (u, 0) := by
  by_cases hok : okT s t = true ∧ okT s u = true
  · cases hp : place s t p 0 with
    | none => rw [putE_8 hok hp] at h; cases h
    | some z =>
      by_cases hl : (putL s t u z).length ≤ 60
      · refine ⟨hok.1, hok.2, ?_⟩
        rw [putE_0 hok hp hl]
        show atE s (putL s t u z) p = (u, 0)
        obtain ⟨r', hr, -⟩ := (place_sub p (okT_skip0 hok.1)).1 z hp
        obtain ⟨e1, e2, e3, e4⟩ := part_split hr
        have hu := (okT_parts hok.2).2.2.2
        have htl : (t.take z).length = z := by rw [List.length_take]; omega
        have hc : (putL s t u z).take z = t.take z := by unfold putL; rw [List.take_append_of_le_length (by omega), List.take_of_length_le (by omega)]
        have hd : (putL s t u z).drop z = u ++ r' := by
          unfold putL
          rw [e2, List.drop_append_of_le_length (by omega), List.drop_of_length_le (by omega), List.nil_append]
        have hzc : z ≤ (putL s t u z).length := by unfold putL; rw [List.length_append]; omega
        obtain ⟨-, g2, g3⟩ := place_put (by omega) hzc hc hr hd hu p (okT_skip0 hok.1) hp
        rw [List.drop_zero] at g3
        have hokc : okT s (putL s t u z) = true := okT_of_skip (okT_parts hok.1).1 g3 hl
        rw [atE_some hokc g2, hd]
        have hs2 := skip_append s 1 u r' [] hu
        unfold partAt
        rw [hs2]; simp
      · rw [putE_4 hok hp hl] at h; cases h
  · rw [putE_1 hok] at h; cases h
/-- what is put into its own place changes nothing -/
theorem put_same {s : Sg} {t p : List Int} (h : (atE s t p).2 = 0) : putE s t p (atE s t p).1 = (t, 0) := by
  cases hx : okT s t with
  | false => rw [atE_no hx] at h; cases h
  | true =>
    cases hp : place s t p 0 with
    | none => rw [atE_none hx hp] at h; cases h
    | some z =>
      rw [atE_some hx hp]
      show putE s t p (partAt s (t.drop z)) = (t, 0)
      obtain ⟨r', hr, -⟩ := (place_sub p (okT_skip0 hx)).1 z hp
      obtain ⟨e1, e2, e3, e4⟩ := part_split hr
      have hpl : putL s t (partAt s (t.drop z)) z = t := by
        unfold putL
        rw [e2, ← (partAt_eq hr).1, List.take_append_drop]
      have hok := (okT_part hx hr).1
      rw [putE_0 ⟨hx, hok⟩ hp (by rw [hpl]; exact (okT_parts hx).2.2.1), hpl]
end Go.Proofs.Ytgkddhakhapjlaa

/- What unification makes of terms of valid logics, in plain words: renamed apart, unified, the canonical form; a hole in a term. No program is named. -/
namespace Go.Proofs.Ytgkddhakhapjlaa

/-- a put that goes well, written out -/
theorem put_form {s : Sg} {t p u : List Int} (h : (putE s t p u).2 = 0) : okT s t = true ∧ okT s u = true ∧ ∃ z r', place s t p 0 = some z ∧ (putE s t p u).1 = t.take z ++ (u ++ r') ∧ okT s (t.take z ++ (u ++ r')) = true ∧ t = t.take z ++ (partAt s (t.drop z) ++ r') ∧ okT s (partAt s (t.drop z)) = true ∧ t.drop (z + (partAt s (t.drop z)).length) = r' := by
  by_cases hok : okT s t = true ∧ okT s u = true
  · cases hp : place s t p 0 with
    | none => rw [putE_8 hok hp] at h; cases h
    | some z =>
      by_cases hl : (putL s t u z).length ≤ 60
      · rw [putE_0 hok hp hl]
        obtain ⟨r', hr, -⟩ := (place_sub p (okT_skip0 hok.1)).1 z hp
        obtain ⟨e1, e2, e3, e4⟩ := part_split hr
        have hu := (okT_parts hok.2).2.2.2
        have htl : (t.take z).length = z := by rw [List.length_take]; omega
        have hc : (putL s t u z).take z = t.take z := by unfold putL; rw [List.take_append_of_le_length (by omega), List.take_of_length_le (by omega)]
        have hd : (putL s t u z).drop z = u ++ r' := by
          unfold putL
          rw [e2, List.drop_append_of_le_length (by omega), List.drop_of_length_le (by omega), List.nil_append]
        have hzc : z ≤ (putL s t u z).length := by unfold putL; rw [List.length_append]; omega
        obtain ⟨-, g2, g3⟩ := place_put (by omega) hzc hc hr hd hu p (okT_skip0 hok.1) hp
        rw [List.drop_zero] at g3
        have hokc : okT s (putL s t u z) = true := okT_of_skip (okT_parts hok.1).1 g3 hl
        have hpl : putL s t u z = t.take z ++ (u ++ r') := by unfold putL; rw [e2]
        rw [hpl] at hokc
        refine ⟨hok.1, hok.2, z, r', rfl, hpl, hokc, ?_, (okT_part hok.1 hr).1, e2⟩
        rw [← (partAt_eq hr).1, List.take_append_drop]
      · rw [putE_4 hok hp hl] at h; cases h
  · rw [putE_1 hok] at h; cases h
/-- a term with a hole has as instances the term with anything in that place -/
theorem hole_inst {s : Sg} {t p u : List Int} {c : Int} (hc : c < 0) (hct : c ∉ t) (h1 : (putE s t p [c]).2 = 0) (h2 : (putE s t p u).2 = 0) :
    okT s (putE s t p [c]).1 = true ∧ okT s (putE s t p u).1 = true ∧ okT s t = true ∧ instB s (putE s t p [c]).1 (putE s t p u).1 = true ∧ instB s (putE s t p [c]).1 t = true := by
  obtain ⟨k1, -, z, r, hz, e1, o1, f1, p1, d1⟩ := put_form h1
  obtain ⟨-, k2, z', r', hz', e2, o2, f2, p2, d2⟩ := put_form h2
  rw [hz] at hz'
  cases hz'
  rw [d1] at d2
  subst d2
  have key : ∀ v : List Int, okT s v = true → instB s (t.take z ++ ([c] ++ r)) (t.take z ++ (v ++ r)) = true := by
    intro v hv
    refine instB_yes (η := fun n => if n = c then v else [n]) (fun n hn => ?_) ?_
    · show W1 s (if n = c then v else [n])
      split
      · exact okT_w1 hv
      · exact W1.var hn
    · have hid : ∀ l : List Int, c ∉ l → ap (fun n => if n = c then v else [n]) l = l := fun l hl => ap_id (fun n hn _ => if_neg (fun e => hl (by rw [← e]; exact hn)))
      rw [ap_append, ap_append, hid (t.take z) (fun hm => hct (List.mem_of_mem_take hm)), hid r (fun hm => hct (by rw [f1]; simp [hm])), ap_one hc, if_pos rfl]
  rw [e1, e2]
  refine ⟨o1, o2, k1, key u k2, ?_⟩
  have := key _ p1
  rw [← f1] at this
  exact this

/-- the variables of a term moved out of the way -/
def apN (n : Int) : Int := if n < 0 then n - 12 else n
def apartT (t : List Int) : List Int := t.map apN
theorem ap_apart {η : Int → List Int} {t : List Int} : ap η (apartT t) = ap (fun n => η (n - 12)) t := by
  induction t with
  | nil => rfl
  | cons n r ih =>
    show ap η (apN n :: apartT r) = _
    by_cases h : n < 0
    · rw [ap_neg h, apN, if_pos h, ap_neg (by omega), ih]
    · rw [ap_pos h, apN, if_neg h, ap_pos h, ih]
theorem apartT_eq (t : List Int) : apartT t = ap (fun n => [n - 12]) t := by
  induction t with
  | nil => rfl
  | cons n r ih =>
    show apN n :: apartT r = _
    by_cases h : n < 0
    · rw [ap_neg h, apN, if_pos h, ih]; rfl
    · rw [ap_pos h, apN, if_neg h, ih]
theorem apartT_w {s : Sg} {t : List Int} (h : W1 s t) : W1 s (apartT t) := by
  rw [apartT_eq]; exact h.ap (fun n hn => W1.var (by omega))
theorem apartT_len (t : List Int) : (apartT t).length = t.length := by unfold apartT; rw [List.length_map]
theorem okT_rg {s : Sg} {t : List Int} (h : okT s t = true) : ∀ n ∈ t, n < 0 → -12 ≤ n := fun n hn _ => (codeOk_bd (okT_parts h).1 (skip_codes s 1 t (okT_parts h).2.2.2 n hn)).1
theorem okT_Rg {s : Sg} {t : List Int} (h : okT s t = true) : Rg t := fun n hn h0 => by have := okT_rg h n hn h0; omega
theorem apartT_rg {s : Sg} {t : List Int} (h : okT s t = true) : Rg (apartT t) := fun n hn h0 => by
  unfold apartT at hn
  obtain ⟨m, hm, rfl⟩ := List.mem_map.1 hn
  unfold apN at h0 ⊢
  split
  · have := okT_rg h m hm ‹_›; omega
  · rename_i hh; rw [if_neg hh] at h0; omega
noncomputable def meetE (s : Sg) (a b : List Int) : List Int × Int := if okT s a = true ∧ okT s b = true then uniE s a (apartT b) a else ([], 1)
noncomputable def meetB (s : Sg) (a b : List Int) : Bool := okT s a && okT s b && uniB s a (apartT b)
noncomputable def unifB (s : Sg) (a b : List Int) : Bool := okT s a && okT s b && uniB s a b
theorem uniB_of_unified {s : Sg} {a b : List Int} (h : (∃ θ, IsMgu s a b θ)) : uniB s a b = true := by obtain ⟨θ, h⟩ := h; exact uniB_some h
end Go.Proofs.Ytgkddhakhapjlaa

/- Two terms that can be made equal have a most general unifier; what it makes of terms is valid; names of variables do not matter. No program is named. -/
namespace Go.Proofs.Ytgkddhakhapjlaa

theorem arW_le3 {s : Sg} (hok : okSign s = true) {n : Int} (h : n < s.length) : arW s n ≤ 3 := by
  by_cases h0 : n < 0
  · rw [arW_neg h0]; omega
  · obtain ⟨m, rfl⟩ := Int.eq_ofNat_of_zero_le (show 0 ≤ n by omega)
    have hm : m < s.length := by omega
    have h1 := okSign_ars hok m hm
    have h2 := arW_sym hm h1.1
    omega
theorem argsW_le3 {s : Sg} (hok : okSign s = true) {P : List Int} (h : W1 s P) : (argsW s P).length ≤ 3 := by
  cases P with
  | nil => exact (h.ne rfl).elim
  | cons n r => rw [h.args.1]; exact arW_le3 hok h.args.2.2.2
theorem last_snoc' {α : Type} (L : List α) : L = [] ∨ ∃ L0 e, L = L0 ++ [e] := by
  rcases List.eq_nil_or_concat L with rfl | ⟨L0, e, rfl⟩
  · exact .inl rfl
  · exact .inr ⟨L0, e, by rw [List.concat_eq_append]⟩
theorem mgu_run {s : Sg} (hok : okSign s = true) {a b : List Int} : ∀ (k : Nat) (B : Bd) (θ : Int → List Int) (ρ : Int → Nat) (L : Prs), St s a b k B θ ρ L → (∃ θ', IsMgu s a b θ') ∨ ∀ η, Wsub s η → ap η a ≠ ap η b := by
  intro k
  induction k with
  | zero =>
    intro B θ ρ L h
    have hL : L = [] := h.halts
    subst hL
    exact .inl ⟨θ, B, ρ, h.slv, h.eq.done⟩
  | succ k ih =>
    intro B θ ρ L h
    rcases last_snoc' L with rfl | ⟨L0, ⟨x, y⟩, rfl⟩
    · exact .inl ⟨θ, B, ρ, h.slv, h.eq.done⟩
    · have hrk : ∀ t : List Int, ∀ n r, t = n :: r → n < 0 → ρ n < ρ (t.headD 0) + 1 := fun t n r e _ => by rw [e]; simp
      obtain ⟨p, hp⟩ := Lkd.ex h.slv _ x (hrk x)
      obtain ⟨q, hq⟩ := Lkd.ex h.slv _ y (hrk y)
      have hN := h.nxt hp hq
      generalize (turned p q).1 = P at hN
      generalize (turned p q).2 = Q at hN
      by_cases h0 : P.headD 0 < 0
      · by_cases he : Q.headD 0 = P.headD 0
        · exact ih _ _ _ _ (hN.same h0 he)
        · by_cases ho : P.headD 0 ∈ ap θ Q
          · exact .inr (hN.occ h0 he ho)
          · obtain ⟨θ', ρ', h'⟩ := hN.bind h0 he ho
            exact ih _ _ _ _ h'
      · by_cases he : Q.headD 0 = P.headD 0
        · exact ih _ _ _ _ (hN.args (by omega) he (argsW_le3 hok hN.sP.w))
        · exact .inr (hN.clash (by omega) (fun e => he e.symm))
theorem mgu_ex {s : Sg} (hok : okSign s = true) {a b : List Int} (ha : W1 s a) (hb : W1 s b) (ra : Rg a) (rb : Rg b) {η : Int → List Int} (hw : Wsub s η) (he : ap η a = ap η b) : ∃ θ, IsMgu s a b θ := by
  obtain ⟨k, hk⟩ := St.start ha hb ra rb
  rcases mgu_run hok k _ _ _ _ hk with h | h
  · exact h
  · exact (h η hw he).elim
theorem uniB_iff {s : Sg} (hok : okSign s = true) {a b : List Int} (ha : W1 s a) (hb : W1 s b) (ra : Rg a) (rb : Rg b) : uniB s a b = true ↔ ∃ η, Wsub s η ∧ ap η a = ap η b := by
  constructor
  · intro h
    cases hm : mgu s a b with
    | none => unfold uniB at h; rw [hm] at h; cases h
    | some θ => exact ⟨θ, (mgu_some hm).th, (mgu_some hm).eq⟩
  · rintro ⟨η, hw, he⟩
    obtain ⟨θ, hθ⟩ := mgu_ex hok ha hb ra rb hw he
    exact uniB_some hθ
/-- the two ways of a unification -/
theorem uni_cases {s : Sg} (hok : okSign s = true) {a b : List Int} (ha : W1 s a) (hb : W1 s b) (ra : Rg a) (rb : Rg b) :
    (∃ θ, IsMgu s a b θ) ∨ ((∀ η, Wsub s η → ap η a ≠ ap η b) ∧ uniB s a b = false ∧ ∀ t, uniE s a b t = ([], 8)) := by
  by_cases h : ∃ η, Wsub s η ∧ ap η a = ap η b
  · obtain ⟨η, hw, he⟩ := h
    exact .inl (mgu_ex hok ha hb ra rb hw he)
  · have h' : ∀ η, Wsub s η → ap η a ≠ ap η b := fun η hw he => h ⟨η, hw, he⟩
    exact .inr ⟨h', uniB_none h', uniE_none h'⟩
/-- renamed: a, b, t by one substitution that another one takes back -/
theorem uniE_turn {s : Sg} (hok : okSign s = true) {a b t a' b' t' : List Int} {σ τ : Int → List Int} (hσ : Wsub s σ) (hτ : Wsub s τ) (ha : W1 s a) (hb : W1 s b) (ra : Rg a) (rb : Rg b) (ha' : W1 s a') (hb' : W1 s b') (ra' : Rg a') (rb' : Rg b')
    (e1 : ap σ a = a') (e2 : ap σ b = b') (e3 : ap σ t = t') (f1 : ap τ a' = a) (f2 : ap τ b' = b) (f3 : ap τ t' = t) : uniE s a b t = uniE s a' b' t' ∧ uniB s a b = uniB s a' b' := by
  have cmp : ∀ {η ξ : Int → List Int}, Wsub s η → Wsub s ξ → Wsub s (fun n => ap ξ (η n)) := fun h1 h2 n hn => (h1 n hn).ap h2
  rcases uni_cases hok ha hb ra rb with ⟨θ, hθ⟩ | ⟨h1, h2, h3⟩
  · have w1 := cmp hτ hθ.th
    have q1 : ap (fun n => ap θ (τ n)) a' = ap (fun n => ap θ (τ n)) b' := by rw [← ap_ap, ← ap_ap, f1, f2]; exact hθ.eq
    obtain ⟨θ', hθ'⟩ := mgu_ex hok ha' hb' ra' rb' w1 q1
    have w2 := cmp hσ hθ'.th
    have q2 : ap (fun n => ap θ' (σ n)) a = ap (fun n => ap θ' (σ n)) b := by rw [← ap_ap, ← ap_ap, e1, e2]; exact hθ'.eq
    rw [uniE_some hθ, uniE_some hθ', uniB_some hθ, uniB_some hθ']
    have g1 := hθ.most w2 q2 t
    have k1 : ap (fun n => ap θ' (σ n)) (ap θ t) = ap θ' t' := by rw [g1, ← ap_ap, e3]
    have k2 : ap (fun n => ap θ (τ n)) (ap θ' t') = ap θ t := by
      have := hθ'.most w1 q1 t'
      rw [this, ← ap_ap, f3]
    obtain ⟨c1, c2, c3⟩ := canon_two w1 w2 k1 k2
    exact ⟨by unfold madeE; rw [c1, c2, c3], rfl⟩
  · have h' : ∀ η, Wsub s η → ap η a' ≠ ap η b' := fun η hw he => h1 _ (cmp hσ hw) (by rw [← ap_ap, ← ap_ap, e1, e2]; exact he)
    rw [h2, h3 t, uniB_none h', uniE_none h' t']
    exact ⟨rfl, rfl⟩

theorem skip_of_skw {s : Sg} : ∀ {k : Nat} {l r : List Int}, (∀ n ∈ l, n < 0 → -12 ≤ n) → skw s k l = some r → skip s k l = some r
  | 0, l, r, _, h => by rw [skw_zero] at h; rw [skip_zero]; exact h
  | k + 1, [], r, _, h => by simp [skw_nil] at h
  | k + 1, n :: l, r, hr, h => by
    rw [skw_cons] at h
    split at h
    · rename_i hc
      have hn := hr n (by simp)
      have hco : codeOk s n = true := by
        unfold cw at hc
        simp only [decide_eq_true_eq] at hc
        unfold codeOk
        simp only [Bool.or_eq_true, decide_eq_true_eq]
        omega
      rw [skip_cons, if_pos hco, (codeOk_w hco).2]
      exact skip_of_skw (fun m hm => hr m (by simp [hm])) h
    · cases h
theorem okT_of_w1 {s : Sg} {t : List Int} (hok : okSign s = true) (h : W1 s t) (hl : t.length ≤ 60) (hr : ∀ n ∈ t, n < 0 → -12 ≤ n) : okT s t = true := okT_of_skip hok (skip_of_skw hr h) hl
theorem canon_ap (t : List Int) : canon t = ap (fun n => [canonW (varsC t) n]) t := by
  unfold canon
  generalize varsC t = v
  induction t with
  | nil => rfl
  | cons n r ih =>
    rw [List.map_cons, ih]
    by_cases h : n < 0
    · rw [ap_neg h]; rfl
    · rw [ap_pos h, canonW_pos (by omega)]
theorem canon_w {s : Sg} {t : List Int} (h : W1 s t) : W1 s (canon t) := by
  rw [canon_ap]
  exact h.ap (fun n hn => W1.var (canonW_lt hn))
theorem canon_len (t : List Int) : (canon t).length = t.length := by unfold canon; rw [List.length_map]
/-- the canonical form is undone by putting the names back -/
theorem canon_back {s : Sg} (t : List Int) : ∃ τ, Wsub s τ ∧ ap τ (canon t) = t := by
  refine ⟨fun n => [if n < 0 then (varsC t).getD (-n - 1).toNat (-1) else n], fun n hn => ?_, ?_⟩
  · refine W1.var ?_
    rw [if_pos hn, List.getD_eq_getElem?_getD]
    cases h : (varsC t)[(-n - 1).toNat]? with
    | none => simp
    | some x => exact varsC_neg x (List.mem_of_getElem? h)
  · rw [canon_ap, ap_ap]
    refine ap_id (fun n hn h0 => ?_)
    have hm : n ∈ varsC t := mem_varsC.2 ⟨hn, h0⟩
    have hc := canonW_neg (v := varsC t) h0
    have hlt := canonW_lt (v := varsC t) h0
    rw [ap_one hlt, if_pos hlt]
    have hi := List.idxOf_lt_length_of_mem hm
    have : (-(canonW (varsC t) n) - 1).toNat = (varsC t).idxOf n := by rw [hc]; omega
    rw [this, List.getD_eq_getElem?_getD, List.getElem?_eq_getElem hi]
    simp
theorem canon_rg {t : List Int} (h : (varsC t).length ≤ 12) : ∀ n ∈ canon t, n < 0 → -12 ≤ n := by
  intro n hn h0
  unfold canon at hn
  obtain ⟨m, hm, rfl⟩ := List.mem_map.1 hn
  by_cases hm0 : m < 0
  · have hi := List.idxOf_lt_length_of_mem (mem_varsC.2 ⟨hm, hm0⟩)
    rw [canonW_neg hm0]; omega
  · rw [canonW_pos (by omega)] at h0; omega
theorem madeE_ok {s : Sg} {θ : Int → List Int} {t : List Int} (hok : okSign s = true) (hθ : Wsub s θ) (ht : W1 s t) (h : (madeE θ t).2 = 0) :
    okT s (madeE θ t).1 = true ∧ (madeE θ t).1 = canon (ap θ t) := by
  unfold madeE at h ⊢
  split
  · rename_i hc
    exact ⟨okT_of_w1 hok (canon_w (ht.ap hθ)) (by rw [canon_len]; exact hc.1) (canon_rg hc.2), rfl⟩
  · rename_i hc; rw [if_neg hc] at h; cases h
/-- what an instance of a renamed term makes of a -/
theorem meet_inst {s : Sg} {a j : List Int} (ha : okT s a = true) (hj : okT s j = true) {η : Int → List Int} (hw : Wsub s η) (he : ap η j = a) : meetE s a j = (canon a, 0) := by
  have hok := (okT_parts ha).1
  unfold meetE
  rw [if_pos ⟨ha, hj⟩]
  have hθ0 : Wsub s (fun n => if n < -12 then η (n + 12) else [n]) := fun n hn => by
    show W1 s (if n < -12 then η (n + 12) else [n])
    split
    · exact hw _ (by omega)
    · exact W1.var hn
  have e1 : ap (fun n => if n < -12 then η (n + 12) else [n]) a = a := ap_id (fun n hn h0 => if_neg (by have := okT_rg ha n hn h0; omega))
  have e2 : ap (fun n => if n < -12 then η (n + 12) else [n]) (apartT j) = a := by
    rw [ap_apart, ← he]
    refine ap_congr (fun n _ h0 => ?_)
    rw [if_pos (by omega)]; congr 1; omega
  obtain ⟨θ, hθ⟩ := mgu_ex hok (okT_w1 ha) (apartT_w (okT_w1 hj)) (okT_Rg ha) (apartT_rg hj) hθ0 (e1.trans e2.symm)
  have k := hθ.most hθ0 (e1.trans e2.symm) a
  rw [e1] at k
  obtain ⟨c1, c2, c3⟩ := canon_two hθ0 hθ.th (u1 := a) (u2 := ap θ a) rfl k
  rw [uniE_some hθ]
  unfold madeE
  rw [← c1, ← c2, ← c3, if_pos ⟨(okT_parts ha).2.2.1, varsC_le12 (skip_codes s 1 a (okT_parts ha).2.2.2)⟩]
end Go.Proofs.Ytgkddhakhapjlaa

/- Walks of package unify: solved, apart, Meets, Unifiable. -/
namespace Go.Proofs.Ytgkddhakhapjlaa
open Go Go.RowKit Go.Maps

def apRel (t : List Int) (w : World) (B0 g cap : Nat) (i : Value) (wr : World) : Prop :=
  ∃ k : Nat, i = .int .i64 k ∧ k ≤ t.length ∧ OwnI wr B0 (.slice (some ⟨g, 0, none⟩) t.length cap) (doneTo apN t k) ∧ Below w.heap.size w wr
set_option maxHeartbeats 1000000 in
theorem apart_any {S : Nat → Prop} (a : Option Addr) (c : Nat) (t : List Int) (w : World) (h : Ints S w a c t) (hl : t.length ≤ lim) (hne : t ≠ []) (hr : ∀ x ∈ t, x < 0 → -12 ≤ x) :
    Calls Try.prog 20 #[.slice a t.length c] w (retOwn w (apartT t)) := by
  have m := h.le
  have cc := Clone_any a c t w h hl
  have ccH := Lib.hid cc
  have hrH := Lib.hid hr
  clear cc hr
  go_enter Try.func20, Try.ntmps20
  go_wp2_with fail
  refine ccH.out.mono ?_
  rintro e w1 ⟨v, rfl, ho, hB⟩
  obtain ⟨g, cap, rfl, hg1, hg2⟩ := ho.form hne
  clear ccH
  go_wp2_with fail
  go_loopw [10] (fun i wr => apRel t w w.heap.size g cap i wr) (fun i _ => t.length - (intOf i).toNat)
  case atStart => exact ⟨0, rfl, Nat.zero_le _, by rw [doneTo_zero]; exact ho, hB⟩
  case round =>
    obtain ⟨k, rfl, hk, ho, hB⟩ := hrel
    by_cases hlt : k < t.length
    · obtain ⟨b, o, rfl, -, q, hrg⟩ := (h.below hB).int k hlt
      have hxr := hrH.out t[k] (List.getElem_mem hlt)
      have hset := doneTo_set hlt (f := apN)
      have hsame := doneTo_same hlt (f := apN)
      have hget := doneTo_get hlt (f := apN)
      obtain ⟨hc1, hf1⟩ := ho.cellInt (by rw [doneTo_length]) k (by rw [doneTo_length]; exact hlt)
      rw [hget] at hc1
      obtain ⟨x, hx⟩ : ∃ x, t[k] = x := ⟨_, rfl⟩
      rw [hx] at q hrg hset hsame hc1 hxr
      clear hget hx
      by_cases h0 : x < 0
      · have hx12 := hxr h0
        have hap : apN x = x - 12 := by unfold apN; exact if_pos h0
        rw [hap] at hset
        have hsub : IntKind.i64.wrap (x - 12) = x - 12 := IntWalk.i64_in _ (by omega)
        obtain ⟨ho2, hg3⟩ := ho.setInt (by rw [doneTo_length]) k (x - 12) (by unfold inRange; omega)
        rw [hset] at ho2
        have hoH := Lib.hid ho2
        have hBH := Lib.hid (hB.grown hg3 hB.size (fun j e => by cases e; omega))
        clear ho ho2 hset hsame hg3 hap hxr
        go_wp2_with fail
        go_roundw
        case rel => exact ⟨k + 1, by go_num, by omega, hoH.out, hBH.out⟩
        case measure => simp [intOf]; omega
      · have hs2 := hsame (by unfold apN; exact if_neg h0)
        have hoH := Lib.hid ho
        have hsH := Lib.hid hs2
        clear ho hset hsame hs2 hxr
        go_wp2_with fail
        go_roundw
        case rel => exact ⟨k + 1, by go_num, by omega, by rw [← hsH.out]; exact hoH.out, hB⟩
        case measure => simp [intOf]; omega
    · rw [doneTo_all _ _ _ (by omega)] at ho
      have hoH := Lib.hid ho
      clear ho
      go_wp2_with fail
      go_ret
      exact ⟨_, rfl, hoH.out, hB⟩

def solvedRet (w : World) (a1 : Option Addr) (c1 : Nat) (s : Sg) (a b : List Int) (e : Ending) (w' : World) : Prop :=
  ∃ xb mb r, e = .returned (.tuple #[.pointer (some ⟨xb, 0, none⟩), .bool r]) ∧ Below w.heap.size w w' ∧ (r = false → ∀ η, Wsub s η → ap η a ≠ ap η b) ∧
    (r = true → ∃ B θ ρ n, Slv s B θ ρ ∧ RgB B ∧ IsMgu s a b θ ∧ SolvW w w' xb mb n a1 c1 s B)
set_option maxHeartbeats 1000000 in
theorem solved_any {S1 S2 S3 : Nat → Prop} (a1 a2 a3 : Option Addr) (c1 c2 c3 : Nat) (s : Sg) (a b : List Int) (w : World) (h1 : Sign S1 w a1 c1 s) (h2 : Ints S2 w a2 c2 a) (h3 : Ints S3 w a3 c3 b) (hok : okSign s = true)
    (ha : W1 s a) (hb : W1 s b) (ra : Rg a) (rb : Rg b) (la : a.length ≤ 1000) (lb : b.length ≤ 1000) :
    Calls Try.prog 19 #[.slice a1 s.length c1, .slice a2 a.length c2, .slice a3 b.length c3] w (solvedRet w a1 c1 s a b) := by
  have hmm := @run_makeMap Try.prog
  have h1' : Sign (fun b => b < w.heap.size) w a1 c1 s := h1.lt.weak (fun _ h => h.2)
  have h2' : T0 w a2 c2 a := h2.lt.weak (fun _ h => h.2)
  have h3' : T0 w a3 c3 b := h3.lt.weak (fun _ h => h.2)
  have m2 := h2.le
  have m3 := h3.le
  obtain ⟨W, hW⟩ : ∃ W, (w.alloc (.map #[] 0)).alloc (.cells #[.slice a1 s.length c1, .map (some w.heap.size)] 66) = W := ⟨_, rfl⟩
  have hbW : Below w.heap.size w W := by rw [← hW]; exact below2 _ _ _
  have k0 : W.cell? ⟨w.heap.size + 1, 0, none⟩ = some (.slice a1 s.length c1) := by rw [← hW]; clear hW; go_simp
  have k1 : W.cell? ⟨w.heap.size + 1, 1, none⟩ = some (.map (some w.heap.size)) := by rw [← hW]; clear hW; go_simp
  have hmap : BdMap w W w.heap.size 0 (fun _ => none) := by
    rw [← hW]; exact (BdMap.made w w).below (below1 _ _) (by simp)
  have hS : SolvW w W (w.heap.size + 1) w.heap.size 0 a1 c1 s (fun _ => none) := ⟨k0, k1, hmap, Nat.le_succ _, Nat.le_refl _, by omega, h1', hbW, fun _ _ h => by cases h⟩
  have cs := solve_any hok hS h2' h3' ha hb ra rb la lb
  have csH := Lib.hid cs
  have hWH := Lib.hid hW
  clear cs hS hmap k0 k1 hbW hW h1 h2 h3 h1' h2' h3'
  go_enter Try.func19, Try.ntmps19
  go_wp2_with fail
  rw [hWH.out]
  refine csH.out.mono ?_
  rintro e w1 ⟨r, rfl, hB, hf, ht⟩
  have hBH := Lib.hid hB
  have hfH := Lib.hid hf
  have htH := Lib.hid ht
  clear hB hf ht
  go_wp2_with fail
  go_ret2
  exact ⟨_, _, r, rfl, hBH.out, hfH.out, fun h => by obtain ⟨B, θ, ρ, n, g1, g2, g3, g4, -⟩ := htH.out h; exact ⟨B, θ, ρ, n, g1, g2, ⟨B, ρ, g1, g3⟩, g4⟩⟩
theorem solved_uniB {w w' : World} {a1 : Option Addr} {c1 xb mb : Nat} {s : Sg} {a b : List Int} {r : Bool} (hf : r = false → ∀ η, Wsub s η → ap η a ≠ ap η b) (ht : r = true → ∃ B θ ρ n, Slv s B θ ρ ∧ RgB B ∧ IsMgu s a b θ ∧ SolvW w w' xb mb n a1 c1 s B) : r = uniB s a b := by
  cases r with
  | false => exact (uniB_none (hf rfl)).symm
  | true => obtain ⟨B, θ, ρ, n, -, -, h, -⟩ := ht rfl; exact (uniB_some h).symm

set_option maxHeartbeats 1000000 in
theorem Unifiable_any {S1 S2 S3 : Nat → Prop} (a1 a2 a3 : Option Addr) (c1 c2 c3 : Nat) (s : Sg) (a b : List Int) (w : World) (h1 : Sign S1 w a1 c1 s) (h2 : Ints S2 w a2 c2 a) (h3 : Ints S3 w a3 c3 b) :
    Calls Try.prog 14 #[.slice a1 s.length c1, .slice a2 a.length c2, .slice a3 b.length c3] w fun e w' => e = .returned (.bool (unifB s a b)) ∧ Below w.heap.size w w' := by
  have m2 := h2.le
  have m3 := h3.le
  have v1 := Valid_any a1 a2 c1 c2 s a w h1 h2
  have v2 := fun W (hb : Below w.heap.size w W) => Valid_any a1 a3 c1 c3 s b W (h1.below hb) (h3.below hb)
  have v3 : okT s a = true → okT s b = true → ∀ W, Below w.heap.size w W → _ := fun e1 e2 W hb => solved_any a1 a2 a3 c1 c2 c3 s a b W (h1.below hb) (h2.below hb) (h3.below hb) (okT_parts e1).1 (okT_w1 e1) (okT_w1 e2) (okT_Rg e1) (okT_Rg e2) (by have := (okT_parts e1).2.2.1; omega) (by have := (okT_parts e2).2.2.1; omega)
  unfold unifB
  generalize okT s a = x at *
  generalize okT s b = y at *
  have v1H := Lib.hid v1
  have v2H := Lib.hid v2
  have v3H := Lib.hid v3
  clear v1 v2 v3 h1 h2 h3
  cases x with
  | false =>
    go_enter Try.func14, Try.ntmps14
    go_wp2_with (go_at_call 15; refine v1H.out.mono ?_; rintro e w1 ⟨rfl, hb1⟩)
    go_ret
    exact ⟨rfl, hb1⟩
  | true =>
    cases y with
    | false =>
      go_enter Try.func14, Try.ntmps14
      go_wp2_with fail
      refine v1H.out.mono ?_
      rintro e w1 ⟨rfl, hb1⟩
      go_wp2_with fail
      refine (v2H.out _ hb1).mono ?_
      rintro e w2 ⟨rfl, hb2⟩
      go_wp2_with fail
      go_ret
      exact ⟨rfl, bcall hb1 hb2⟩
    | true =>
      go_enter Try.func14, Try.ntmps14
      go_wp2_with fail
      refine v1H.out.mono ?_
      rintro e w1 ⟨rfl, hb1⟩
      go_wp2_with fail
      refine (v2H.out _ hb1).mono ?_
      rintro e w2 ⟨rfl, hb2⟩
      have hbb := bcall hb1 hb2
      go_wp2_with fail
      refine (v3H.out trivial trivial _ hbb).mono ?_
      rintro e w3 ⟨xb, mb, r, rfl, hb3, hf, ht⟩
      have hrH := Lib.hid (solved_uniB hf ht)
      clear hf ht
      go_wp2_with fail
      go_ret
      exact ⟨by rw [hrH.out]; simp, bcall hbb hb3⟩

set_option maxHeartbeats 1000000 in
theorem Meets_any {S1 S2 S3 : Nat → Prop} (a1 a2 a3 : Option Addr) (c1 c2 c3 : Nat) (s : Sg) (a b : List Int) (w : World) (h1 : Sign S1 w a1 c1 s) (h2 : Ints S2 w a2 c2 a) (h3 : Ints S3 w a3 c3 b) :
    Calls Try.prog 13 #[.slice a1 s.length c1, .slice a2 a.length c2, .slice a3 b.length c3] w fun e w' => e = .returned (.bool (meetB s a b)) ∧ Below w.heap.size w w' := by
  have m2 := h2.le
  have m3 := h3.le
  have v1 := Valid_any a1 a2 c1 c2 s a w h1 h2
  have v2 := fun W (hb : Below w.heap.size w W) => Valid_any a1 a3 c1 c3 s b W (h1.below hb) (h3.below hb)
  have v4 : okT s b = true → ∀ W, Below w.heap.size w W → _ := fun e2 W hb => apart_any a3 c3 b W (h3.below hb) (by have := (okT_parts e2).2.2.1; unfold lim; omega) (okT_ne e2) (okT_rg e2)
  have v3 : okT s a = true → okT s b = true → ∀ W, Below w.heap.size w W → ∀ (T : Nat → Prop) a4 c4, Ints T W a4 c4 (apartT b) → _ := fun e1 e2 W hb T a4 c4 hi => solved_any a1 a2 a4 c1 c2 c4 s a (apartT b) W (h1.below hb) (h2.below hb) hi (okT_parts e1).1 (okT_w1 e1) (apartT_w (okT_w1 e2)) (okT_Rg e1) (apartT_rg e2) (by have := (okT_parts e1).2.2.1; omega) (by rw [apartT_len]; have := (okT_parts e2).2.2.1; omega)
  unfold meetB
  have hal := apartT_len b
  generalize okT s a = x at *
  generalize okT s b = y at *
  have v1H := Lib.hid v1
  have v2H := Lib.hid v2
  have v3H := Lib.hid v3
  have v4H := Lib.hid v4
  have halH := Lib.hid hal
  clear v1 v2 v3 v4 h1 h2 h3 hal
  cases x with
  | false =>
    go_enter Try.func13, Try.ntmps13
    go_wp2_with (go_at_call 15; refine v1H.out.mono ?_; rintro e w1 ⟨rfl, hb1⟩)
    go_ret
    exact ⟨rfl, hb1⟩
  | true =>
    cases y with
    | false =>
      go_enter Try.func13, Try.ntmps13
      go_wp2_with fail
      refine v1H.out.mono ?_
      rintro e w1 ⟨rfl, hb1⟩
      go_wp2_with fail
      refine (v2H.out _ hb1).mono ?_
      rintro e w2 ⟨rfl, hb2⟩
      go_wp2_with fail
      go_ret
      exact ⟨rfl, bcall hb1 hb2⟩
    | true =>
      go_enter Try.func13, Try.ntmps13
      go_wp2_with fail
      refine v1H.out.mono ?_
      rintro e w1 ⟨rfl, hb1⟩
      go_wp2_with fail
      refine (v2H.out _ hb1).mono ?_
      rintro e w2 ⟨rfl, hb2⟩
      have hbb := bcall hb1 hb2
      clear hb1 hb2
      go_wp2_with fail
      refine (v4H.out trivial _ hbb).mono ?_
      rintro e w3 ⟨v, rfl, ho, hb3⟩
      obtain ⟨a4, c4, rfl, hI⟩ := OwnI.ints ho
      have hbb := bcall hbb hb3
      clear hb3 ho
      go_wp2_with fail
      refine (v3H.out trivial trivial _ hbb _ _ _ hI).mono ?_
      rintro e w4 ⟨xb, mb, r, rfl, hb3, hf, ht⟩
      have hrH := Lib.hid (solved_uniB hf ht)
      clear hf ht
      go_wp2_with fail
      go_ret
      exact ⟨by rw [hrH.out]; simp, bcall hbb hb3⟩
end Go.Proofs.Ytgkddhakhapjlaa

/- Walks of package unify: code, named. -/
namespace Go.Proofs.Ytgkddhakhapjlaa
open Go Go.RowKit Go.Maps

theorem code_any (v : Int) (w : World) (h0 : 0 ≤ v) (h1 : v ≤ 1000000) : Calls Try.prog 35 #[.int .i64 v] w fun e w' => e = .returned (.int .i64 (-v - 1)) ∧ w = w' := by
  have e1 : IntKind.i64.wrap (-v) = -v := IntWalk.i64_in _ (by omega)
  have e2 : IntKind.i64.wrap (-v - 1) = -v - 1 := IntWalk.i64_in _ (by omega)
  go_enter Try.func35, Try.ntmps35
  go_wp2_with fail
  go_ret
  exact ⟨rfl, rfl⟩

def namRel (t : List Int) (w : World) (out i : Value) (wr : World) : Prop :=
  ∃ k : Nat, i = .int .i64 k ∧ k ≤ t.length ∧ IMap Try.prog 3 3 wr w.heap.size (varsC (t.take k)).length (nameF t k) ∧ OwnI wr (w.heap.size + 1) out ((t.take k).map (canonW (varsC t))) ∧ Below w.heap.size w wr
theorem nam_push {w : World} {base : Nat} {v : Value} {l : List Int} (ho : OwnI w base v l) (x : Int) (hx : inRange x) (hl : l.length ≤ 10000000) (hb : base ≤ w.heap.size) :
    ∃ v' w', RowKit.Hid ((Builtin.append_ #[25, 25] 25 #[v, .slice (some ⟨w.heap.size, 0, none⟩) 1 1]).run Try.prog (w.alloc (.cells #[.int .i64 x] 3)) = .ok v' w') ∧ RowKit.Hid (OwnI w' base v' (l ++ [x])) ∧ RowKit.Hid (w.grownBy w' v.ownBlock) := by
  obtain ⟨v', w', hrun, ho', hg, -⟩ := ho.push (P := Try.prog) (t := 25) (ty := 25) Try.underlying25 infoInt rfl (vs := [.int .i64 x]) (x := x) ⟨rfl, hx⟩ (by omega) (by unfold big; omega) hb
  exact ⟨v', w', Lib.hid hrun, Lib.hid ho', Lib.hid hg⟩
set_option maxHeartbeats 2000000 in
theorem named_any {S : Nat → Prop} (a : Option Addr) (c : Nat) (t : List Int) (w : World) (h : Ints S w a c t) (hl : t.length ≤ lim) :
    Calls Try.prog 22 #[.slice a t.length c] w fun e w' => ∃ v, e = .returned (.tuple #[v, .bool (decide ((varsC t).length ≤ 12))]) ∧ OwnI w' w.heap.size v (canon t) ∧ Below w.heap.size w w' := by
  have m := h.le
  have hmm := @run_makeMap Try.prog
  have hlH := Lib.hid hl
  have hl6 : t.length ≤ 1000000 := hl
  go_enter Try.func22, Try.ntmps22
  go_wp2_with fail
  go_loopw [5, 13] (fun out i wr => namRel t w out i wr) (fun _ i _ => t.length - (intOf i).toNat)
  case atStart => exact ⟨0, rfl, Nat.zero_le _, by rw [nameF_zero]; exact IMap.made w, .nil _ _ _ _ _, below1 _ _⟩
  case round =>
    obtain ⟨k, rfl, hk, hm, ho, hB⟩ := hrel
    have hol : ((t.take k).map (canonW (varsC t))).length ≤ 10000000 := by rw [List.length_map, List.length_take]; omega
    have hmlt := hm.lt
    by_cases hlt : k < t.length
    · obtain ⟨b, o, rfl, -, q, hrg⟩ := (h.below hB).int k hlt
      have hstep : (t.take (k + 1)).map (canonW (varsC t)) = (t.take k).map (canonW (varsC t)) ++ [canonW (varsC t) t[k]] := by rw [List.take_succ_eq_append_getElem hlt, List.map_append]; rfl
      have hne : ∀ q, u5.ownBlock = some q → w.heap.size < q := fun q hq => by have := (OwnL.lt ho q hq).1; omega
      obtain ⟨x, hx⟩ : ∃ x, t[k] = x := ⟨_, rfl⟩
      rw [hx] at q hrg hstep
      have hxH := Lib.hid hx
      clear hx
      have hkeep : ∀ {W W' : World} {n f}, IMap Try.prog 3 3 W w.heap.size n f → W.grownBy W' u5.ownBlock → IMap Try.prog 3 3 W' w.heap.size n f := fun hm hg => hm.same (hg.block _ hm.lt (fun e => by have := hne _ e.symm; omega))
      by_cases h0 : 0 ≤ x
      · obtain ⟨hf1, hf2⟩ := nameF_old hlt (.inl (by rw [hxH.out]; exact h0))
        rw [canonW_pos h0] at hstep
        obtain ⟨v', w', hrun, ho', hg⟩ := nam_push ho x hrg hol (by omega)
        have hrun2 := hrun.out
        have hstH := Lib.hid hstep
        have hmH := Lib.hid (hkeep hm hg.out)
        have hBH := Lib.hid (hB.grown hg.out hB.size (fun j e => by have := hne _ e; omega))
        have hfH := Lib.hid hf1
        have hf2H := Lib.hid hf2
        have hx0 : ¬ x < 0 := by omega
        clear hm ho hf1 hf2 h hg hstep hkeep hne
        go_wp2_with (at_builtin; refine wpList_append_run rfl _ _ _ rfl rfl rfl hrun2 ?_)
        clear hrun2
        go_roundw
        case rel => exact ⟨k + 1, by go_num, by omega, by rw [hfH.out, hf2H.out]; exact hmH.out, by rw [hstH.out]; exact ho'.out, hBH.out⟩
        case measure => simp [intOf]; omega
      · have hneg : x < 0 := by omega
        have hlook := hm.look_ok (tm := 67) Try.underlying67 Try.underlying3 Try.underlying3 (zInt wr) x hrg
        have hcr := canonW_range (t := t) hrg hl
        by_cases hv : x ∈ varsC (t.take k)
        · have hval := nameF_canonW hv
          have hlook2 := hm.look (tm := 67) Try.underlying67 Try.underlying3 Try.underlying3 (zInt wr) x hrg
          rw [hval] at hlook hlook2
          simp only [Option.getD_some, Option.isSome_some] at hlook hlook2
          obtain ⟨hf1, hf2⟩ := nameF_old hlt (.inr (by rw [hxH.out]; exact hv))
          obtain ⟨y, hy⟩ : ∃ y, canonW (varsC t) x = y := ⟨_, rfl⟩
          rw [hy] at hlook hlook2 hcr hstep
          obtain ⟨v', w', hrun, ho', hg⟩ := nam_push ho y hcr hol (by omega)
          have hrun2 := hrun.out
          have hstH := Lib.hid hstep
          have hmH := Lib.hid (hkeep hm hg.out)
          have hBH := Lib.hid (hB.grown hg.out hB.size (fun j e => by have := hne _ e; omega))
          have hfH := Lib.hid hf1
          have hf2H := Lib.hid hf2
          clear hm ho hf1 hf2 h hg hstep hkeep hne hval hv hy
          go_wp2_with (at_builtin; refine wpList_append_run rfl _ _ _ rfl rfl rfl hrun2 ?_)
          clear hrun2
          go_roundw
          case rel => exact ⟨k + 1, by go_num, by omega, by rw [hfH.out, hf2H.out]; exact hmH.out, by rw [hstH.out]; exact ho'.out, hBH.out⟩
          case measure => simp [intOf]; omega
        · obtain ⟨hf1, hf2⟩ := nameF_new hlt (by rw [hxH.out]; exact hneg) (by rw [hxH.out]; exact hv)
          rw [hxH.out] at hf1
          have hnone : nameF t k x = none := by unfold nameF; rw [if_neg hv]
          have hxin : x ∈ varsC (t.take (k + 1)) := by rw [varsC_take_succ hlt, hxH.out, addV, if_pos ⟨hneg, hv⟩]; simp
          have hval := nameF_canonW hxin
          obtain ⟨y, hy⟩ : ∃ y, canonW (varsC t) x = y := ⟨_, rfl⟩
          obtain ⟨n, hn⟩ : ∃ n, (varsC (t.take k)).length = n := ⟨_, rfl⟩
          have hn1 : n ≤ t.length := by have := varsC_length (t.take k); simp at this; omega
          rw [hy] at hval hcr hstep
          rw [hn] at hf1 hf2 hm
          have hyn : y = -(n : Int) - 1 := by
            have h1 := hval
            rw [hf1] at h1
            simp at h1; omega
          rw [hnone] at hlook
          simp only [Option.getD_none, Option.isSome_none] at hlook
          have hlen := hm.len (tm := 67) Try.underlying67 3
          obtain ⟨w2, hst, hm2, hg2⟩ := hm.store (tm := 67) Try.underlying67 Try.underlying3 Try.underlying3 (by unfold maxLen; omega) x hrg y hcr hnone
          rw [hyn] at hst
          have hfe : (fun z => if z = x then some y else nameF t k z) = nameF t (k + 1) := by rw [hf1, hyn]
          rw [hfe] at hm2
          have hlook2 := hm2.look (tm := 67) Try.underlying67 Try.underlying3 Try.underlying3 (zInt w2) x hrg
          rw [hval] at hlook2
          simp only [Option.getD_some] at hlook2
          rw [hyn] at hlook2 hstep hcr
          have ho2 := OwnL.grown ho hg2 (fun q hq e => by cases e; have := hne _ hq; omega) (fun b hb _ => hb.elim)
          have hB2 := hB.grown hg2 hB.size (fun j e => by cases e; exact Nat.le_refl _)
          obtain ⟨v', w', hrun, ho', hg⟩ := nam_push ho2 (-(n : Int) - 1) hcr hol (Nat.le_trans (show w.heap.size + 1 ≤ wr.heap.size by omega) hg2.size)
          have hrun2 := hrun.out
          have hcode := fun W => code_any (n : Int) W (by omega) (by omega)
          have hstH := Lib.hid hstep
          have hmH := Lib.hid (hkeep hm2 hg.out)
          have hBH := Lib.hid (hB2.grown hg.out hB2.size (fun j e => by have := hne _ e; omega))
          have hf2H := Lib.hid hf2
          have hcodeH := Lib.hid hcode
          clear hm ho hf1 hf2 h hg hstep hkeep hne hval hv hy hm2 ho2 hB2 hfe hnone hxin hyn hg2 hn hcode
          go_wp2_with (first | (go_at_call 35; refine (hcodeH.out _).mono ?_; rintro e w9 ⟨rfl, rfl⟩) | (at_builtin; refine wpList_append_run rfl _ _ _ rfl rfl rfl hrun2 ?_))
          clear hrun2
          go_roundw
          case rel => exact ⟨k + 1, by go_num, by omega, by rw [hf2H.out]; exact hmH.out, by rw [hstH.out]; exact ho'.out, hBH.out⟩
          case measure => simp [intOf]; omega
    · have hfull : t.take k = t := List.take_of_length_le (by omega)
      rw [hfull] at hm ho
      have hlen := hm.len (tm := 67) Try.underlying67 3
      have hoH := Lib.hid (OwnL.baseMono (base' := w.heap.size) ho (by omega))
      obtain ⟨n, hn⟩ : ∃ n, (varsC t).length = n := ⟨_, rfl⟩
      rw [hn] at hlen
      have hnH := Lib.hid hn
      clear hm ho h hn hfull hmlt hol
      by_cases h12 : n ≤ 12
      · have h12b : decide ((n : Int) ≤ 12) = true := by simp; omega
        go_wp2_with fail
        go_ret2
        exact ⟨_, by rw [hnH.out, decide_eq_true h12]; rfl, hoH.out, hB⟩
      · have h12b : decide ((n : Int) ≤ 12) = false := by simp; omega
        go_wp2_with fail
        go_ret2
        exact ⟨_, by rw [hnH.out, decide_eq_false h12]; rfl, hoH.out, hB⟩
end Go.Proofs.Ytgkddhakhapjlaa

/- A range over a function whose elements are read in memory: the iterator says of each element what memory holds where it is handed over. No program is named. -/
namespace Go.Proofs.Ytgkddhakhapjlaa
open Go Go.RowKit

/-- The iterator's contract: each round gets an element x of which R holds in the world where it is handed over. -/
def SeqRel {α : Type} (F : Fence) (n : Nat) (P : Program) (g : Nat) (lb : Array Value) (encs : α → Array Value) (R : α → World → Prop) (Kp : World → World → Prop) (S Sp : List α → Prop) (N : Nat) (w : World) : Prop :=
  ∀ (l : Nat) (J Jx : List α → World → Prop) (W : World), Below w.heap.size w W → AbidesFrom W.heap.size J → AbidesFrom W.heap.size Jx →
    (∀ pre x W1, J pre W1 → R x W1 → pre.length < N → YieldAt F (n - 1) P l (encs x) W1 fun e W' =>
      (e = .returned (.bool true) ∧ J (pre ++ [x]) W' ∧ Kp W1 W') ∨ (e = .returned (.bool false) ∧ Jx (pre ++ [x]) W' ∧ Kp W1 W')) →
    J [] W → CallsIn F n P g (#[.func (.yield l) #[] #[]] ++ lb) W fun e W' => (∃ v, e = .returned v) ∧ ((∃ xs, S xs ∧ J xs W') ∨ (∃ pre, Sp pre ∧ Jx pre W'))

/-- how the body of a round may be left -/
def relPost {α : Type} (B : Nat) (Kp : World → World → Prop) (I : List α → World → Prop) (Ix : Code → List α → World → Prop) (xs : List α) (W : World) (e : Exit) (_ : Act) (W' : World) : Prop :=
  (KeepsFrom B W W' ∧ Kp W W') ∧ match e with
    | .normal => I xs W'
    | .ret => Ix .ret xs W'
    | .exit id => Ix (.exit id) xs W'
    | .goto t => Ix (.goto t) xs W'
    | .panic _ => False
    | .outgrown => False

section
variable {F : Fence} {n : Nat} {P : Program} {α : Type}

/-- what two blocks hold that a loop lays for itself: its record, and the calls that its rounds put off -/
structure Book (l d : Nat) (rec : Loop) (W : World) : Prop where
  loop : W.heap[l]? = some (.loop rec)
  calls : W.heap[d]? = some (.deferred (some []))
theorem Book.keeps {l d B : Nat} {rec : Loop} {W W' : World} (h : Book l d rec W) (hl : B ≤ l) (hd : B ≤ d) (hk : KeepsFrom B W W') : Book l d rec W' :=
  ⟨hk.same _ _ hl h.loop rfl, hk.same _ _ hd h.calls rfl⟩
theorem Book.turn {l d : Nat} {rec rec' : Loop} {W : World} (h : Book l d rec W) (hne : d ≠ l) : Book l d rec' (W.putObj l (.loop rec')) :=
  ⟨World.putObj_heap_same (Array.getElem?_eq_some_iff.1 h.loop).1, (World.putObj_heap_other hne).trans h.calls⟩
theorem Book.grown {l d : Nat} {rec : Loop} {A B : World} {row : Option Nat} (h : Book l d rec A) (hg : A.grownBy B row) (hr : ∀ r, row = some r → ∃ o : Obj, A.heap[r]? = some o ∧ o.isWalk = true) : Book l d rec B :=
  ⟨(grownBy_keeps hg hr h.loop rfl).trans h.loop, (grownBy_keeps hg hr h.calls rfl).trans h.calls⟩

set_option maxHeartbeats 1000000 in
theorem range_rel {g : Operand} {ps : Array Tmp} {assign body : Code} {Q : Exit → Act → World → Prop} {a : Act} {w : World}
    (hro : F.round = none) (h1 : 1 ≤ n) {gf : Nat} {lb : Array Value} (hg : a.eval g = .func (.func gf) #[] lb) (hFg : F.fn gf) (eg : ∀ args w, (callFunc gf args).run P w = .ok (.enter gf args) w)
    {encs : α → Array Value} {R : α → World → Prop} {Kp : World → World → Prop} {S Sp : List α → Prop} {N : Nat} {w0 : World} (hseq : SeqRel F (n - 1) P gf lb encs R Kp S Sp N w0)
    (hKt : ∀ {A B C : World}, Kp A B → Kp B C → Kp A C) (hKb : ∀ (W : World) (l : Nat) (o o' : Obj), w.heap.size ≤ l → W.heap[l]? = some o → o.isCells = false → o.isWalk = false → Kp W (W.putObj l o')) (hb0 : Below w0.heap.size w0 w) (hps : ∀ x, (encs x).size = ps.size)
    (I : List α → World → Prop) (Ix : Code → List α → World → Prop) (hI : OwnFrom w.heap.size I) (hIx : ∀ c, OwnFrom w.heap.size (Ix c)) (h0 : I [] w) (Ax : α → Act → World → Prop) (hAx : ∀ x a', OwnFrom w.heap.size (fun (_ : Unit) W => Ax x a' W))
    (hassign : ∀ (l : Nat) (pre : List α) (x : α) (W : World) (K : Act → World → Prop), I pre W → R x W → (∀ a' W', KeepsFrom w.heap.size W W' → Kp W W' → I pre W' → Ax x a' W' → K a' W') →
      assign.wpIn (F.inRound l) (n - 1 - 1) P (Exit.then K (fun _ _ _ => False)) { tmps := (ps.zip (encs x)).foldl (fun t (p, v) => t.setIfInBounds p v) a.tmps, defers := [] } W)
    (hbody : ∀ (l : Nat) (pre : List α) (x : α) (a' : Act) (W : World), w.heap.size ≤ l → (∃ r, W.heap[l]? = some (.loop r)) → I pre W → Ax x a' W → pre.length < N → body.wpIn (F.inRound l) (n - 1 - 1) P (relPost w.heap.size Kp I Ix (pre ++ [x]) W) a' W)
    (hdone : ∀ (D : Nat) (xs : List α) (W : World), w.heap.size ≤ D → S xs → I xs W → W.heap[D]? = some (.deferred (some [])) → Q .normal { a with defers := { target := .collected D, args := #[] } :: a.defers } W)
    (hstop : ∀ (D : Nat) (c : Code) (pre : List α) (W : World), w.heap.size ≤ D → Sp pre → Ix c pre W → W.heap[D]? = some (.deferred (some [])) → c.wpIn F n P Q { a with defers := { target := .collected D, args := #[] } :: a.defers } W) :
    (Code.rangeFunc g ps assign body).wpIn F n P Q a w := by
  refine wpIn_rangeFunc fun fn hfn => ?_
  rw [hro]
  obtain ⟨d, hd⟩ : ∃ d, w.heap.size = d := ⟨_, rfl⟩
  rw [hd] at hKb hI hIx hAx hassign hbody hdone hstop
  obtain ⟨rec, hrec⟩ : ∃ rec : LoopState → Option Code → Loop, ∀ st pe, rec st pe = { state := st, pending := pe, fn, tmps := a.tmps, params := ps, assign, body, defers := d } := ⟨_, fun _ _ => rfl⟩
  have hz : (w.alloc (.deferred (some []))).heap.size = d + 1 := by simp [hd]
  have hB1 : Book (d + 1) d (rec .ready none) ((w.alloc (.deferred (some []))).alloc (.loop (rec .ready none))) := by
    refine ⟨by rw [← hz]; exact World.alloc_heap_new _ _, ?_⟩
    rw [Below.heap_alloc _ _ _ (by omega), ← hd]; exact World.alloc_heap_new w _
  have hI1 : I [] ((w.alloc (.deferred (some []))).alloc (.loop (rec .ready none))) := hI.alloc _ (hI.alloc _ h0)
  have hW1 : Below w0.heap.size w0 ((w.alloc (.deferred (some []))).alloc (.loop (rec .ready none))) := (hb0.alloc hb0.size _).alloc (by have := hb0.size; omega) _
  have hs1 : ((w.alloc (.deferred (some []))).alloc (.loop (rec .ready none))).heap.size = d + 2 := by rw [World.size_alloc, hz]
  have hen := run_enterLoop_outer (P := P) (w := w) fn a.tmps ps assign body
  rw [hd, ← hrec .ready none] at hen
  generalize (w.alloc (.deferred (some []))).alloc (.loop (rec .ready none)) = W1 at hB1 hI1 hW1 hs1 hen
  refine ⟨d + 1, [{ target := .collected d, args := #[] }], W1, { target := .fn (.func gf) lb, args := #[.func (.yield (d + 1)) #[] #[]] }, W1, gf, #[.func (.yield (d + 1)) #[] #[]] ++ lb, W1, hen, ?_, ?_, ?_, fun _ => h1, ?_⟩
  · simp only [resolve, hg]; simp [go_sem]
  · intro f' hf'
    simp [Target.leads] at hf'
    rw [← hf']; exact hFg
  · simp [invoke, go_sem, eg]
  have hrow : ∀ {A : World} {row : Option Nat}, (∀ r, row = some r → W1.heap.size ≤ r ∧ ∃ o : Obj, A.heap[r]? = some o ∧ o.isWalk = true) →
      (∀ r, row = some r → d ≤ r ∧ ∃ o : Obj, A.heap[r]? = some o ∧ o.isCells = false) ∧ (∀ r, row = some r → ∃ o : Obj, A.heap[r]? = some o ∧ o.isWalk = true) := fun hr =>
    ⟨fun r e => by obtain ⟨g1, o, g2, g3⟩ := hr r e; exact ⟨by omega, o, g2, Obj.not_cells_of_walk g3⟩, fun r e => (hr r e).2⟩
  have hcall := hseq (d + 1) (fun pre W => I pre W ∧ Book (d + 1) d (rec .ready none) W) (fun pre W => ∃ c, Ix c pre W ∧ Book (d + 1) d (rec .done (some c)) W) W1 hW1
    (fun s A B row hs hgr hr => ⟨hI s A B row hs.1 hgr (hrow hr).1, hs.2.grown hgr (hrow hr).2⟩)
    (fun s A B row hs hgr hr => by obtain ⟨c, q1, q2⟩ := hs; exact ⟨c, hIx c s A B row q1 hgr (hrow hr).1, q2.grown hgr (hrow hr).2⟩)
  refine (hcall ?_ ⟨hI1, hB1⟩).mono ?_
  · rintro pre x W ⟨hi, hb⟩ hR hlen
    have hy := run_yield (P := P) (args := encs x) hb.loop (by rw [hrec]; exact hps x)
    rw [hrec] at hy
    refine ⟨fn, _, assign, body, hy, roundIn_of_wpIn hfn (hassign (d + 1) pre x W _ hi hR fun a' Wa k1 k2 k3 k4 => ?_)⟩
    have hba := hb.keeps (by omega) (Nat.le_refl _) k1
    refine ⟨_, run_beginRound hba.loop (by rw [hrec]), ?_⟩
    have hb2 : Book (d + 1) d { rec .ready none with state := .busy } (Wa.putObj (d + 1) (.loop { rec .ready none with state := .busy })) := hba.turn (by omega)
    have hk2 : Kp Wa (Wa.putObj (d + 1) (.loop { rec .ready none with state := .busy })) := hKb _ _ _ _ (by omega) hba.loop rfl rfl
    have hi2 := hI.putObj (.loop { rec .ready none with state := .busy }) k3 (by omega) hba.loop rfl
    have ha2 := (hAx x a').putObj (s := ()) (.loop { rec .ready none with state := .busy }) k4 (by omega) hba.loop rfl
    have hend : ∀ (jump : Option Code) (W3 : World), KeepsFrom d (Wa.putObj (d + 1) (.loop { rec .ready none with state := .busy })) W3 →
        (Instr.endRound (d + 1) jump).run P W3 = .ok (.bool jump.isNone) (W3.putObj (d + 1) (.loop (rec (if jump.isNone then .ready else .done) jump))) ∧
        W3.heap[d + 1]? = some (.loop { rec .ready none with state := .busy }) ∧ Book (d + 1) d (rec (if jump.isNone then .ready else .done) jump) (W3.putObj (d + 1) (.loop (rec (if jump.isNone then .ready else .done) jump))) := fun jump W3 k => by
      have hb3 := hb2.keeps (by omega) (Nat.le_refl _) k
      have hr := run_endRound (P := P) jump hb3.loop
      rw [hrec .ready none] at hr
      rw [hrec (if jump.isNone then .ready else .done) jump]
      exact ⟨hr, hb3.loop, hb3.turn (by omega)⟩
    refine wpIn_mono (hbody (d + 1) pre x a' _ (by omega) ⟨_, hb2.loop⟩ hi2 ha2 hlen) fun e a3 W3 hp => ?_
    obtain ⟨⟨q1, q2⟩, q3⟩ := hp
    have hkk : ∀ o', Kp W (W3.putObj (d + 1) o') := fun o' => hKt k2 (hKt (hKt hk2 q2) (hKb _ _ _ _ (by omega) (hb2.keeps (by omega) (Nat.le_refl _) q1).loop rfl rfl))
    cases e with
    | normal =>
      obtain ⟨r1, r2, r3⟩ := hend none W3 q1
      exact ⟨_, _, r1, .inl ⟨rfl, ⟨hI.putObj _ q3 (by omega) r2 rfl, r3⟩, hkk _⟩⟩
    | ret =>
      obtain ⟨r1, r2, r3⟩ := hend (some .ret) W3 q1
      exact ⟨_, _, r1, .inr ⟨rfl, ⟨.ret, (hIx _).putObj _ q3 (by omega) r2 rfl, r3⟩, hkk _⟩⟩
    | exit id =>
      obtain ⟨r1, r2, r3⟩ := hend (some (.exit id)) W3 q1
      exact ⟨_, _, r1, .inr ⟨rfl, ⟨.exit id, (hIx _).putObj _ q3 (by omega) r2 rfl, r3⟩, hkk _⟩⟩
    | goto t =>
      obtain ⟨r1, r2, r3⟩ := hend (some (.goto t)) W3 q1
      exact ⟨_, _, r1, .inr ⟨rfl, ⟨.goto t, (hIx _).putObj _ q3 (by omega) r2 rfl, r3⟩, hkk _⟩⟩
    | panic ch => exact q3.elim
    | outgrown => exact q3.elim
  · rintro e W2 ⟨⟨v, rfl⟩, (⟨xs, hS, hi, hb⟩ | ⟨pre, hSp, c, hi, hb⟩)⟩
    · have hr := run_endLoop (P := P) hb.loop (by rw [hrec]; simp)
      rw [hrec] at hr
      exact ⟨none, _, hr, hdone d xs _ (Nat.le_refl _) hS (hI.putObj _ hi (by omega) hb.loop rfl) ((World.putObj_heap_other (by omega)).trans hb.calls)⟩
    · have hr := run_endLoop (P := P) hb.loop (by rw [hrec]; simp)
      rw [hrec] at hr
      exact ⟨some c, _, hr, hstop d c pre _ (Nat.le_refl _) hSp ((hIx c).putObj _ hi (by omega) hb.loop rfl) ((World.putObj_heap_other (by omega)).trans hb.calls)⟩
end

/-- a list of numbers does not lie in a block that holds no cells -/
theorem Ints.notIn {S : Nat → Prop} {w : World} {a : Option Addr} {c : Nat} {l : List Int} (h : Ints S w a c l) {k : Nat} {o : Obj} (hk : w.heap[k]? = some o) (ho : o.isCells = false) : Ints (fun b => S b ∧ b ≠ k) w a c l := by
  refine ⟨h.cap, h.max, h.nil, fun hne => ?_⟩
  obtain ⟨b, off, ha, hb, hl, hc⟩ := h.dat hne
  refine ⟨b, off, ha, ⟨hb, fun e => ?_⟩, hl, hc⟩
  subst e
  have h0 : 0 < l.length := List.length_pos_iff.2 hne
  obtain ⟨vs, h1, h2, _⟩ := hc 0 h0
  have h3 := h2 0 (by have := intE.pos; omega)
  unfold World.cell? at h3
  rw [hk] at h3
  cases o <;> simp_all [Obj.isCells]
/-- that a list of numbers reads abides whatever turns no cells -/
theorem ints_own {S : Nat → Prop} {a : Option Addr} {c : Nat} {l : List Int} (B : Nat) : OwnFrom B (fun (_ : Unit) W => Ints S W a c l) := by
  intro s A A' row hs hg hr
  cases row with
  | none => exact hs.same (.of_grown hg (fun b _ e => by cases e))
  | some r =>
    obtain ⟨-, o, ho, hc⟩ := hr r rfl
    exact (hs.notIn ho hc).mono (fun _ _ h => h.1) (.of_grown hg (fun b hb e => hb.2 (by cases e; rfl)))
end Go.Proofs.Ytgkddhakhapjlaa

/- What a loop's body leaves alone that writes one box of its own and the list which that box holds. No program is named. -/
namespace Go.Proofs.Ytgkddhakhapjlaa
open Go Go.RowKit

def CellsAt (w : World) (b : Nat) : Prop := ∃ o, w.heap[b]? = some o ∧ o.isCells = true
theorem CellsAt.of_cell {w : World} {b off : Nat} {v : Value} (h : w.cell? ⟨b, off, none⟩ = some v) : CellsAt w b := by
  have hl := World.block_lt_of_cell? w _ h
  refine ⟨w.heap[b], Array.getElem?_eq_getElem hl, ?_⟩
  unfold World.cell? at h
  simp only [Array.getElem?_eq_getElem hl] at h
  revert h
  generalize w.heap[b] = o
  intro h
  cases o <;> simp_all [Obj.isCells]
/-- that a slice's blocks hold cells may be added to what is known of them -/
theorem Sl.cellsAt {α : Type} {E : Enc α} (hE : ∀ S w vs x, E.R S w vs x → E.R (fun b => S b ∧ CellsAt w b) w vs x) {S : Nat → Prop} {w : World} {a : Option Addr} {c : Nat} {l : List α} (h : Sl E S w a c l) : Sl E (fun b => S b ∧ CellsAt w b) w a c l := by
  refine ⟨h.cap, h.max, h.nil, fun hne => ?_⟩
  obtain ⟨b, off, ha, hb, hl, hc⟩ := h.dat hne
  have h0 : 0 < l.length := List.length_pos_iff.2 hne
  obtain ⟨vs, g1, g2, _⟩ := hc 0 h0
  have hcell := CellsAt.of_cell (g2 0 (by have := E.pos; omega))
  exact ⟨b, off, ha, ⟨hb, hcell⟩, hl, fun i hi => by obtain ⟨vs, q1, q2, q3⟩ := hc i hi; exact ⟨vs, q1, q2, hE _ _ _ _ q3⟩⟩
theorem Ints.cellsAt {S : Nat → Prop} {w : World} {a : Option Addr} {c : Nat} {l : List Int} (h : Ints S w a c l) : Ints (fun b => S b ∧ CellsAt w b) w a c l := Sl.cellsAt (fun _ _ _ _ h => h) h
theorem Terms.cellsAt {S : Nat → Prop} {w : World} {a : Option Addr} {c : Nat} {l : List (List Int)} (h : Terms S w a c l) : Terms (fun b => S b ∧ CellsAt w b) w a c l :=
  Sl.cellsAt (fun _ _ _ _ h => by obtain ⟨a, c, h1, h2⟩ := h; exact ⟨a, c, h1, Ints.cellsAt h2⟩) h
theorem Sign.cellsAt {S : Nat → Prop} {w : World} {a : Option Addr} {c : Nat} {l : List (ByteArray × Int)} (h : Sign S w a c l) : Sign (fun b => S b ∧ CellsAt w b) w a c l :=
  Sl.cellsAt (fun _ _ _ _ h => by obtain ⟨us, ts, h1, h2, h3⟩ := h; exact ⟨us, ts, h1, h2, h3⟩) h

/-- the block of the list in the box -/
def rowOf (B0 : Nat) (W : World) : Option Nat := match W.cell? ⟨B0, 0, none⟩ with | some v => v.ownBlock | none => none
def RowLt (B0 : Nat) (W : World) : Prop := B0 < W.heap.size ∧ ∀ r, rowOf B0 W = some r → r < W.heap.size
def Safe (B0 : Nat) (W : World) (b : Nat) : Prop := b ≠ B0 ∧ some b ≠ rowOf B0 W ∧ CellsAt W b
structure Leaves (B0 : Nat) (W W' : World) : Prop where
  size : W.heap.size ≤ W'.heap.size
  same : ∀ b, Safe B0 W b → W'.heap[b]? = W.heap[b]?
  row : rowOf B0 W' = rowOf B0 W ∨ ∃ r, rowOf B0 W' = some r ∧ W.heap.size ≤ r
  lt : RowLt B0 W → RowLt B0 W'

section
variable {B0 : Nat} {W W' W2 : World}
theorem CellsAt.lt {b : Nat} (h : CellsAt W b) : b < W.heap.size := by obtain ⟨o, h, _⟩ := h; exact (Array.getElem?_eq_some_iff.1 h).1
theorem CellsAt.same {b : Nat} (h : CellsAt W b) (hs : W'.heap[b]? = W.heap[b]?) : CellsAt W' b := by obtain ⟨o, h, g⟩ := h; exact ⟨o, hs.trans h, g⟩
theorem Leaves.safe (h : Leaves B0 W W') {b : Nat} (hb : Safe B0 W b) : Safe B0 W' b := by
  refine ⟨hb.1, fun e => ?_, hb.2.2.same (h.same b hb)⟩
  rcases h.row with g | ⟨r, g, hr⟩
  · rw [g] at e; exact hb.2.1 e
  · rw [g] at e; cases e; have := hb.2.2.lt; omega
theorem Leaves.agree (h : Leaves B0 W W') : Agree (Safe B0 W) W W' := fun b hb _ => h.same b hb
theorem Leaves.sl {α : Type} {E : Enc α} {a : Option Addr} {c : Nat} {l : List α} (h : Leaves B0 W W') (hs : Sl E (Safe B0 W) W a c l) : Sl E (Safe B0 W') W' a c l :=
  hs.mono (fun _ _ hb => h.safe hb) h.agree
theorem Leaves.refl (B0 : Nat) (W : World) : Leaves B0 W W := ⟨Nat.le_refl _, fun _ _ => rfl, .inl rfl, fun h => h⟩
theorem Leaves.trans (h : Leaves B0 W W') (k : Leaves B0 W' W2) : Leaves B0 W W2 := by
  refine ⟨Nat.le_trans h.size k.size, fun b hb => (k.same b (h.safe hb)).trans (h.same b hb), ?_, fun g => k.lt (h.lt g)⟩
  rcases k.row with g | ⟨r, g, hr⟩
  · rw [g]; exact h.row
  · exact .inr ⟨r, g, Nat.le_trans h.size hr⟩
theorem rowOf_same (h : W'.heap[B0]? = W.heap[B0]?) : rowOf B0 W' = rowOf B0 W := by unfold rowOf; rw [World.cell?_of_block (w := W) h]
theorem Leaves.of_below (hr : B0 < W.heap.size) (h : Below W.heap.size W W') : Leaves B0 W W' := by
  have e := rowOf_same (h.block B0 hr)
  refine ⟨h.size, fun b hb => h.block b hb.2.2.lt, .inl e, fun g => ⟨Nat.lt_of_lt_of_le g.1 h.size, fun r hrr => ?_⟩⟩
  rw [e] at hrr; exact Nat.lt_of_lt_of_le (g.2 r hrr) h.size
/-- what is new is safe -/
theorem Safe.fresh (hr : RowLt B0 W) (h : Below W.heap.size W W') {b : Nat} (hb : W.heap.size ≤ b) (hc : CellsAt W' b) : Safe B0 W' b :=
  ⟨by have := hr.1; omega, fun e => by rw [rowOf_same (h.block B0 hr.1)] at e; have := hr.2 b e.symm; omega, hc⟩
theorem Below.grow {A B : World} (h : Below A.heap.size A B) : A.grownBy B none := ⟨h.os, h.tape, h.output, h.size, fun k hk _ => h.block k hk⟩
theorem Leaves.cell (h : Leaves B0 W W') {b off : Nat} {v : Value} (hb : Safe B0 W b) (hc : W.cell? ⟨b, off, none⟩ = some v) : W'.cell? ⟨b, off, none⟩ = some v := (World.cell?_of_block (w := W) (h.same b hb)).trans hc
/-- a turn of a block that holds no cells -/
theorem Leaves.putObj {l : Nat} {o o' : Obj} (hl : B0 < l) (h : W.heap[l]? = some o) (hc : o.isCells = false) : Leaves B0 W (W.putObj l o') := by
  have hne : B0 ≠ l := by omega
  have e : rowOf B0 (W.putObj l o') = rowOf B0 W := rowOf_same (World.putObj_heap_other hne)
  refine ⟨by simp [World.putObj], fun b hb => ?_, .inl e, fun g => ⟨by simpa [World.putObj] using g.1, fun r hrr => ?_⟩⟩
  · refine World.putObj_heap_other (fun eb => ?_)
    subst eb
    obtain ⟨o2, g1, g2⟩ := hb.2.2
    rw [h] at g1; cases g1; rw [hc] at g2; cases g2
  · rw [e] at hrr; simpa [World.putObj] using g.2 r hrr
end
end Go.Proofs.Ytgkddhakhapjlaa

/- A list that a call makes itself and keeps in a box of its own, while a loop's body appends to it. No program is named. -/
namespace Go.Proofs.Ytgkddhakhapjlaa
open Go Go.RowKit

/-- the encoding says nothing of blocks that hold no cells -/
def Celled {α : Type} (E : Enc α) : Prop := ∀ S w vs x, E.R S w vs x → E.R (fun b => S b ∧ CellsAt w b) w vs x
theorem celled_int : Celled intE := fun _ _ _ _ h => h
theorem celled_sl {α : Type} {E : Enc α} (h : Celled E) : Celled (slE E) := fun _ _ _ _ hr => by obtain ⟨a, c, h1, h2⟩ := hr; exact ⟨a, c, h1, Sl.cellsAt h h2⟩

def BoxL {α : Type} (E : Enc α) (B0 : Nat) (T : TypeId) (base : Nat) (e : TypeId) (l : List α) (W : World) : Prop := ∃ v, Boxed W B0 T v ∧ OwnL E (fun b => b ≠ B0) W base e v l

section
variable {α : Type} {E : Enc α} {B0 : Nat} {T e : TypeId} {base : Nat} {l : List α} {W : World}
theorem OwnL.rowCells {S : Nat → Prop} {v : Value} (h : OwnL E S W base e v l) : ∀ k, v.ownBlock = some k → ∃ cur, W.heap[k]? = some (.cells cur e (0, 0)) := by
  intro k hk
  obtain ⟨xs, ho, -⟩ := h
  rcases ho.2 with ⟨rfl, -⟩ | ⟨g, cap, cur, rfl, -, hg, -⟩
  · simp [Value.ownBlock] at hk
  · simp [Value.ownBlock] at hk; subst hk; exact ⟨cur, hg⟩
theorem OwnL.notBox {S : Nat → Prop} {v u : Value} (h : OwnL E S W base e v l) (hB : Boxed W B0 T u) (hT : T ≠ e) : v.ownBlock ≠ some B0 := by
  intro hk
  obtain ⟨cur, hc⟩ := h.rowCells B0 hk
  rw [show W.heap[B0]? = _ from hB] at hc
  simp only [Option.some.injEq, Obj.cells.injEq] at hc
  exact hT hc.2.1
theorem OwnL.celled {S : Nat → Prop} {v : Value} (hE : Celled E) (h : OwnL E S W base e v l) : OwnL E (fun b => S b ∧ CellsAt W b) W base e v l := by
  obtain ⟨xs, ho, hl, hx⟩ := h
  exact ⟨xs, ho, hl, fun i h1 h2 => E.mono (hE _ _ _ _ (hx i h1 h2)) (fun b _ hb => ⟨⟨hb.1.1, hb.2⟩, hb.1.2⟩) (.refl _ _)⟩
theorem boxL_own {β : Type} (hE : Celled E) (B : Nat) (f : β → List α) : OwnFrom B (fun s W => BoxL E B0 T base e (f s) W) := by
  rintro s A A' row ⟨v, hv, ho⟩ hg hr
  have hne : ∀ {k : Nat} {o : Obj}, A.heap[k]? = some o → o.isCells = true → row ≠ some k := by
    intro k o hk hc e
    obtain ⟨-, o', ho', hc'⟩ := hr k e
    rw [hk] at ho'; cases ho'; rw [hc] at hc'; cases hc'
  refine ⟨v, hv.kept hg (fun e => hne hv rfl e.symm), OwnL.weak ((OwnL.celled hE ho).grown hg (fun k hk => ?_) (fun b hb _ => ?_)) (fun b _ hb => hb.1)⟩
  · obtain ⟨cur, hc⟩ := ho.rowCells k hk; exact hne hc rfl
  · obtain ⟨o, h1, h2⟩ := hb.2; exact hne h1 h2
theorem OwnL.putObj {S : Nat → Prop} {v : Value} (h : OwnL E S W base e v l) {D : Nat} {o o' : Obj} (hD : W.heap[D]? = some o) (hc : o.isCells = false) (hE : Celled E) : OwnL E (fun _ => True) (W.putObj D o') base e v l := by
  have hne : ∀ {k : Nat} {q : Obj}, W.heap[k]? = some q → q.isCells = true → (some D : Option Nat) ≠ some k := by
    intro k q hk hq e
    cases e; rw [hD] at hk; cases hk; rw [hc] at hq; cases hq
  refine OwnL.weak ((OwnL.celled hE h).grown (grownBy_putObj' W D o') (fun k hk => ?_) (fun b hb _ => ?_)) (fun _ _ _ => trivial)
  · obtain ⟨cur, hcur⟩ := h.rowCells k hk; exact hne hcur rfl
  · obtain ⟨q, h1, h2⟩ := hb.2; exact hne h1 h2
theorem rowOf_boxed {v : Value} (h : Boxed W B0 T v) : rowOf B0 W = v.ownBlock := by unfold rowOf; rw [h.cell]
theorem BoxL.rowLt (h : BoxL E B0 T base e l W) : RowLt B0 W := by
  obtain ⟨v, hv, ho⟩ := h
  exact ⟨hv.lt, fun r hr => by rw [rowOf_boxed hv] at hr; exact (ho.lt r hr).2⟩
theorem BoxL.new (W : World) : BoxL E W.heap.size T base e [] (W.alloc (.cells #[.slice none 0 0] T)) := ⟨_, Boxed.new W T _, .nil _ _ _ _ _⟩
theorem BoxL.below {W' : World} (h : BoxL E B0 T base e l W) (hb : Below W.heap.size W W') : BoxL E B0 T base e l W' := by
  obtain ⟨v, hv, ho⟩ := h
  exact ⟨v, (hb.block B0 hv.lt).trans hv, ho.call hb⟩
/-- append of one element -/
theorem box_push {P : Program} {v : Value} {W1 : World} (hv : Boxed W B0 T v) (ho : OwnL E (fun b => b ≠ B0) W base e v l) (hT : T ≠ e) (hbs : base ≤ W.heap.size) (hb0 : base ≤ B0) (hb1 : Below W.heap.size W W1)
    {t ty : TypeId} {z : Value} {bytes : Nat} (ht : P.underlying t = some (.slice e)) (hinfo : (P.info? e).map (fun i => (i.zero, i.size, i.bytes)) = some (some z, E.size, bytes)) (hzs : z.cells.size = E.size)
    {vs : List Value} {x : α} (hR : E.R (Off (fun b => b ≠ B0) v) W1 vs x) (hlen : (l.length + 1) * bytes ≤ 140737488355328) (hmax : l.length + 1 ≤ big) :
    ∃ a' cap W2, RowKit.Hid ((Builtin.append_ #[t, t] ty #[v, .slice (some ⟨W1.heap.size, 0, none⟩) 1 1]).run P (W1.alloc (.cells vs.toArray e)) = .ok (.slice a' (l.length + 1) cap) W2) ∧
      RowKit.Hid (W2.cell? ⟨B0, 0, none⟩ = some v) ∧ RowKit.Hid (W2.frozen? ⟨B0, 0, none⟩ = false) ∧
      RowKit.Hid (BoxL E B0 T base e (l ++ [x]) (W2.setCell ⟨B0, 0, none⟩ (.slice a' (l.length + 1) cap))) ∧ RowKit.Hid (KeepsOthers W (W2.setCell ⟨B0, 0, none⟩ (.slice a' (l.length + 1) cap))) ∧
      RowKit.Hid (Leaves B0 W (W2.setCell ⟨B0, 0, none⟩ (.slice a' (l.length + 1) cap))) ∧ RowKit.Hid (Below base W (W2.setCell ⟨B0, 0, none⟩ (.slice a' (l.length + 1) cap))) := by
  have ho1 := ho.call hb1
  have hv1 : Boxed W1 B0 T v := (hb1.block B0 hv.lt).trans hv
  obtain ⟨v', W2, hrun, ho2, hg, hat⟩ := ho1.push (P := P) (t := t) (ty := ty) ht hinfo hzs hR hlen hmax (Nat.le_trans hbs hb1.size)
  obtain ⟨a', cap, rfl, -⟩ := ho2.sl
  rw [List.length_append, List.length_singleton] at hrun ho2 hat
  have hv2 : Boxed W2 B0 T v := hv1.kept hg (fun e => ho1.notBox hv1 hT e.symm)
  have hg3 : W2.grownBy (W2.setCell ⟨B0, 0, none⟩ (.slice a' (l.length + 1) cap)) (some B0) := grownBy_setCell' _ _ _
  have ho3 := ho2.grown hg3 (fun k hk e => by cases e; exact ho2.notBox hv2 hT hk) (fun b hb _ e => by cases e; exact hb rfl)
  have hv3 : Boxed (W2.setCell ⟨B0, 0, none⟩ (.slice a' (l.length + 1) cap)) B0 T (.slice a' (l.length + 1) cap) := hv2.set _
  have hsz : W.heap.size ≤ W2.heap.size := Nat.le_trans hb1.size hg.size
  refine ⟨a', cap, W2, Lib.hid hrun, Lib.hid hv2.cell, Lib.hid hv2.frozen, Lib.hid ⟨_, hv3, ho3⟩, Lib.hid ?_, Lib.hid ?_, Lib.hid ?_⟩
  · refine (KeepsOthers.of_grownBy (row := none) (Below.grow hb1) (fun j o e => by cases e)).trans ((KeepsOthers.of_grownBy hg (fun j o e ho => ?_)).trans (KeepsOthers.setCell _ _ _))
    obtain ⟨cur, hc⟩ := ho1.rowCells j e
    rw [hc] at ho; cases ho; rfl
  · have hrW := rowOf_boxed hv
    have hr3 := rowOf_boxed hv3
    refine ⟨Nat.le_trans hsz hg3.size, fun b hb => ?_, ?_, fun _ => BoxL.rowLt ⟨_, hv3, ho3⟩⟩
    · have hbl := hb.2.2.lt
      have hb2 := hb.2.1
      rw [hrW] at hb2
      exact (hg3.block b (Nat.lt_of_lt_of_le hbl hsz) (fun e => hb.1 (by cases e; rfl))).trans ((hg.block b (Nat.lt_of_lt_of_le hbl hb1.size) hb2).trans (hb1.block b hbl))
    · rw [hr3, hrW]
      rcases hat with h | ⟨k, h1, h2⟩
      · exact .inl h
      · exact .inr ⟨k, h1, Nat.le_trans hb1.size h2⟩
  · exact ((hb1.mono hbs).grown hg (Nat.le_trans hbs hb1.size) (fun k e => (ho1.lt k e).1)).grown hg3 (Nat.le_trans hbs hsz) (fun k e => by cases e; exact hb0)
end
end Go.Proofs.Ytgkddhakhapjlaa

/- Walks of package unify: full, made, Meet. -/
namespace Go.Proofs.Ytgkddhakhapjlaa
open Go Go.RowKit Go.Maps

/-- only what lies from K on, and the box B0, has turned -/
structure FB (K B0 : Nat) (w w' : World) : Prop where
  os : w'.os = w.os
  tape : w'.tape = w.tape
  output : w'.output = w.output
  size : w.heap.size ≤ w'.heap.size
  block : ∀ b, b < K → b ≠ B0 → w'.heap[b]? = w.heap[b]?
section
variable {K B0 : Nat} {w w1 w2 : World}
theorem FB.refl (K B0 : Nat) (w : World) : FB K B0 w w := ⟨rfl, rfl, rfl, Nat.le_refl _, fun _ _ _ => rfl⟩
theorem FB.trans (h : FB K B0 w w1) (k : FB K B0 w1 w2) : FB K B0 w w2 := ⟨k.os.trans h.os, k.tape.trans h.tape, k.output.trans h.output, Nat.le_trans h.size k.size, fun b hb hne => (k.block b hb hne).trans (h.block b hb hne)⟩
theorem FB.below (h : FB K B0 w w1) {C : Nat} (h1 : C ≤ K) (h2 : C ≤ B0) : Below C w w1 := ⟨h.os, h.tape, h.output, h.size, fun b hb => h.block b (by omega) (by omega)⟩
theorem FB.cell (h : FB K B0 w w1) {b off : Nat} {v : Value} (hb : b < K) (hne : b ≠ B0) (hc : w.cell? ⟨b, off, none⟩ = some v) : w1.cell? ⟨b, off, none⟩ = some v := (World.cell?_of_block (w := w) (h.block b hb hne)).trans hc
end
/-- what lies in memory while a term is made full -/
structure FulW (w0 w : World) (xb mb nb : Nat) (a1 : Option Addr) (c1 : Nat) (s : Sg) (B : Bd) (xx wb ob K : Nat) (o : List Int) : Prop where
  S : SolvW w0 w xb mb nb a1 c1 s B
  cx : w.cell? ⟨xx, 0, none⟩ = some (.pointer (some ⟨xb, 0, none⟩))
  cw : w.cell? ⟨wb, 0, none⟩ = some (.func (.func 44) #[] #[.pointer (some ⟨xx, 0, none⟩), .pointer (some ⟨wb, 0, none⟩), .pointer (some ⟨ob, 0, none⟩)])
  lts : xb < K ∧ mb < K ∧ xx < K ∧ wb < K ∧ ob < K
  nes : xb ≠ ob ∧ mb ≠ ob ∧ xx ≠ ob ∧ wb ≠ ob
  low : w0.heap.size ≤ ob
  box : ∃ v, Boxed w ob 25 v ∧ OwnI w K v o
  size : K ≤ w.heap.size
section
variable {w0 w w1 : World} {xb mb nb : Nat} {a1 : Option Addr} {c1 : Nat} {s : Sg} {B : Bd} {xx wb ob K : Nat} {o o' : List Int}
theorem FulW.turn (h : FulW w0 w xb mb nb a1 c1 s B xx wb ob K o) (hf : FB K ob w w1) (hb : ∃ v, Boxed w1 ob 25 v ∧ OwnI w1 K v o') : FulW w0 w1 xb mb nb a1 c1 s B xx wb ob K o' := by
  obtain ⟨l1, l2, l3, l4, l5⟩ := h.lts
  obtain ⟨n1, n2, n3, n4⟩ := h.nes
  have hS := h.S
  refine ⟨⟨hf.cell l1 n1 hS.k0, hf.cell l1 n1 hS.k1, ?_, hS.bx, hS.bm, hS.ne, hS.sg, hS.bel.trans (hf.below (Nat.le_trans h.low (Nat.le_of_lt l5)) h.low), hS.wf⟩, hf.cell l3 n3 h.cx, hf.cell l4 n4 h.cw, h.lts, h.nes, h.low, hb, Nat.le_trans h.size hf.size⟩
  obtain ⟨f, g1, g2, g3⟩ := hS.map
  exact ⟨f, g1.same (hf.block mb l2 n2), g2, g3⟩
/-- one number more -/
theorem FulW.push (h : FulW w0 w xb mb nb a1 c1 s B xx wb ob K o) (x : Int) (hx : inRange x) (hl : o.length ≤ 1000) :
    ∃ v w2 a' cap, RowKit.Hid (w.cell? ⟨ob, 0, none⟩ = some v) ∧ RowKit.Hid ((Builtin.append_ #[25, 25] 25 #[v, .slice (some ⟨w.heap.size, 0, none⟩) 1 1]).run Try.prog (w.alloc (.cells #[.int .i64 x] 3)) = .ok (.slice a' (o.length + 1) cap) w2) ∧
      RowKit.Hid (w2.cell? ⟨ob, 0, none⟩ = some v) ∧ RowKit.Hid (w2.frozen? ⟨ob, 0, none⟩ = false) ∧ RowKit.Hid (FB K ob w (w2.setCell ⟨ob, 0, none⟩ (.slice a' (o.length + 1) cap))) ∧
      RowKit.Hid (FulW w0 (w2.setCell ⟨ob, 0, none⟩ (.slice a' (o.length + 1) cap)) xb mb nb a1 c1 s B xx wb ob K (o ++ [x])) ∧ RowKit.Hid ((w2.setCell ⟨ob, 0, none⟩ (.slice a' (o.length + 1) cap)).cell? ⟨ob, 0, none⟩ = some (.slice a' (o.length + 1) cap)) := by
  obtain ⟨v, hv, ho⟩ := h.box
  obtain ⟨v', w2, hrun, ho2, hg, -⟩ := ho.push (P := Try.prog) (t := 25) (ty := 25) Try.underlying25 infoInt rfl (vs := [.int .i64 x]) (x := x) ⟨rfl, hx⟩ (by omega) (by unfold big; omega) h.size
  obtain ⟨a', cap, rfl, -⟩ := ho2.sl
  rw [List.length_append, List.length_singleton] at hrun ho2
  have l5 := h.lts.2.2.2.2
  have hne : ∀ {u : Value} {W : World} {l}, OwnI W K u l → u.ownBlock ≠ some ob := fun ho e => by have := (OwnL.lt ho _ e).1; omega
  have hv2 : Boxed w2 ob 25 v := hv.kept hg (fun e => hne ho e.symm)
  have hg3 : w2.grownBy (w2.setCell ⟨ob, 0, none⟩ (.slice a' (o.length + 1) cap)) (some ob) := grownBy_setCell' _ _ _
  have ho3 := OwnL.grown ho2 hg3 (fun k hk e => by cases e; exact hne ho2 hk) (fun b hb _ => hb.elim)
  have hv3 : Boxed (w2.setCell ⟨ob, 0, none⟩ (.slice a' (o.length + 1) cap)) ob 25 (.slice a' (o.length + 1) cap) := hv2.set _
  have hB2 : Below K w w2 := (Below.refl K w).grown hg h.size (fun k e => (OwnL.lt ho k e).1)
  have hF : FB K ob w (w2.setCell ⟨ob, 0, none⟩ (.slice a' (o.length + 1) cap)) :=
    ⟨hg3.os.trans hB2.os, hg3.tape.trans hB2.tape, hg3.output.trans hB2.output, Nat.le_trans hB2.size hg3.size, fun b hb hn => (hg3.block b (Nat.lt_of_lt_of_le hb (Nat.le_trans h.size hB2.size)) (fun e => hn (by cases e; rfl))).trans (hB2.block b hb)⟩
  exact ⟨v, w2, a', cap, Lib.hid hv.cell, Lib.hid hrun, Lib.hid hv2.cell, Lib.hid hv2.frozen, Lib.hid hF, Lib.hid (h.turn hF ⟨_, hv3, ho3⟩), Lib.hid hv3.cell⟩
end
def fullRet (w0 : World) (xb mb nb : Nat) (a1 : Option Addr) (c1 : Nat) (s : Sg) (B : Bd) (θ : Int → List Int) (xx wb ob K : Nat) (o t : List Int) (w : World) (e : Ending) (w' : World) : Prop :=
  ∃ r o', e = .returned (.bool r) ∧ FB K ob w w' ∧ FulW w0 w' xb mb nb a1 c1 s B xx wb ob K o' ∧ (r = true → o' = o ++ ap θ t ∧ o'.length ≤ 60) ∧ (r = false → 60 < (o ++ ap θ t).length)
def fullRel (w0 : World) (xb mb nb : Nat) (a1 : Option Addr) (c1 : Nat) (s : Sg) (B : Bd) (θ : Int → List Int) (xx wb ob K : Nat) (o t : List Int) (w : World) (jv : Value) (wr : World) : Prop :=
  ∃ (j : Nat), jv = .int .i64 j ∧ j ≤ t.length ∧ FB K ob w wr ∧ FulW w0 wr xb mb nb a1 c1 s B xx wb ob K (o ++ ap θ (t.take j)) ∧ (o ++ ap θ (t.take j)).length ≤ 60
theorem len_app (a b : List Int) : (a ++ b).length = a.length + b.length := List.length_append
theorem ap_cut {θ : Int → List Int} {t : List Int} {j : Nat} (h : j < t.length) : ap θ (t.take (j + 1)) = ap θ (t.take j) ++ ap θ [t[j]] ∧ (ap θ (t.take j) ++ ap θ [t[j]]).length ≤ (ap θ t).length := by
  have e : ap θ (t.take (j + 1)) = ap θ (t.take j) ++ ap θ [t[j]] := by rw [List.take_succ_eq_append_getElem h, ap_append]
  refine ⟨e, ?_⟩
  rw [← e]
  have : ap θ t = ap θ (t.take (j + 1)) ++ ap θ (t.drop (j + 1)) := by rw [← ap_append, List.take_append_drop]
  rw [this, List.length_append]; omega
set_option maxRecDepth 20000 in
set_option maxHeartbeats 8000000 in
theorem full1_any {w0 : World} {xb mb nb : Nat} {a1 : Option Addr} {c1 : Nat} {s : Sg} {B : Bd} {θ : Int → List Int} {ρ : Int → Nat} (hSl : Slv s B θ ρ) (xx wb ob KK : Nat) :
    ∀ (K : Nat) (t : List Int) (a : Option Addr) (c : Nat) (o : List Int) (w : World), (∀ m ∈ t, m < 0 → ρ m < K) → T0 w0 a c t → FulW w0 w xb mb nb a1 c1 s B xx wb ob KK o → o.length ≤ 60 →
      Calls Try.prog 44 #[.slice a t.length c, .pointer (some ⟨xx, 0, none⟩), .pointer (some ⟨wb, 0, none⟩), .pointer (some ⟨ob, 0, none⟩)] w (fullRet w0 xb mb nb a1 c1 s B θ xx wb ob KK o t w) := by
  intro K
  induction K using Nat.strongRecOn with
  | _ K ih =>
    intro t a c o w hK hT hF ho60
    have ihH := Lib.hid ih
    have hKH := Lib.hid hK
    have hTH := Lib.hid hT
    have hFH := Lib.hid hF
    have hoH := Lib.hid ho60
    have m2 := hT.le
    clear ih hK hT hF ho60
    go_enter Try.func44, Try.ntmps44
    go_wp2_with fail
    go_loopw [12] (fun jv wr => fullRel w0 xb mb nb a1 c1 s B θ xx wb ob KK o t w jv wr) (fun jv _ => t.length - (intOf jv).toNat)
    case atStart => exact ⟨0, rfl, Nat.zero_le _, .refl _ _ _, by rw [List.take_zero, ap_nil, List.append_nil]; exact hFH.out, by rw [List.take_zero, ap_nil, List.append_nil]; exact hoH.out⟩
    case round =>
      obtain ⟨j, rfl, hj, hf, hW, h60⟩ := hrel
      by_cases hlt : j < t.length
      · obtain ⟨b, off, rfl, -, q, hr⟩ := (hTH.out.below hW.S.bel).int j hlt
        obtain ⟨hcut, hcl⟩ := ap_cut (θ := θ) hlt
        have hKx := hKH.out t[j] (List.getElem_mem hlt)
        obtain ⟨x, hx⟩ : ∃ x, t[j] = x := ⟨_, rfl⟩
        rw [hx] at q hr hcut hcl hKx
        obtain ⟨oj, hoj⟩ : ∃ u, o ++ ap θ (t.take j) = u := ⟨_, rfl⟩
        have hcut2 : o ++ ap θ (t.take (j + 1)) = oj ++ ap θ [x] := by rw [hcut, ← List.append_assoc, hoj]
        have hcl2 : (oj ++ ap θ [x]).length ≤ (o ++ ap θ t).length := by rw [← hoj, List.append_assoc, len_app o, len_app o]; omega
        rw [hoj] at hW h60
        have k1 := hW.S.k1
        have cx := hW.cx
        have cw := hW.cw
        have hfH := Lib.hid hf
        have hWH := Lib.hid hW
        have hc2H := Lib.hid hcut2
        have hl2H := Lib.hid hcl2
        have h60H := Lib.hid h60
        clear hf hW hcut hcl hcut2 hcl2 hoj hx h60
        cases hB : B x with
        | some u =>
          have hwf := hSl.wf x u hB
          have hx0 := hwf.2
          obtain ⟨a3, c3, hlk, hI3⟩ := hWH.out.S.map.look_some x hr hB
          have cu := ihH.out (ρ x) (hKx hx0) u a3 c3 oj wr (fun m hm h0 => hSl.rk x u hB m hm h0) hI3 hWH.out h60H.out
          have hth : ap θ [x] = ap θ u := by rw [ap_one hx0, hSl.bnd x u hB]
          have hthH := Lib.hid hth
          have cuH := Lib.hid cu
          clear hth cu hI3 hwf hB hKx
          go_wp2_with fail
          (with_reducible refine cuH.out.mono ?_)
          rintro e w3 ⟨r, o', rfl, hf3, hW3, ht3, hn3⟩
          cases r with
          | true =>
            obtain ⟨e3, l3⟩ := ht3 rfl
            have heq : o' = o ++ ap θ (t.take (j + 1)) := by rw [hc2H.out, hthH.out]; exact e3
            rw [heq] at hW3 l3
            have hW3H := Lib.hid hW3
            have hf3H := Lib.hid (hfH.out.trans hf3)
            have l3H := Lib.hid l3
            clear hf3 hW3 ht3 hn3 heq e3 l3 cx cw k1
            go_wp2_with fail
            go_roundw
            case rel => exact ⟨j + 1, by go_num, by omega, hf3H.out, hW3H.out, l3H.out⟩
            case measure => simp [intOf]; omega
          | false =>
            have hn := hn3 rfl
            have hlong : 60 < (o ++ ap θ t).length := by have := hl2H.out; rw [hthH.out] at this; omega
            have hW3H := Lib.hid hW3
            have hf3H := Lib.hid (hfH.out.trans hf3)
            have hlH := Lib.hid hlong
            clear hf3 hW3 ht3 hn3 hn hlong cx cw k1
            go_wp2_with fail
            go_ret
            exact ⟨false, _, rfl, hf3H.out, hW3H.out, (fun h => by cases h), fun _ => hlH.out⟩
        | none =>
          have hlk := hWH.out.S.map.look_none x hr hB
          have hth : ap θ [x] = [x] := by
            by_cases h0 : x < 0
            · rw [ap_one h0, hSl.free x h0 hB]
            · rw [ap_pos h0, ap_nil]
          obtain ⟨v, w2, a', cap, cv, hrun, cv2, hfz, hF2, hW2, cv3⟩ := hWH.out.push x hr (by have := h60H.out; omega)
          have cvo := cv.out
          have hruno := hrun.out
          have cv2o := cv2.out
          have hfzo := hfz.out
          have cv3o := cv3.out
          have heq : oj ++ [x] = o ++ ap θ (t.take (j + 1)) := by rw [hc2H.out, hth]
          have hW2' := hW2.out
          rw [heq] at hW2'
          have hlen : oj.length + 1 = (o ++ ap θ (t.take (j + 1))).length := by rw [← heq, List.length_append, List.length_singleton]
          have hll := hl2H.out
          rw [hth, List.length_append, List.length_singleton] at hll
          have hW2H := Lib.hid hW2'
          have hF2H := Lib.hid (hfH.out.trans hF2.out)
          have hlenH := Lib.hid hlen
          have hllH := Lib.hid hll
          clear hth hB hKx hW2 hF2 heq hW2' hlen hll cv hrun cv2 hfz cv3 cw
          obtain ⟨L, hL⟩ : ∃ L, oj.length = L := ⟨_, rfl⟩
          rw [hL] at hruno cv3o
          have hLH := Lib.hid hL
          by_cases h61 : L + 1 ≤ 60
          · have hd : decide ((60 : Int) < ((L + 1 : Nat) : Int)) = false := by simp; omega
            have hres : fullRel w0 xb mb nb a1 c1 s B θ xx wb ob KK o t w (.int .i64 ((j + 1 : Nat) : Int)) (w2.setCell ⟨ob, 0, none⟩ (.slice a' (L + 1) cap)) := ⟨j + 1, rfl, by omega, by rw [← hL]; exact hF2H.out, by rw [← hL]; exact hW2H.out, by rw [← hlenH.out, hL]; exact h61⟩
            have hresH := Lib.hid hres
            clear hres hL
            go_wp2_with (at_builtin; refine wpList_append_run rfl _ _ _ rfl rfl rfl hruno ?_)
            all_goals
              go_roundw
              case rel => exact hresH.out
              case measure => simp [intOf]; omega
          · have hd : decide ((60 : Int) < ((L + 1 : Nat) : Int)) = true := by simp; omega
            have hW2K := Lib.hid (show FulW w0 (w2.setCell ⟨ob, 0, none⟩ (.slice a' (L + 1) cap)) xb mb nb a1 c1 s B xx wb ob KK (o ++ ap θ (t.take (j + 1))) by rw [← hL]; exact hW2H.out)
            have hF2K := Lib.hid (show FB KK ob w (w2.setCell ⟨ob, 0, none⟩ (.slice a' (L + 1) cap)) by rw [← hL]; exact hF2H.out)
            have hlK := Lib.hid (show 60 < (o ++ ap θ t).length by have := hllH.out; omega)
            clear hL
            go_wp2_with (at_builtin; refine wpList_append_run rfl _ _ _ rfl rfl rfl hruno ?_)
            all_goals
              go_ret
              exact ⟨false, _, rfl, hF2K.out, hW2K.out, (fun h => by cases h), fun _ => hlK.out⟩
      · obtain rfl : j = t.length := by omega
        rw [List.take_length] at hW h60
        have hWH := Lib.hid hW
        have h60H := Lib.hid h60
        have hfH := Lib.hid hf
        clear hW h60 hf
        go_wp2_with fail
        go_ret
        exact ⟨true, _, rfl, hfH.out, hWH.out, fun _ => ⟨rfl, h60H.out⟩, fun h => by cases h⟩
end Go.Proofs.Ytgkddhakhapjlaa

/- Walks of package unify: full, made, Meet. -/
namespace Go.Proofs.Ytgkddhakhapjlaa
open Go Go.RowKit Go.Maps

theorem fulW_made {w0 w W : World} {xb mb nb : Nat} {a1 : Option Addr} {c1 : Nat} {s : Sg} {B : Bd} (hS : SolvW w0 w xb mb nb a1 c1 s B) (t1 t3 : TypeId)
    (hW : ((w.alloc (.cells #[.pointer (some ⟨xb, 0, none⟩)] t1)).alloc (.cells #[.slice none 0 0] 25)).alloc (.cells #[.func (.func 44) #[] #[.pointer (some ⟨w.heap.size, 0, none⟩), .pointer (some ⟨w.heap.size + 1 + 1, 0, none⟩), .pointer (some ⟨w.heap.size + 1, 0, none⟩)]] t3) = W) :
    FulW w0 W xb mb nb a1 c1 s B w.heap.size (w.heap.size + 1 + 1) (w.heap.size + 1) (w.heap.size + 1 + 1 + 1) [] ∧ Below w.heap.size w W := by
  have hb : Below w.heap.size w W := by rw [← hW]; exact below3 _ _ _ _
  have e1 : W.cell? ⟨w.heap.size, 0, none⟩ = some (.pointer (some ⟨xb, 0, none⟩)) := by rw [← hW]; clear hW; go_simp
  have e2 : W.cell? ⟨w.heap.size + 1 + 1, 0, none⟩ = some (.func (.func 44) #[] #[.pointer (some ⟨w.heap.size, 0, none⟩), .pointer (some ⟨w.heap.size + 1 + 1, 0, none⟩), .pointer (some ⟨w.heap.size + 1, 0, none⟩)]) := by rw [← hW]; clear hW; go_simp
  have hv : Boxed W (w.heap.size + 1) 25 (.slice none 0 0) := by
    rw [← hW]
    have := (Boxed.new (w.alloc (.cells #[.pointer (some ⟨xb, 0, none⟩)] t1)) 25 (.slice none 0 0)).alloc (.cells #[.func (.func 44) #[] #[.pointer (some ⟨w.heap.size, 0, none⟩), .pointer (some ⟨w.heap.size + 1 + 1, 0, none⟩), .pointer (some ⟨w.heap.size + 1, 0, none⟩)]] t3)
    rw [World.size_alloc] at this
    exact this
  have hx := hS.lt
  have hm := hS.map.lt
  have hz := hS.bel.size
  have hsz : W.heap.size = w.heap.size + 1 + 1 + 1 := by rw [← hW]; simp
  exact ⟨⟨hS.below hb, e1, e2, ⟨by omega, by omega, by omega, by omega, by omega⟩, ⟨by omega, by omega, by omega, by omega⟩, by omega, ⟨_, hv, .nil _ _ _ _ _⟩, by omega⟩, hb⟩
set_option maxRecDepth 20000 in
set_option maxHeartbeats 4000000 in
theorem full_any {w0 w : World} {xb mb nb : Nat} {a1 : Option Addr} {c1 : Nat} {s : Sg} {B : Bd} {θ : Int → List Int} {ρ : Int → Nat} (hS : SolvW w0 w xb mb nb a1 c1 s B) (hSl : Slv s B θ ρ) {a : Option Addr} {c : Nat} {t : List Int} (ht : T0 w0 a c t) :
    Calls Try.prog 34 #[.pointer (some ⟨xb, 0, none⟩), .slice a t.length c] w fun e w' => ∃ v r o', e = .returned (.tuple #[v, .bool r]) ∧ OwnI w' w.heap.size v o' ∧ Below w.heap.size w w' ∧ (r = true → o' = ap θ t ∧ o'.length ≤ 60) ∧ (r = false → 60 < (ap θ t).length) := by
  obtain ⟨K, hK⟩ := rank_bound ρ t
  have hSH := Lib.hid hS
  have m2 := ht.le
  have key := fun xx wb ob KK W => full1_any (w0 := w0) (xb := xb) (mb := mb) (nb := nb) (a1 := a1) (c1 := c1) hSl xx wb ob KK K t a c [] W hK ht
  have keyH := Lib.hid key
  clear key hS
  go_enter Try.func34, Try.ntmps34
  go_wp2_with fail
  obtain ⟨hF, hB⟩ := fulW_made hSH.out _ _ rfl
  (with_reducible refine (keyH.out _ _ _ _ _ hF (by decide)).mono ?_)
  rintro e w3 ⟨r, o', rfl, hf3, hW3, ht3, hn3⟩
  rw [List.nil_append] at hn3
  simp only [List.nil_append] at ht3
  obtain ⟨v, hv, ho⟩ := hW3.box
  have hcv := hv.cell
  have hoH := Lib.hid (OwnL.baseMono (base' := w.heap.size) ho (by omega))
  have hBH := Lib.hid (hB.trans (hf3.below (C := w.heap.size) (by omega) (by omega)))
  have htH := Lib.hid ht3
  have hnH := Lib.hid hn3
  clear hF hB hf3 hW3 ht3 hn3 hv ho
  go_wp2_with fail
  go_ret2
  exact ⟨v, r, o', rfl, hoH.out, hBH.out, htH.out, hnH.out⟩
set_option maxHeartbeats 2000000 in
theorem made_any {w0 w : World} {xb mb nb : Nat} {a1 : Option Addr} {c1 : Nat} {s : Sg} {B : Bd} {θ : Int → List Int} {ρ : Int → Nat} (hS : SolvW w0 w xb mb nb a1 c1 s B) (hSl : Slv s B θ ρ) {a : Option Addr} {c : Nat} {t : List Int} (ht : T0 w0 a c t) :
    Calls Try.prog 21 #[.pointer (some ⟨xb, 0, none⟩), .slice a t.length c] w (retE (madeE θ t) w) := by
  have m2 := ht.le
  have cf := full_any hS hSl ht
  have cfH := Lib.hid cf
  clear cf hS hSl ht
  go_enter Try.func21, Try.ntmps21
  go_wp2_with fail
  refine cfH.out.mono ?_
  rintro e w1 ⟨v, r, o, rfl, ho, hb1, ht, hn⟩
  clear cfH
  cases r with
  | false =>
    have hl := hn rfl
    have hm : madeE θ t = ([], 4) := by unfold madeE; exact if_neg (fun h => by omega)
    have hmH := Lib.hid hm
    clear ht hn ho hl hm
    go_wp2_with fail
    go_ret2
    exact ⟨_, by rw [hmH.out]; rfl, by rw [hmH.out]; exact .nil _ _ _ _ _, hb1⟩
  | true =>
    obtain ⟨he, h60⟩ := ht rfl
    obtain ⟨a4, c4, rfl, hI⟩ := OwnI.ints ho
    have cn := named_any a4 c4 _ _ hI (by unfold lim; omega)
    have cnH := Lib.hid cn
    have hm : madeE θ t = if (varsC o).length ≤ 12 then (canon o, 0) else ([], 4) := by
      unfold madeE
      rw [← he]
      by_cases h12 : (varsC o).length ≤ 12
      · rw [if_pos h12, if_pos ⟨h60, h12⟩]
      · rw [if_neg h12, if_neg (fun h => h12 h.2)]
    have hml := hI.le
    clear ht hn ho h60 hI cn he
    by_cases h12 : (varsC o).length ≤ 12
    · rw [if_pos h12] at hm
      have hmH := Lib.hid hm
      clear hm
      have hd : decide ((varsC o).length ≤ 12) = true := by simpa using h12
      rw [hd] at cnH
      clear hd h12
      go_wp2_with fail
      refine cnH.out.mono ?_
      rintro e w2 ⟨v, rfl, ho, hb2⟩
      obtain ⟨a5, c5, rfl, hI5⟩ := OwnI.ints ho
      have hoH := Lib.hid (OwnL.baseMono (base' := w.heap.size) ho hb1.size)
      clear ho hI5 cnH
      go_wp2_with fail
      go_ret2
      exact ⟨_, by rw [hmH.out]; rfl, by rw [hmH.out]; exact hoH.out, bcall hb1 hb2⟩
    · rw [if_neg h12] at hm
      have hmH := Lib.hid hm
      clear hm
      have hd : decide ((varsC o).length ≤ 12) = false := by simpa using h12
      rw [hd] at cnH
      clear hd h12
      go_wp2_with fail
      refine cnH.out.mono ?_
      rintro e w2 ⟨v, rfl, ho, hb2⟩
      clear ho cnH
      go_wp2_with fail
      go_ret2
      exact ⟨_, by rw [hmH.out]; rfl, by rw [hmH.out]; exact .nil _ _ _ _ _, bcall hb1 hb2⟩
theorem retE.below {r : List Int × Int} {w w1 : World} {e : Ending} {w' : World} (h : retE r w1 e w') (hb : Below w.heap.size w w1) : retE r w e w' := by
  obtain ⟨v, h1, h2, h3⟩ := h
  exact ⟨v, h1, OwnL.baseMono h2 hb.size, bcall hb h3⟩
set_option maxHeartbeats 2000000 in
theorem Meet_any {S1 S2 S3 : Nat → Prop} (a1 a2 a3 : Option Addr) (c1 c2 c3 : Nat) (s : Sg) (a b : List Int) (w : World) (h1 : Sign S1 w a1 c1 s) (h2 : Ints S2 w a2 c2 a) (h3 : Ints S3 w a3 c3 b) :
    Calls Try.prog 10 #[.slice a1 s.length c1, .slice a2 a.length c2, .slice a3 b.length c3] w (retE (meetE s a b) w) := by
  have m2 := h2.le
  have m3 := h3.le
  have v1 := Valid_any a1 a2 c1 c2 s a w h1 h2
  have v2 := fun W (hb : Below w.heap.size w W) => Valid_any a1 a3 c1 c3 s b W (h1.below hb) (h3.below hb)
  have v4 : okT s b = true → ∀ W, Below w.heap.size w W → _ := fun e2 W hb => apart_any a3 c3 b W (h3.below hb) (by have := (okT_parts e2).2.2.1; unfold lim; omega) (okT_ne e2) (okT_rg e2)
  have v3 : okT s a = true → okT s b = true → ∀ W, Below w.heap.size w W → ∀ (T : Nat → Prop) a4 c4, Ints T W a4 c4 (apartT b) → _ := fun e1 e2 W hb T a4 c4 hi => solved_any a1 a2 a4 c1 c2 c4 s a (apartT b) W (h1.below hb) (h2.below hb) hi (okT_parts e1).1 (okT_w1 e1) (apartT_w (okT_w1 e2)) (okT_Rg e1) (apartT_rg e2) (by have := (okT_parts e1).2.2.1; omega) (by rw [apartT_len]; have := (okT_parts e2).2.2.1; omega)
  have v5 : ∀ W, Below w.heap.size w W → T0 W a2 c2 a := fun W hb => (h2.below hb).lt.weak (fun _ h => h.2)
  unfold meetE
  have hal := apartT_len b
  generalize okT s a = x at *
  generalize okT s b = y at *
  have v1H := Lib.hid v1
  have v2H := Lib.hid v2
  have v3H := Lib.hid v3
  have v4H := Lib.hid v4
  have v5H := Lib.hid v5
  have halH := Lib.hid hal
  clear v1 v2 v3 v4 v5 h1 h2 h3 hal
  cases x with
  | false =>
    rw [if_neg (by simp)]
    go_enter Try.func10, Try.ntmps10
    go_wp2_with (go_at_call 15; refine v1H.out.mono ?_; rintro e w1 ⟨rfl, hb1⟩)
    go_ret2
    exact ⟨_, rfl, .nil _ _ _ _ _, hb1⟩
  | true =>
    cases y with
    | false =>
      rw [if_neg (by simp)]
      go_enter Try.func10, Try.ntmps10
      go_wp2_with fail
      refine v1H.out.mono ?_
      rintro e w1 ⟨rfl, hb1⟩
      go_wp2_with fail
      refine (v2H.out _ hb1).mono ?_
      rintro e w2 ⟨rfl, hb2⟩
      go_wp2_with fail
      go_ret2
      exact ⟨_, rfl, .nil _ _ _ _ _, bcall hb1 hb2⟩
    | true =>
      rw [if_pos ⟨rfl, rfl⟩]
      go_enter Try.func10, Try.ntmps10
      go_wp2_with fail
      refine v1H.out.mono ?_
      rintro e w1 ⟨rfl, hb1⟩
      go_wp2_with fail
      refine (v2H.out _ hb1).mono ?_
      rintro e w2 ⟨rfl, hb2⟩
      have hbb := bcall hb1 hb2
      clear hb1 hb2
      go_wp2_with fail
      refine (v4H.out trivial _ hbb).mono ?_
      rintro e w3 ⟨v, rfl, ho, hb3⟩
      obtain ⟨a4, c4, rfl, hI⟩ := OwnI.ints ho
      have hbb := bcall hbb hb3
      clear hb3 ho
      go_wp2_with fail
      refine (v3H.out trivial trivial _ hbb _ _ _ hI).mono ?_
      rintro e w4 ⟨xb, mb, r, rfl, hb4, hf, ht⟩
      clear hI
      cases r with
      | false =>
        have hmH := Lib.hid (uniE_none (hf rfl) a)
        have hb5 := bcall hbb hb4
        clear hf ht hbb hb4
        go_wp2_with fail
        go_ret2
        exact ⟨_, by rw [hmH.out]; rfl, by rw [hmH.out]; exact .nil _ _ _ _ _, hb5⟩
      | true =>
        obtain ⟨B, θ, ρ, n, g1, g2, g3, g4⟩ := ht rfl
        have hmH := Lib.hid (uniE_some g3 a)
        have cm := made_any g4 g1 (v5H.out _ hbb)
        have hb5 := bcall hbb hb4
        have cmH := Lib.hid cm
        clear hf ht hbb hb4 cm g1 g2 g3 g4
        go_wp2_with fail
        refine cmH.out.mono ?_
        rintro e w5 ⟨v, rfl, ho, hb6⟩
        have hoH := Lib.hid (OwnL.baseMono (base' := w.heap.size) ho hb5.size)
        clear ho cmH
        go_wp2_with fail
        go_ret2
        exact ⟨_, by rw [hmH.out]; rfl, by rw [hmH.out]; exact hoH.out, bcall hb5 hb6⟩
end Go.Proofs.Ytgkddhakhapjlaa

/- The least that two terms have in common, in plain words: pairs of parts told by variables. No program is named. -/
namespace Go.Proofs.Ytgkddhakhapjlaa

/-- a symbol, or a pair of parts that is told by a variable -/
abbrev Jt := Int ⊕ (List Int × List Int)
def jn (s : Sg) : Nat → List Int → List Int → List Jt
  | 0, _, _ => []
  | f + 1, a, b => if a.headD 0 < 0 ∨ a.headD 0 ≠ b.headD 0 then [.inr (a, b)] else .inl (a.headD 0) :: ((argsW s a).zip (argsW s b)).flatMap (fun e => jn s f e.1 e.2)
def addP (acc : Prs) (x : Jt) : Prs := match x with | .inl _ => acc | .inr p => if p ∈ acc then acc else acc ++ [p]
def codeP (D : Prs) (x : Jt) : Int := match x with | .inl n => n | .inr p => -(D.idxOf p : Int) - 1
def joinT (s : Sg) (a b : List Int) : List Int := (jn s a.length a b).map (codeP ((jn s a.length a b).foldl addP []))
def sideP (g : List Int × List Int → List Int) (x : Jt) : List Int := match x with | .inl n => [n] | .inr p => g p

theorem len_flatten' {l : List (List Int)} {u : List Int} (h : u ∈ l) : u.length ≤ l.flatten.length := by
  induction l with
  | nil => simp at h
  | cons x r ih =>
    rw [List.flatten_cons, List.length_append]
    rcases List.mem_cons.1 h with e | e
    · subst e; omega
    · have := ih e; omega
theorem argsW_lt {s : Sg} {n : Int} {r : List Int} (h : W1 s (n :: r)) {u : List Int} (hu : u ∈ argsW s (n :: r)) : u.length ≤ r.length := by
  have := len_flatten' hu
  rw [h.args.2.1] at this; exact this
theorem zip_flat {l m : List (List Int)} {F : List Int × List Int → List Int} (h : l.length = m.length) (hF : ∀ e ∈ l.zip m, F e = e.1) : (l.zip m).flatMap F = l.flatten := by
  induction l generalizing m with
  | nil => rfl
  | cons x l ih =>
    cases m with
    | nil => simp at h
    | cons y m =>
      rw [List.zip_cons_cons, List.flatMap_cons, List.flatten_cons, ih (by simpa using h) (fun e he => hF e (by rw [List.zip_cons_cons]; simp [he])), hF (x, y) (by rw [List.zip_cons_cons]; simp)]
theorem zip_flat2 {l m : List (List Int)} {F : List Int × List Int → List Int} (h : l.length = m.length) (hF : ∀ e ∈ l.zip m, F e = e.2) : (l.zip m).flatMap F = m.flatten := by
  induction l generalizing m with
  | nil => cases m with
    | nil => rfl
    | cons y m => simp at h
  | cons x l ih =>
    cases m with
    | nil => simp at h
    | cons y m =>
      rw [List.zip_cons_cons, List.flatMap_cons, List.flatten_cons, ih (by simpa using h) (fun e he => hF e (by rw [List.zip_cons_cons]; simp [he])), hF (x, y) (by rw [List.zip_cons_cons]; simp)]
theorem mem_zip {l m : List (List Int)} {e : List Int × List Int} (h : e ∈ l.zip m) : e.1 ∈ l ∧ e.2 ∈ m := by
  obtain ⟨e1, e2⟩ := e; exact List.of_mem_zip h
/-- the steps of a join: heads are equal -/
theorem jn_sym {s : Sg} {a b : List Int} (ha : W1 s a) (hb : W1 s b) (h : ¬ (a.headD 0 < 0 ∨ a.headD 0 ≠ b.headD 0)) : ∃ n x y, 0 ≤ n ∧ a = n :: x ∧ b = n :: y ∧ (argsW s a).length = (argsW s b).length := by
  cases a with
  | nil => exact (ha.ne rfl).elim
  | cons n x =>
    cases b with
    | nil => exact (hb.ne rfl).elim
    | cons m y =>
      simp only [List.headD_cons] at h
      have h1 : 0 ≤ n := by omega
      have h2 : n = m := by omega
      subst h2
      exact ⟨n, x, y, h1, rfl, rfl, by rw [ha.args.1, hb.args.1]⟩
theorem jn_sides {s : Sg} : ∀ (f : Nat) {a b : List Int}, W1 s a → W1 s b → a.length ≤ f → (jn s f a b).flatMap (sideP Prod.fst) = a ∧ (jn s f a b).flatMap (sideP Prod.snd) = b
  | 0, a, b, ha, _, hf => by have := ha.len; omega
  | f + 1, a, b, ha, hb, hf => by
    rw [jn]
    split
    · exact ⟨by simp [sideP], by simp [sideP]⟩
    · rename_i hh
      obtain ⟨n, x, y, hn, rfl, rfl, hl⟩ := jn_sym ha hb hh
      have ih := fun e (he : e ∈ (argsW s (n :: x)).zip (argsW s (n :: y))) => jn_sides f (ha.args.2.2.1 e.1 (mem_zip he).1) (hb.args.2.2.1 e.2 (mem_zip he).2) (by have := argsW_lt ha (mem_zip he).1; simp at hf; omega)
      rw [List.flatMap_cons, List.flatMap_cons, List.flatMap_assoc, List.flatMap_assoc, zip_flat hl (fun e he => (ih e he).1), zip_flat2 hl (fun e he => (ih e he).2), ha.args.2.1, hb.args.2.1]
      exact ⟨rfl, rfl⟩
theorem jn_items {s : Sg} : ∀ (f : Nat) {a b : List Int}, W1 s a → W1 s b → ∀ i ∈ jn s f a b, (∀ n, i = .inl n → 0 ≤ n) ∧ ∀ p, i = .inr p → W1 s p.1 ∧ W1 s p.2
  | 0, a, b, ha, _, i, hi => by simp [jn] at hi
  | f + 1, a, b, ha, hb, i, hi => by
    rw [jn] at hi
    split at hi
    · rw [List.mem_singleton] at hi
      subst hi
      exact ⟨fun n h => (by cases h), fun p h => by cases h; exact ⟨ha, hb⟩⟩
    · rename_i hh
      obtain ⟨n, x, y, hn, rfl, rfl, hl⟩ := jn_sym ha hb hh
      rcases List.mem_cons.1 hi with e | e
      · subst e
        exact ⟨fun m h => (by cases h; exact hn), fun p h => by cases h⟩
      · obtain ⟨e, he, hie⟩ := List.mem_flatMap.1 e
        exact jn_items f (ha.args.2.2.1 e.1 (mem_zip he).1) (hb.args.2.2.1 e.2 (mem_zip he).2) i hie
theorem jn_w {s : Sg} {c : Jt → Int} (hc1 : ∀ n, c (.inl n) = n) (hc2 : ∀ p, c (.inr p) < 0) : ∀ (f : Nat) {a b : List Int}, W1 s a → W1 s b → a.length ≤ f → W1 s ((jn s f a b).map c)
  | 0, a, b, ha, _, hf => by have := ha.len; omega
  | f + 1, a, b, ha, hb, hf => by
    rw [jn]
    split
    · exact W1.var (hc2 _)
    · rename_i hh
      obtain ⟨n, x, y, hn, rfl, rfl, hl⟩ := jn_sym ha hb hh
      have ih := fun e (he : e ∈ (argsW s (n :: x)).zip (argsW s (n :: y))) => jn_w hc1 hc2 f (ha.args.2.2.1 e.1 (mem_zip he).1) (hb.args.2.2.1 e.2 (mem_zip he).2) (by have := argsW_lt ha (mem_zip he).1; simp at hf; omega)
      rw [List.map_cons, hc1, List.headD_cons, List.map_flatMap]
      unfold W1
      rw [skw_cons, if_pos (by unfold cw; simpa using ha.args.2.2.2), Nat.zero_add]
      have hfl : ((argsW s (n :: x)).zip (argsW s (n :: y))).flatMap (fun e => (jn s f e.1 e.2).map c) = (((argsW s (n :: x)).zip (argsW s (n :: y))).map (fun e => (jn s f e.1 e.2).map c)).flatten := List.flatMap_def ..
      rw [hfl]
      have := skw_flatten (s := s) (((argsW s (n :: x)).zip (argsW s (n :: y))).map (fun e => (jn s f e.1 e.2).map c)) (fun u hu => by
        obtain ⟨e, he, rfl⟩ := List.mem_map.1 hu; exact ih e he)
      rw [List.length_map, List.length_zip, ← hl, Nat.min_self, ha.args.1] at this
      exact this
theorem codeP_neg (D : Prs) (p : List Int × List Int) : codeP D (.inr p) < 0 := by unfold codeP; simp only; omega

theorem addP_prefix (J : List Jt) : ∀ acc : Prs, acc <+: J.foldl addP acc := by
  induction J with
  | nil => intro acc; exact List.prefix_refl _
  | cons x r ih =>
    intro acc
    refine List.IsPrefix.trans ?_ (ih (addP acc x))
    unfold addP
    split
    · exact List.prefix_refl _
    · split
      · exact List.prefix_refl _
      · exact List.prefix_append _ _
theorem addP_mem {acc : Prs} {x : Jt} {p : List Int × List Int} : p ∈ addP acc x ↔ p ∈ acc ∨ x = .inr p := by
  unfold addP
  split
  · simp
  · rename_i q
    split
    · constructor
      · exact .inl
      · rintro (h | h)
        · exact h
        · cases h; assumption
    · rw [List.mem_append, List.mem_singleton]
      constructor
      · rintro (h | h)
        · exact .inl h
        · exact .inr (by rw [h])
      · rintro (h | h)
        · exact .inl h
        · cases h; exact .inr rfl
theorem mem_foldP (J : List Jt) (p : List Int × List Int) : ∀ acc : Prs, p ∈ J.foldl addP acc ↔ p ∈ acc ∨ .inr p ∈ J := by
  induction J with
  | nil => intro acc; simp
  | cons x r ih =>
    intro acc
    rw [List.foldl_cons, ih, addP_mem, List.mem_cons]
    constructor
    · rintro ((h | h) | h)
      · exact .inl h
      · exact .inr (.inl h.symm)
      · exact .inr (.inr h)
    · rintro (h | h | h)
      · exact .inl (.inl h)
      · exact .inl (.inr h.symm)
      · exact .inr h
/-- both terms are instances of what they have in common -/
theorem join_inst {s : Sg} {a b : List Int} (ha : W1 s a) (hb : W1 s b) : W1 s (joinT s a b) ∧ (∃ η, Wsub s η ∧ ap η (joinT s a b) = a) ∧ (∃ η, Wsub s η ∧ ap η (joinT s a b) = b) ∧ (joinT s a b).length ≤ a.length := by
  have hit := jn_items (s := s) a.length ha hb
  have hsd := jn_sides (s := s) a.length ha hb (Nat.le_refl _)
  have hW : W1 s (joinT s a b) := jn_w (fun _ => rfl) (codeP_neg _) a.length ha hb (Nat.le_refl _)
  obtain ⟨J, hJ⟩ : ∃ J, jn s a.length a b = J := ⟨_, rfl⟩
  rw [hJ] at hit hsd
  have hDm := fun p => mem_foldP J p []
  obtain ⟨D, hD⟩ : ∃ D, J.foldl addP [] = D := ⟨_, rfl⟩
  rw [hD] at hDm
  have hjt : joinT s a b = J.map (codeP D) := by unfold joinT; rw [hJ, hD]
  have key : ∀ g : List Int × List Int → List Int, (∀ p ∈ D, W1 s (g p)) → W1 s (g ([-1], [-1])) → ∃ η, Wsub s η ∧ ap η (joinT s a b) = J.flatMap (sideP g) := by
    intro g hg hg0
    refine ⟨fun n => g (D.getD (-n - 1).toNat ([-1], [-1])), fun n hn => ?_, ?_⟩
    · show W1 s (g _)
      rw [List.getD_eq_getElem?_getD]
      cases h : D[(-n - 1).toNat]? with
      | none => exact hg0
      | some x => exact hg x (List.mem_of_getElem? h)
    · rw [hjt]
      have : ∀ K : List Jt, (∀ i ∈ K, i ∈ J) → ap (fun n => g (D.getD (-n - 1).toNat ([-1], [-1]))) (K.map (codeP D)) = K.flatMap (sideP g) := by
        intro K
        induction K with
        | nil => intro _; rfl
        | cons i r ih =>
          intro hK
          have h1 := ih (fun j hj => hK j (by simp [hj]))
          have hi := hit i (hK i (by simp))
          rw [List.map_cons, List.flatMap_cons, ← h1]
          cases i with
          | inl n =>
            have h0 := hi.1 n rfl
            rw [show codeP D (.inl n) = n from rfl, ap_pos (by omega)]; rfl
          | inr p =>
            rw [ap_neg (codeP_neg D p)]
            have hp : p ∈ D := (hDm p).2 (.inr (hK _ (by simp)))
            have hlt := List.idxOf_lt_length_of_mem hp
            have : (-(codeP D (.inr p)) - 1).toNat = D.idxOf p := by unfold codeP; simp only; omega
            rw [this, List.getD_eq_getElem?_getD, List.getElem?_eq_getElem hlt]
            simp [sideP]
      exact this J (fun _ h => h)
  have hpr : ∀ p ∈ D, W1 s p.1 ∧ W1 s p.2 := fun p hp => by
    rcases (hDm p).1 hp with h | h
    · cases h
    · exact (hit _ h).2 p rfl
  obtain ⟨η1, w1, e1⟩ := key Prod.fst (fun p hp => (hpr p hp).1) (W1.var (by decide))
  obtain ⟨η2, w2, e2⟩ := key Prod.snd (fun p hp => (hpr p hp).2) (W1.var (by decide))
  rw [hsd.1] at e1
  rw [hsd.2] at e2
  refine ⟨hW, ⟨η1, w1, e1⟩, ⟨η2, w2, e2⟩, ?_⟩
  have := ap_len w1 (joinT s a b)
  rw [e1] at this; exact this
theorem argsW_ap {s : Sg} {η : Int → List Int} (hw : Wsub s η) {n : Int} {r : List Int} (h : W1 s (n :: r)) (h0 : 0 ≤ n) : argsW s (n :: ap η r) = (argsW s (n :: r)).map (ap η) := by
  have h2 : W1 s (n :: ap η r) := by
    have := W1.ap hw h
    rw [ap_pos (by omega)] at this; exact this
  refine flatten_uniq (s := s) (by rw [List.length_map, h2.args.1, h.args.1]) (fun u hu => h2.args.2.2.1 u hu) (fun u hu => ?_) ?_
  · obtain ⟨v, hv, rfl⟩ := List.mem_map.1 hu; exact (h.args.2.2.1 v hv).ap hw
  · rw [h2.args.2.1, ← ap_flatten, h.args.2.1]
theorem zip_map_flat {l : List (List Int)} {f : List Int → List Int} {G : List Int → List Int → List Jt} {g : Int → Jt} (h : ∀ u ∈ l, G u (f u) = u.map g) : (l.zip (l.map f)).flatMap (fun e => G e.1 e.2) = l.flatten.map g := by
  induction l with
  | nil => rfl
  | cons x r ih => rw [List.map_cons, List.zip_cons_cons, List.flatMap_cons, List.flatten_cons, List.map_append, ih (fun u hu => h u (by simp [hu])), h x (by simp)]
theorem jn_same {s : Sg} {η : Int → List Int} (hw : Wsub s η) : ∀ (f : Nat) {a : List Int}, W1 s a → a.length ≤ f → jn s f a (ap η a) = a.map (fun n => if n < 0 then .inr ([n], η n) else .inl n)
  | 0, a, ha, hf => by have := ha.len; omega
  | f + 1, a, ha, hf => by
    cases a with
    | nil => exact (ha.ne rfl).elim
    | cons n r =>
      by_cases h0 : n < 0
      · have hr := ha.leaf h0
        subst hr
        rw [jn, if_pos (.inl (by simpa using h0)), ap_one h0]
        simp [h0]
      · have hap : ap η (n :: r) = n :: ap η r := ap_pos h0
        rw [jn, hap, if_neg (by simp; omega), argsW_ap hw ha (by omega)]
        rw [zip_map_flat (g := fun n => if n < 0 then .inr ([n], η n) else .inl n) (fun u hu => jn_same hw f (ha.args.2.2.1 u hu) (by have := argsW_lt ha hu; simp at hf; omega)), ha.args.2.1]
        simp [h0]
theorem idxOf_map_of {α β : Type} [BEq α] [LawfulBEq α] [BEq β] [LawfulBEq β] (f : α → β) (v : List α) (x : α) (hinj : ∀ y ∈ v, f x = f y → x = y) : (v.map f).idxOf (f x) = v.idxOf x := by
  induction v with
  | nil => rfl
  | cons y r ih =>
    rw [List.map_cons, List.idxOf_cons, List.idxOf_cons, ih (fun z hz => hinj z (by simp [hz]))]
    by_cases h : x = y
    · subst h; simp
    · have : ¬ f x = f y := fun e => h (hinj y (by simp) e)
      have h1 : (f y == f x) = false := by simpa using fun e => this e.symm
      have h2 : (y == x) = false := by simpa using fun e => h e.symm
      rw [h1, h2]
theorem mem_map_of {α β : Type} {f : α → β} {v : List α} {x : α} (hinj : ∀ y ∈ v, f x = f y → x = y) : f x ∈ v.map f ↔ x ∈ v := by
  constructor
  · intro h
    obtain ⟨y, hy, e⟩ := List.mem_map.1 h
    have := hinj y hy e.symm
    subst this; exact hy
  · exact List.mem_map_of_mem
theorem join_of_inst {s : Sg} {η : Int → List Int} (hw : Wsub s η) {a : List Int} (ha : W1 s a) : joinT s a (ap η a) = canon a := by
  unfold joinT
  rw [jn_same hw a.length ha (Nat.le_refl _)]
  obtain ⟨g, hg⟩ : ∃ g : Int → Jt, g = fun n => if n < 0 then .inr ([n], η n) else .inl n := ⟨_, rfl⟩
  rw [← hg]
  have hD : ∀ (t : List Int) (acc : List Int), (∀ v ∈ acc, v < 0) → (t.map g).foldl addP (acc.map (fun v => ([v], η v))) = (t.foldl addV acc).map (fun v => ([v], η v)) := by
    intro t
    induction t with
    | nil => intro acc _; rfl
    | cons n r ih =>
      intro acc hacc
      rw [List.map_cons, List.foldl_cons, List.foldl_cons]
      have hinj : ∀ y ∈ acc, (([n], η n) : List Int × List Int) = ([y], η y) → n = y := fun y _ e => by
        have := (Prod.mk.inj e).1
        simpa using this
      have h1 : addP (acc.map (fun v => ([v], η v))) (g n) = (addV acc n).map (fun v => ([v], η v)) := by
        by_cases h0 : n < 0
        · rw [hg]
          simp only [if_pos h0]
          unfold addP addV
          by_cases hm : n ∈ acc
          · rw [if_neg (fun h => h.2 hm)]
            exact if_pos (List.mem_map_of_mem hm)
          · rw [if_pos ⟨h0, hm⟩, List.map_append]
            exact if_neg (fun h => hm ((mem_map_of (f := fun v => (([v], η v) : List Int × List Int)) hinj).1 h))
        · rw [hg]
          simp only [if_neg h0]
          unfold addP addV
          rw [if_neg (fun h => h0 h.1)]
      rw [h1]
      refine ih _ (fun v hv => ?_)
      rcases addV_mem.1 hv with h | ⟨e, h⟩
      · exact hacc v h
      · rw [e]; exact h
  have hD0 := hD a [] (fun _ h => by cases h)
  rw [List.map_nil] at hD0
  rw [hD0]
  unfold canon
  rw [List.map_map]
  refine List.map_congr_left (fun n hn => ?_)
  show codeP _ (g n) = _
  by_cases h0 : n < 0
  · rw [hg]
    simp only [if_pos h0]
    rw [canonW_neg h0]
    show -(((varsC a).map (fun v => ([v], η v))).idxOf (([n], η n) : List Int × List Int) : Int) - 1 = _
    rw [idxOf_map_of (fun v => (([v], η v) : List Int × List Int)) (varsC a) n (fun y _ e => by have := (Prod.mk.inj e).1; simpa using this)]
  · rw [hg]
    simp only [if_neg h0]
    rw [canonW_pos (by omega)]; rfl

/-! ### Join -/
def joinE (s : Sg) (a b : List Int) : List Int × Int :=
  if okT s a = true ∧ okT s b = true then (if (varsC (joinT s a b)).length ≤ 12 then (canon (joinT s a b), 0) else ([], 4)) else ([], 1)
/-- a joined with its meet with another one -/
theorem absorb1 {s : Sg} {a b : List Int} (h : (meetE s a b).2 = 0) : okT s a = true ∧ joinE s a (meetE s a b).1 = (canon a, 0) := by
  unfold meetE at h ⊢
  by_cases hk : okT s a = true ∧ okT s b = true
  · rw [if_pos hk] at h ⊢
    have ha := hk.1
    have hok := (okT_parts ha).1
    refine ⟨ha, ?_⟩
    rcases uni_cases hok (okT_w1 ha) (apartT_w (okT_w1 hk.2)) (okT_Rg ha) (apartT_rg hk.2) with ⟨θ, hθ⟩ | ⟨-, -, h3⟩
    · rw [uniE_some hθ] at h ⊢
      obtain ⟨o1, o2⟩ := madeE_ok hok hθ.th (okT_w1 ha) h
      unfold joinE
      rw [if_pos ⟨ha, o1⟩, o2, canon_ap (ap θ a), ap_ap]
      have hw : Wsub s (fun n => ap (fun m => [canonW (varsC (ap θ a)) m]) (θ n)) := fun n hn => (hθ.th n hn).ap (fun m hm => W1.var (canonW_lt hm))
      rw [join_of_inst hw (okT_w1 ha), canon_canon]
      have hle : (varsC (canon a)).length ≤ 12 := varsC_le12 (skip_codes s 1 _ (okT_parts (okT_canon ha)).2.2.2)
      rw [if_pos hle]
    · rw [h3] at h; cases h
  · rw [if_neg hk] at h; cases h
/-- a met with its join with another one -/
theorem absorb2 {s : Sg} {a b : List Int} (h : (joinE s a b).2 = 0) : okT s a = true ∧ meetE s a (joinE s a b).1 = (canon a, 0) := by
  unfold joinE at h ⊢
  by_cases hk : okT s a = true ∧ okT s b = true
  · rw [if_pos hk] at h ⊢
    by_cases hv : (varsC (joinT s a b)).length ≤ 12
    · rw [if_pos hv] at h ⊢
      have ha := hk.1
      have hok := (okT_parts ha).1
      obtain ⟨g1, ⟨η, hw, he⟩, -, g4⟩ := join_inst (okT_w1 ha) (okT_w1 hk.2)
      obtain ⟨τ, ht, hb⟩ := canon_back (s := s) (joinT s a b)
      have ho : okT s (canon (joinT s a b)) = true := okT_of_w1 hok (canon_w g1) (by rw [canon_len]; have := (okT_parts ha).2.2.1; omega) (canon_rg hv)
      refine ⟨ha, meet_inst ha ho (η := fun n => ap η (τ n)) (fun n hn => (ht n hn).ap hw) ?_⟩
      rw [← ap_ap, hb, he]
    · rw [if_neg hv] at h; cases h
  · rw [if_neg hk] at h; cases h
end Go.Proofs.Ytgkddhakhapjlaa

/- Keys of maps that are structs of strings or of ints; lists of bytes that a call makes. No program is named. -/
namespace Go.Proofs.Ytgkddhakhapjlaa
open Go Go.RowKit Go.Maps Go.WideMaps

theorem keyOf_strs {P : Program} {k : TypeId} {f0 f1 : Field} (hu : P.underlying k = some (.struct #[f0, f1])) (hk : P.keyType k = true) (hc : P.cellsOf k = 2) (hsz : ∃ m, P.types.size = m + 1)
    (o0 : f0.offset = 0) (o1 : f1.offset = 1) (c0 : P.cellsOf f0.type = 1) (c1 : P.cellsOf f1.type = 1) (n0 : (f0.name != "_") = true) (n1 : (f1.name != "_") = true) (u0 : P.underlying f0.type = some .string) (u1 : P.underlying f1.type = some .string)
    {a b : ByteArray} (wa : a.size ≤ maxLen) (wb : b.size ≤ maxLen) :
    keyOf P k (.agg #[.string a, .string b]) = some (.string (keyBytes [.string a.data.toList, .string b.data.toList])) := by
  obtain ⟨m, hm⟩ := hsz
  unfold keyOf
  simp only [hu]
  rw [if_pos (by simp [hk, Value.formed, hu, hc]), hm]
  unfold Program.keyLits
  simp only [hu, Value.cells]
  rw [if_pos ⟨by rw [hc]; rfl, by simp [n0, n1]⟩]
  simp [Program.keyLits, o0, o1, c0, c1, u0, u1, wa, wb]
theorem keyOf_ints3 {P : Program} {k : TypeId} {f0 f1 f2 : Field} (hu : P.underlying k = some (.struct #[f0, f1, f2])) (hk : P.keyType k = true) (hc : P.cellsOf k = 3) (hsz : ∃ m, P.types.size = m + 1)
    (o0 : f0.offset = 0) (o1 : f1.offset = 1) (o2 : f2.offset = 2) (c0 : P.cellsOf f0.type = 1) (c1 : P.cellsOf f1.type = 1) (c2 : P.cellsOf f2.type = 1) (n0 : (f0.name != "_") = true) (n1 : (f1.name != "_") = true) (n2 : (f2.name != "_") = true)
    (u0 : P.underlying f0.type = some (.int .i64)) (u1 : P.underlying f1.type = some (.int .i64)) (u2 : P.underlying f2.type = some (.int .i64))
    {a b c : Int} (wa : inRange a) (wb : inRange b) (wc : inRange c) :
    keyOf P k (.agg #[.int .i64 a, .int .i64 b, .int .i64 c]) = some (.string (keyBytes [.int .i64 a, .int .i64 b, .int .i64 c])) := by
  obtain ⟨m, hm⟩ := hsz
  unfold keyOf
  simp only [hu]
  rw [if_pos (by simp [hk, Value.formed, hu, hc]), hm]
  unfold Program.keyLits
  simp only [hu, Value.cells]
  rw [if_pos ⟨by rw [hc]; rfl, by simp [n0, n1, n2]⟩]
  simp [Program.keyLits, o0, o1, o2, c0, c1, c2, u0, u1, u2, wf_of_inRange wa, wf_of_inRange wb, wf_of_inRange wc]
/-- a kind of keys by their values: what the form reads them as need not be looked at -/
def keyK {κ : Type} {P : Program} {tk : TypeId} (hkd : Keyed P tk) (val : κ → Value) (lit : κ → Lit) (hkey : ∀ x, keyOf P tk (val x) = some (lit x)) (hinj : ∀ x y, val x = val y → x = y) : KeyK κ P tk where
  lit := lit
  val := val
  ok _ := True
  keyed := hkd
  key x _ := hkey x
  isKey x := hkd.key (hkey x)
  inj x y h := hinj x y (hkd.inj (hkey x) (by rw [h]; exact hkey y))

/-! ### bytes -/
def u8E : Enc UInt8 where
  size := 1
  pos := by decide
  R _ _ vs x := vs = [.int .u8 x.toNat]
  len h := by rw [h]; rfl
  one h := by rw [h]; simp [Value.oneCell']
  mono h _ _ := h
theorem u8_rows {S : Nat → Prop} {w : World} {xs : List (List Value)} {l : List UInt8} (hl : xs.length = l.length) (hx : ∀ i (h1 : i < xs.length) (h2 : i < l.length), u8E.R S w xs[i] l[i]) : xs = l.map (fun x => [Value.int .u8 x.toNat]) := by
  apply List.ext_getElem
  · simp [hl]
  · intro i h1 h2
    have := hx i h1 (by simpa using h2)
    rw [List.getElem_map]; exact this
theorem u8_flat (l : List UInt8) : (l.map (fun x => [Value.int .u8 x.toNat])).flatten = l.map (fun x => Value.int .u8 x.toNat) := by
  induction l with
  | nil => rfl
  | cons x r ih => simp [ih]
/-- bytes of a list that is not empty, as the library's laws read them -/
theorem OwnL.bytes {S : Nat → Prop} {w : World} {base : Nat} {e : TypeId} {g n cap : Nat} {l : List UInt8} (h : OwnL u8E S w base e (.slice (some ⟨g, 0, none⟩) n cap) l) (hn : n = l.length) : Lib.Bytes w g 0 ⟨l.toArray⟩ := by
  subst hn
  obtain ⟨xs, ho, hl, hx⟩ := h
  rw [u8_rows hl hx, u8_flat] at ho
  intro i hi
  have hi' : i < l.length := by simpa [ByteArray.size] using hi
  rw [Nat.zero_add, ho.cellAt i (by show i < l.length * 1; omega)]
  simp [hi', ByteArray.getElem_eq_getElem_data]
end Go.Proofs.Ytgkddhakhapjlaa

/- Walks of package unify: key; the map of pairs of parts. -/
namespace Go.Proofs.Ytgkddhakhapjlaa
open Go Go.RowKit Go.Maps Go.WideMaps

/-- a number of a valid term as a byte -/
def kb (n : Int) : UInt8 := UInt8.ofNat (n + 12).toNat
def keyS (t : List Int) : ByteArray := ⟨(t.map kb).toArray⟩
def okL (t : List Int) : Prop := (∀ n ∈ t, -12 ≤ n ∧ n ≤ 11) ∧ 1 ≤ t.length ∧ t.length ≤ 60
theorem kb_val {n : Int} (h : -12 ≤ n ∧ n ≤ 11) : ((kb n).toNat : Int) = n + 12 := by
  unfold kb
  rw [UInt8.toNat_ofNat_of_lt' (by show (n + 12).toNat < 256; omega)]; omega
theorem keyS_inj {a b : List Int} (ha : okL a) (hb : okL b) (h : keyS a = keyS b) : a = b := by
  have h1 : a.map kb = b.map kb := by
    have := congrArg (fun s : ByteArray => s.data.toList) h
    simpa [keyS] using this
  have h2 : ∀ (a b : List Int), (∀ n ∈ a, -12 ≤ n ∧ n ≤ 11) → (∀ n ∈ b, -12 ≤ n ∧ n ≤ 11) → a.map kb = b.map kb → a = b := by
    intro a
    induction a with
    | nil => intro b _ _ h; cases b with
      | nil => rfl
      | cons y r => simp at h
    | cons x r ih =>
      intro b ha hb h
      cases b with
      | nil => simp at h
      | cons y r' =>
        rw [List.map_cons, List.map_cons, List.cons.injEq] at h
        have e1 := kb_val (ha x (by simp))
        have e2 := kb_val (hb y (by simp))
        rw [h.1] at e1
        rw [ih r' (fun n hn => ha n (by simp [hn])) (fun n hn => hb n (by simp [hn])) h.2, show x = y by omega]
  exact h2 a b ha.1 hb.1 h1
theorem keyS_size (t : List Int) : (keyS t).size = t.length := by simp [keyS, ByteArray.size]
abbrev PrK : Type := {p : List Int × List Int // okL p.1 ∧ okL p.2}
theorem twoKeyed : Keyed Try.prog 74 := Keyed.of_law (deep_law_laid (by kernel_rfl) (m := 3) (by omega) (of_decide_eq_true (by kernel_rfl)) (by kernel_rfl) (by kernel_rfl))
theorem typesPos : ∃ m, Try.prog.types.size = m + 1 := ⟨Try.prog.types.size - 1, by have : 0 < Try.prog.types.size := of_decide_eq_true (by kernel_rfl); omega⟩
noncomputable abbrev KP : KeyK PrK Try.prog 74 := keyK twoKeyed (fun x => .agg #[.string (keyS x.1.1), .string (keyS x.1.2)]) (fun x => .string (keyBytes [.string (keyS x.1.1).data.toList, .string (keyS x.1.2).data.toList]))
  (fun x => keyOf_strs Try.underlying74 (by kernel_rfl) (by kernel_rfl) typesPos rfl rfl (by kernel_rfl) (by kernel_rfl) (by decide) (by decide) Try.underlying9 Try.underlying9
    (by rw [keyS_size]; have := x.2.1.2.2; unfold maxLen; omega) (by rw [keyS_size]; have := x.2.2.2.2; unfold maxLen; omega))
  (fun x y h => by
    simp only [Value.agg.injEq, Array.mk.injEq, List.cons.injEq, Value.string.injEq, and_true] at h
    exact Subtype.ext (Prod.ext (keyS_inj x.2.1 y.2.1 h.1) (keyS_inj x.2.2 y.2.2 h.2)))

theorem infoU8 : (Try.prog.info? 5).map (fun i => (i.zero, i.size, i.bytes)) = some (some (.int .u8 0), 1, 1) := by kernel_rfl
def keyRel (t : List Int) (w : World) (out i : Value) (wr : World) : Prop :=
  ∃ k : Nat, i = .int .i64 k ∧ k ≤ t.length ∧ OwnL u8E (fun _ => False) wr w.heap.size 5 out ((t.take k).map kb) ∧ Below w.heap.size w wr
set_option maxHeartbeats 1000000 in
theorem key_any {S : Nat → Prop} (a : Option Addr) (c : Nat) (t : List Int) (w : World) (h : Ints S w a c t) (hk : okL t) :
    Calls Try.prog 37 #[.slice a t.length c] w fun e w' => e = .returned (.string (keyS t)) ∧ Below w.heap.size w w' := by
  have m := h.le
  obtain ⟨hr, hl1, hl60⟩ := hk
  have hrH := Lib.hid hr
  clear hr
  go_enter Try.func37, Try.ntmps37
  go_wp2_with fail
  go_loopw [3, 8] (fun out i wr => keyRel t w out i wr) (fun _ i _ => t.length - (intOf i).toNat)
  case atStart => exact ⟨0, rfl, Nat.zero_le _, .nil _ _ _ _ _, .refl _ _⟩
  case round =>
    obtain ⟨k, rfl, hk, ho, hB⟩ := hrel
    by_cases hlt : k < t.length
    · obtain ⟨b, o, rfl, -, q, -⟩ := (h.below hB).int k hlt
      have hxr := hrH.out t[k] (List.getElem_mem hlt)
      have hstep : (t.take (k + 1)).map kb = (t.take k).map kb ++ [kb t[k]] := by rw [List.take_succ_eq_append_getElem hlt, List.map_append]; rfl
      obtain ⟨x, hx⟩ : ∃ x, t[k] = x := ⟨_, rfl⟩
      rw [hx] at q hxr hstep
      have hkv := kb_val hxr
      have e1 : IntKind.i64.wrap (x + 12) = x + 12 := IntWalk.i64_in _ (by omega)
      have e2 : IntKind.u8.wrap (x + 12) = x + 12 := by
        have : ((x + 12) : Int) < 256 := by omega
        unfold IntKind.wrap
        simp [IntKind.signed, IntKind.bits]
        omega
      obtain ⟨v', w', hrun, ho', hg, -⟩ := ho.push (P := Try.prog) (t := 84) (ty := 84) Try.underlying84 infoU8 rfl (vs := [.int .u8 (x + 12)]) (x := kb x) (by show [Value.int .u8 (x + 12)] = [Value.int .u8 ((kb x).toNat : Int)]; rw [hkv]) (by rw [List.length_map, List.length_take]; omega) (by rw [List.length_map, List.length_take]; unfold big; omega) hB.size
      have hoH := Lib.hid ho'
      have hstH := Lib.hid hstep
      have hrun2 := hrun
      have hBH := Lib.hid (hB.grown hg hB.size (fun j e => (ho.lt j e).1))
      clear ho ho' hstep hg hrun hx hkv
      go_wp2_with (at_builtin; refine wpList_append_run rfl _ _ _ rfl rfl rfl hrun2 ?_)
      clear hrun2
      go_roundw
      case rel => exact ⟨k + 1, by go_num, by omega, by rw [hstH.out]; exact hoH.out, hBH.out⟩
      case measure => simp [intOf]; omega
    · have hfull : t.take k = t := List.take_of_length_le (by omega)
      rw [hfull] at ho
      obtain ⟨g, cap, rfl, -, -⟩ := OwnL.form ho (by intro e; rw [List.map_eq_nil_iff] at e; subst e; simp at hl1)
      have hby := OwnL.bytes ho rfl
      have hcv := fun W (hb : Lib.Bytes W g 0 (keyS t)) => Lib.run_convert_whole (P := Try.prog) W 84 5 9 Try.underlying84 Try.underlying5 Try.underlying9 g 0 (keyS t) hb cap
      have hcv2 := hcv _ hby
      rw [keyS_size] at hcv2
      clear ho hby hcv hfull h
      go_wp2_with fail
      go_ret
      exact ⟨rfl, hB⟩
end Go.Proofs.Ytgkddhakhapjlaa

/- Walks of package unify: what a join keeps: the names of pairs. -/
namespace Go.Proofs.Ytgkddhakhapjlaa
open Go Go.RowKit Go.Maps Go.WideMaps

theorem grown_new {w w1 w2 : World} {o row : Option Nat} (h : w.grownBy w1 o) (g : w1.grownBy w2 row) (hr : ∀ k, row = some k → w.heap.size ≤ k) : w.grownBy w2 o :=
  ⟨g.os.trans h.os, g.tape.trans h.tape, g.output.trans h.output, Nat.le_trans h.size g.size, fun x hx hne => (g.block x (Nat.lt_of_lt_of_le hx h.size) (fun e => by have := hr x e.symm; omega)).trans (h.block x hx hne)⟩
theorem grown_bel {w w1 w2 : World} {o : Option Nat} (h : w.grownBy w1 o) (b : Below w1.heap.size w1 w2) : w.grownBy w2 o := grown_new h (Below.grow b) (fun k e => by cases e)
theorem grown_refl (w : World) (o : Option Nat) : w.grownBy w o := ⟨rfl, rfl, rfl, Nat.le_refl _, fun _ _ _ => rfl⟩

theorem idxOf_pre {α : Type} [BEq α] [LawfulBEq α] {a b : List α} (h : a <+: b) {x : α} (hx : x ∈ a) : b.idxOf x = a.idxOf x := by
  obtain ⟨c, rfl⟩ := h
  rw [List.idxOf_append, if_pos hx]
theorem codeP_pre {D D' : Prs} (h : D <+: D') {x : Jt} (hx : ∀ p, x = .inr p → p ∈ D) : codeP D' x = codeP D x := by
  cases x with
  | inl n => rfl
  | inr p => unfold codeP; simp only; rw [idxOf_pre h (hx p rfl)]
theorem fold_mem {J : List Jt} {D : Prs} : ∀ x ∈ J, ∀ p, x = .inr p → p ∈ J.foldl addP D := fun _ hx p e => (mem_foldP J p D).2 (.inr (e ▸ hx))
theorem map_codeP_pre {J : List Jt} {D D' : Prs} (h : D <+: D') (hJ : ∀ x ∈ J, ∀ p, x = .inr p → p ∈ D) : J.map (codeP D') = J.map (codeP D) := List.map_congr_left (fun x hx => codeP_pre h (hJ x hx))
theorem fold_len (J : List Jt) : ∀ D : Prs, (J.foldl addP D).length ≤ D.length + J.length := by
  induction J with
  | nil => intro D; simp
  | cons x r ih =>
    intro D
    have h1 := ih (addP D x)
    have h2 : (addP D x).length ≤ D.length + 1 := by
      unfold addP; split
      · omega
      · split
        · omega
        · simp
    rw [List.foldl_cons, List.length_cons]; omega
theorem items_len {s : Sg} : ∀ {J : List Jt}, (∀ i ∈ J, (∀ n, i = .inl n → 0 ≤ n) ∧ ∀ p, i = .inr p → W1 s p.1 ∧ W1 s p.2) → J.length ≤ (J.flatMap (sideP Prod.fst)).length
  | [], _ => by simp
  | x :: r, h => by
    have ih := items_len (s := s) (J := r) (fun i hi => h i (by simp [hi]))
    have h3 := h x (by simp)
    have h1 : 1 ≤ (sideP Prod.fst x).length := by
      cases x with
      | inl n => simp [sideP]
      | inr p => exact ((h3.2 p rfl).1).len
    rw [List.flatMap_cons, List.length_append, List.length_cons]; omega
theorem jn_len {s : Sg} (f : Nat) {a b : List Int} (ha : W1 s a) (hb : W1 s b) (hf : a.length ≤ f) : (jn s f a b).length ≤ a.length := by
  have h1 := items_len (jn_items (s := s) f ha hb)
  rw [(jn_sides (s := s) f ha hb hf).1] at h1; exact h1

/-- the map of the names of pairs -/
def NamP (w : World) (mm : Nat) (D : Prs) : Prop := ∃ f, VMap KP w mm D.length f ∧ ∀ x : PrK, f x = if x.1 ∈ D then some (.int .i64 (-(D.idxOf x.1 : Int) - 1)) else none
theorem NamP.made (w : World) : NamP (w.alloc (.map #[] 0)) w.heap.size [] := ⟨_, VMap.made KP w, fun _ => by simp⟩
section
variable {w w' : World} {mm : Nat} {D : Prs}
theorem NamP.lt (h : NamP w mm D) : mm < w.heap.size := by obtain ⟨f, h1, -⟩ := h; exact h1.lt
theorem NamP.same (h : NamP w mm D) (hb : w'.heap[mm]? = w.heap[mm]?) : NamP w' mm D := by obtain ⟨f, h1, h2⟩ := h; exact ⟨f, h1.same hb, h2⟩
theorem NamP.below (h : NamP w mm D) (hb : Below w.heap.size w w') : NamP w' mm D := h.same (hb.block mm h.lt)
theorem NamP.look_old (h : NamP w mm D) (x : PrK) (hx : x.1 ∈ D) (c : Bool) : (Instr.lookup 70 (.map (some mm)) (.agg #[.string (keyS x.1.1), .string (keyS x.1.2)]) c).run Try.prog w = .ok (if c = true then .tuple #[.int .i64 (-(D.idxOf x.1 : Int) - 1), .bool true] else .int .i64 (-(D.idxOf x.1 : Int) - 1)) w := by
  obtain ⟨f, h1, h2⟩ := h
  cases c with
  | true =>
    have := h1.look_ok (tm := 70) (te := 3) Try.underlying70 (zInt w) x trivial
    rw [h2 x, if_pos hx] at this; exact this
  | false =>
    have := h1.look (tm := 70) (te := 3) Try.underlying70 (zInt w) x trivial
    rw [h2 x, if_pos hx] at this; exact this
theorem NamP.look_new (h : NamP w mm D) (x : PrK) (hx : x.1 ∉ D) : (Instr.lookup 70 (.map (some mm)) (.agg #[.string (keyS x.1.1), .string (keyS x.1.2)]) true).run Try.prog w = .ok (.tuple #[.int .i64 0, .bool false]) w := by
  obtain ⟨f, h1, h2⟩ := h
  have := h1.look_ok (tm := 70) (te := 3) Try.underlying70 (zInt w) x trivial
  rw [h2 x, if_neg hx] at this; exact this
theorem NamP.len (h : NamP w mm D) (ty : TypeId) : (Builtin.len_ #[70] ty #[.map (some mm)]).run Try.prog w = .ok (.int .i64 D.length) w := by
  obtain ⟨f, h1, h2⟩ := h
  exact h1.len (tm := 70) (te := 3) Try.underlying70 ty
theorem NamP.store (h : NamP w mm D) (x : PrK) (hx : x.1 ∉ D) (hD : D.length ≤ 10000) :
    ∃ w', RowKit.Hid ((Instr.mapUpdate 70 (.map (some mm)) (.agg #[.string (keyS x.1.1), .string (keyS x.1.2)]) (.int .i64 (-(D.length : Int) - 1))).run Try.prog w = .ok () w') ∧ RowKit.Hid (NamP w' mm (D ++ [x.1])) ∧ RowKit.Hid (w.grownBy w' (some mm)) := by
  obtain ⟨f, h1, h2⟩ := h
  obtain ⟨w', hr, hv, hg⟩ := h1.store (tm := 70) (te := 3) Try.underlying70 (by unfold maxLen; omega) x trivial (.int .i64 (-(D.length : Int) - 1))
  rw [if_neg (by rw [h2 x, if_neg hx]; simp)] at hv
  refine ⟨w', Lib.hid hr, Lib.hid ⟨_, by rw [List.length_append, List.length_singleton]; exact hv, fun z => ?_⟩, Lib.hid hg⟩
  by_cases hz : z = x
  · subst hz
    rw [if_pos rfl, if_pos (by simp), List.idxOf_append, if_neg hx]
    simp
  · rw [if_neg hz, h2 z]
    have hz1 : z.1 ≠ x.1 := fun e => hz (Subtype.ext e)
    by_cases hm : z.1 ∈ D
    · rw [if_pos hm, if_pos (by simp [hm]), List.idxOf_append, if_pos hm]
    · rw [if_neg hm, if_neg (by rw [List.mem_append, List.mem_singleton]; rintro (h | h); exact hm h; exact hz1 h)]
end
/-- what lies in memory while two terms are joined -/
structure JW (w0 w : World) (nb sb wb mm : Nat) (a1 : Option Addr) (c1 : Nat) (s : Sg) : Prop where
  cn : w.cell? ⟨nb, 0, none⟩ = some (.map (some mm))
  cs : w.cell? ⟨sb, 0, none⟩ = some (.slice a1 s.length c1)
  cw : w.cell? ⟨wb, 0, none⟩ = some (.func (.func 36) #[] #[.pointer (some ⟨nb, 0, none⟩), .pointer (some ⟨sb, 0, none⟩), .pointer (some ⟨wb, 0, none⟩)])
  nes : nb ≠ mm ∧ sb ≠ mm ∧ wb ≠ mm
  sg : Sign (fun b => b < w0.heap.size) w0 a1 c1 s
  low : w0.heap.size ≤ mm
  bel : Below w0.heap.size w0 w
theorem JW.grown {w0 w w' : World} {nb sb wb mm : Nat} {a1 : Option Addr} {c1 : Nat} {s : Sg} (h : JW w0 w nb sb wb mm a1 c1 s) (hg : w.grownBy w' (some mm)) : JW w0 w' nb sb wb mm a1 c1 s := by
  have k : ∀ {b : Nat} {v : Value}, b ≠ mm → w.cell? ⟨b, 0, none⟩ = some v → w'.cell? ⟨b, 0, none⟩ = some v := fun hne hc =>
    (World.cell?_of_block (w := w) (hg.block _ (World.block_lt_of_cell? _ _ hc) (fun e => hne (by cases e; rfl)))).trans hc
  exact ⟨k h.nes.1 h.cn, k h.nes.2.1 h.cs, k h.nes.2.2 h.cw, h.nes, h.sg, h.low, h.bel.grown hg h.bel.size (fun j e => by cases e; exact h.low)⟩
def joinRet (s : Sg) (f : Nat) (a b : List Int) (mm : Nat) (D : Prs) (w : World) (e : Ending) (w' : World) : Prop :=
  ∃ v, e = .returned v ∧ OwnI w' w.heap.size v ((jn s f a b).map (codeP ((jn s f a b).foldl addP D))) ∧ NamP w' mm ((jn s f a b).foldl addP D) ∧ w.grownBy w' (some mm)
/-- the items of the first m arguments -/
def jnArgs (s : Sg) (f : Nat) (a b : List Int) (m : Nat) : List Jt := (((argsW s a).zip (argsW s b)).take m).flatMap (fun e => jn s f e.1 e.2)
theorem jnArgs_succ {s : Sg} {f : Nat} {a b : List Int} {m : Nat} (h1 : m < (argsW s a).length) (h2 : m < (argsW s b).length) : jnArgs s f a b (m + 1) = jnArgs s f a b m ++ jn s f (argsW s a)[m] (argsW s b)[m] := by
  unfold jnArgs
  rw [List.take_succ_eq_append_getElem (by rw [List.length_zip]; omega), List.flatMap_append]
  simp
theorem jnArgs_len {s : Sg} {f : Nat} {a b : List Int} (ha : W1 s a) (hb : W1 s b) (hf : a.length ≤ f + 1) (hl : (argsW s a).length = (argsW s b).length) : ∀ m, m ≤ (argsW s a).length → (jnArgs s f a b m).length ≤ ((argsW s a).take m).flatten.length
  | 0, _ => by simp [jnArgs]
  | m + 1, hm => by
    cases a with
    | nil => exact (ha.ne rfl).elim
    | cons n x =>
      cases b with
      | nil => exact (hb.ne rfl).elim
      | cons n' y =>
        have ih := jnArgs_len ha hb hf hl m (by omega)
        have hm1 : m < (argsW s (n :: x)).length := by omega
        rw [jnArgs_succ hm1 (by omega), List.length_append, List.take_succ_eq_append_getElem hm1, List.flatten_append, List.length_append]
        have hmem := List.getElem_mem hm1
        have := jn_len (s := s) f (ha.args.2.2.1 _ hmem) (hb.args.2.2.1 _ (List.getElem_mem (show m < (argsW s (n' :: y)).length by omega))) (by have := argsW_lt ha hmem; simp at hf; omega)
        rw [List.flatten_cons, List.flatten_nil, List.append_nil]; omega
end Go.Proofs.Ytgkddhakhapjlaa

/- Walks: Depth of the reference, Vars of the reference. -/
namespace Go.Proofs.Ytgkddhakhapjlaa
open Go Go.RowKit Go.Maps

def depRel (s : Sg) (t r : List Int) (p m F : Nat) (w : World) (most i : Value) (wr : World) : Prop :=
  ∃ j q D : Nat, i = .int .i64 j ∧ most = .int .i64 D ∧ j ≤ m ∧ q ≤ t.length ∧ p < q ∧ skip s j (t.drop (p + 1)) = some (t.drop q) ∧ skip s (m - j) (t.drop q) = some r ∧
    D ≤ F ∧ max D (depArgs (dep s F) s (m - j) (t.drop q)) = depArgs (dep s F) s m (t.drop (p + 1)) ∧ Below w.heap.size w wr
def depE (s : Sg) (t : List Int) : Int × Int := if okT s t = true then (((depth s t : Nat) : Int), 0) else (0, 1)
theorem depE_eq (s : Sg) (t : List Int) : (if okT s t then #[Value.int .i64 (depth s t : Nat), .int .i64 0] else #[.int .i64 0, .int .i64 1]) = #[.int .i64 (depE s t).1, .int .i64 (depE s t).2] := by
  unfold depE; split <;> rfl
end Go.Proofs.Ytgkddhakhapjlaa

/- Walks: lists of terms alike. -/
namespace Go.Proofs.Ytgkddhakhapjlaa
open Go Go.RowKit Go.Maps

end Go.Proofs.Ytgkddhakhapjlaa
