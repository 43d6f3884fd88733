/- The card of KernelChecks: for every input KernelChecks returns true and leaves its arguments as they were; the listed variables are tied to the program's text. No condition. -/
import Derived.Test.YthkamffmpejckaaGreatDoorUMatch
import Derived.Test.YthkamffmpejckaaGreatDoorMsB
import Derived.Test.YthkamffmpejckaaGreatDoorWalkL
import Derived.Test.YthkamffmpejckaaGreatDoorMath6
import Derived.Test.YthkamffmpejckaaGreatDoorRegion
import Derived.Deep.Cut
import Derived.Deep.RegionLaw
import Derived.Deep.RegionWith
import Derived.Test.YthkamffmpejckaaGreatDoorWalkE
import Derived.Test.YthkamffmpejckaaGreatDoorLit
import Derived.Test.YthkamffmpejckaaGreatDoorMsI
import Derived.Test.YthkamffmpejckaaGreatDoorBase
import Derived.Test.YthkamffmpejckaaGreatDoorMsA
import Derived.ProofKit
import Derived.LaidMore
import Derived.OpenShut
import Derived.Stop.Joined
import Derived.Deep.WholeRow
import Derived.Test.YthkamffmpejckaaGreatDoorMsR
import Derived.Test.YthkamffmpejckaaGreatDoorCards
import Derived.Test.YthkamffmpejckaaGreatDoorTie
/- Walks of package unify: match and Instance, walked. -/
namespace Go.Proofs.YthkamffmpejckaaGreatDoor
open Go Go.RowKit Go.Maps

theorem ret_2 {v : Value} {b b' : Bool} (h : b = b') : Ending.returned (.tuple #[v, .bool b]) = .returned (.tuple #[v, .bool b']) := by rw [h]
def matRel (s : Sg) (a b : List Int) (w : World) (iv kv : Value) (wr : World) : Prop :=
  ∃ (i k n : Nat) (B : Bd), iv = .int .i64 i ∧ kv = .int .i64 k ∧ MRel s a b k i B ∧ n ≤ k ∧ BdMap w wr w.heap.size n B ∧ Below w.heap.size w wr
set_option maxRecDepth 20000 in
set_option maxHeartbeats 8000000 in
theorem match_any {S1 S2 S3 : Nat → Prop} (a1 a2 a3 : Option Addr) (c1 c2 c3 : Nat) (s : Sg) (a b : List Int) (w : World) (h1 : Sign S1 w a1 c1 s) (h2 : Ints S2 w a2 c2 a) (h3 : Ints S3 w a3 c3 b) (hok : okSign s = true) (ha : W1 s a) (hb : W1 s b) (la : a.length ≤ 1000) (lb : b.length ≤ 1000) :
    Calls Tryz.prog 78 #[.slice a1 s.length c1, .slice a2 a.length c2, .slice a3 b.length c3] w fun e w' => ∃ v, e = .returned (.tuple #[v, .bool (instB s a b)]) ∧ Below w.heap.size w w' := by
  have m2 := h2.le
  have m3 := h3.le
  have hmm := @run_makeMap Tryz.prog
  have hst := Lib.hid (MRel.start ha hb)
  have hokH := Lib.hid hok
  have h1H := Lib.hid h1.lt
  have h2H := Lib.hid h2.lt
  have h3H := Lib.hid h3.lt
  clear ha hb hok h1 h2 h3
  go_enter Tryz.func78, Tryz.ntmps78
  go_wp2_with fail
  go_loopw [9, 19] (fun iv kv wr => matRel s a b w iv kv wr) (fun iv kv _ => a.length - (intOf kv).toNat)
  case atStart => exact ⟨0, 0, 0, _, rfl, rfl, hst.out, Nat.le_refl _, BdMap.made _ _, below1 _ _⟩
  case round =>
    obtain ⟨i, k, n, B, rfl, rfl, hM, hn, hD, hB⟩ := hrel
    by_cases hk : k < a.length
    · obtain ⟨hi, r, hr, hcw⟩ := hM.part hk
      obtain ⟨ba, oa, rfl, -, q1, r1⟩ := (h2H.out.below hB).int k hk
      obtain ⟨bb, ob, rfl, hbb, q2, -⟩ := (h3H.out.below hB).int i hi
      by_cases hneg : a[k] < 0
      · have hBm := fun v => hM.var_no (u := v) hk hneg hr
        have hBv := hM.var hk hneg hr
        obtain ⟨e1, e2, -, -, e5, e6, e7⟩ := part_ends hi hr
        obtain ⟨u, hu⟩ : ∃ u, partW s (b.drop i) = u := ⟨_, rfl⟩
        obtain ⟨x, hx⟩ : ∃ x, a[k] = x := ⟨_, rfl⟩
        obtain ⟨to, hto⟩ : ∃ to, b.length - r.length = to := ⟨_, rfl⟩
        have caft := after_any a1 (some ⟨bb, ob, none⟩) c1 c3 s b i r wr (h1H.out.below hB) (h3H.out.below hB) hokH.out hr
        have hpart : Ints (fun x => x < w.heap.size) w (some ⟨bb, ob + i, none⟩) (to - i) u := by
          rw [← hu, e1, hto]
          exact (Ints.part h3H.out i to (to - i) (by omega) (by omega) (Nat.le_refl _) (by have := h3H.out.cap; omega)).weak (fun x hx => hx.2)
        rw [hto] at caft e2 e6 e7 hBv
        rw [hu] at hBm hBv e5 e6
        rw [hx] at q1 r1 hneg hBm hBv
        have hcapt : to ≤ c3 := by have := h3H.out.cap; omega
        have caftH := Lib.hid caft
        have hMH := Lib.hid hM
        have hBmH := Lib.hid hBm
        have hBvH := Lib.hid hBv
        have hpartH := Lib.hid hpart
        have hBH := Lib.hid hB
        have hDH := Lib.hid hD
        have e6H := Lib.hid e6
        have r1H := Lib.hid r1
        have htob : to ≤ b.length := by omega
        have hmb := hD.lt
        clear caft hM hBm hBv hpart hr hx hu e1 e6 e5 hcw hto r1
        cases hBx : B x with
        | none =>
          have hl := hDH.out.look_none x r1H.out hBx
          have hbvH := Lib.hid (hBvH.out (.inl hBx))
          clear hBvH hBmH hB hD hBx
          obtain ⟨w', n', hst2, hn', hD', hg, -⟩ := hDH.out.store (by unfold maxLen; omega) x r1H.out hpartH.out
          rw [e6H.out] at hst2
          have hst3 := hst2.out
          go_wp2_with (go_at_call 106; refine caftH.out.mono ?_; rintro e w9 ⟨rfl, rfl⟩)
          go_roundw
          case rel => exact ⟨to, k + 1, n', _, rfl, by go_num, hbvH.out, by have := hn'.out; omega, hD'.out, hBH.out.grown hg.out hBH.out.size (fun j e => by injection e with e; omega)⟩
          case measure => simp [intOf]; omega
        | some v =>
          obtain ⟨av, cv, hl, hIv⟩ := hDH.out.look_some x r1H.out hBx
          have ce := Equal_any av (some ⟨bb, ob + i, none⟩) cv (to - i) v u wr (hIv.below hB) (hpartH.out.below hB)
          rw [e6H.out] at ce
          by_cases hvu : v = u
          · rw [decide_eq_true hvu] at ce
            have hbvH := Lib.hid (hBvH.out (.inr (by rw [hBx, hvu])))
            have hsomeH : RowKit.Hid ((B x).isSome = true) := Lib.hid (by rw [hBx]; rfl)
            have ceH := Lib.hid ce
            clear hBvH hBmH hB hD hBx hvu ce hIv
            go_wp2_with (first | (go_at_call 106; refine caftH.out.mono ?_; rintro e w9 ⟨rfl, rfl⟩) | (go_at_call 84; refine ceH.out.mono ?_; rintro e w9 ⟨rfl, hd9⟩; obtain ⟨w', n', hst2, hn', hD', hg, -⟩ := (hDH.out.below (hd9.below wr.heap.size) hmb).store (by unfold maxLen; omega) x r1H.out hpartH.out; rw [e6H.out] at hst2; have hst3 := hst2.out))
            go_roundw
            case rel =>
              have hB9 := bcall hBH.out (hd9.below _)
              exact ⟨to, k + 1, n', _, rfl, by go_num, hbvH.out, by have := hn'.out; omega, hD'.out, hB9.grown hg.out hB9.size (fun j e => by injection e with e; omega)⟩
            case measure => simp [intOf]; omega
          · rw [decide_eq_false hvu] at ce
            have hfH := Lib.hid (hBmH.out v hBx hvu)
            have ceH := Lib.hid ce
            clear hBvH hBmH hB hD hBx hvu ce hIv
            go_wp2_with (first | (go_at_call 106; refine caftH.out.mono ?_; rintro e w9 ⟨rfl, rfl⟩) | (go_at_call 84; refine ceH.out.mono ?_; rintro e w9 ⟨rfl, hd9⟩))
            go_ret2
            exact ⟨_, ret_2 hfH.out.symm, bcall hBH.out (hd9.below _)⟩
      · by_cases he : b[i] = a[k]
        · have hsH := Lib.hid (hM.sym hk hi hneg he)
          rw [he] at q2
          obtain ⟨x, hx⟩ : ∃ x, a[k] = x := ⟨_, rfl⟩
          rw [hx] at q1 q2 hneg
          have hxx : (x != x) = false := by simp
          have hBH := Lib.hid hB
          have hDH := Lib.hid hD
          clear hM hr hcw he hx hB hD
          go_wp2_with fail
          go_roundw
          case rel => exact ⟨i + 1, k + 1, n, B, by go_num, by go_num, hsH.out, by omega, hDH.out, hBH.out⟩
          case measure => simp [intOf]; omega
        · have hfH := Lib.hid (hM.sym_no hk hi hneg he)
          obtain ⟨x, hx⟩ : ∃ x, a[k] = x := ⟨_, rfl⟩
          obtain ⟨y, hy⟩ : ∃ y, b[i] = y := ⟨_, rfl⟩
          rw [hx] at q1 hneg he
          rw [hy] at q2 he
          have hxx : (y != x) = true := by simpa using he
          have hBH := Lib.hid hB
          clear hM hr hcw he hx hy hB hD
          go_wp2_with fail
          go_ret2
          first | exact ⟨_, ret_2 hfH.out.symm, hBH.out⟩ | exact ⟨⟨_, ret_2 hfH.out.symm⟩, hBH.out⟩
    · obtain rfl : k = a.length := by have := hM.ka; omega
      have hfH := Lib.hid hM.done
      clear hM
      go_wp2_with fail
      go_ret2
      exact ⟨_, ret_2 hfH.out.symm, hB⟩

set_option maxHeartbeats 1000000 in
theorem Instance_any {S1 S2 S3 : Nat → Prop} (a1 a2 a3 : Option Addr) (c1 c2 c3 : Nat) (s : Sg) (a b : List Int) (w : World) (h1 : Sign S1 w a1 c1 s) (h2 : Ints S2 w a2 c2 a) (h3 : Ints S3 w a3 c3 b) :
    Calls Tryz.prog 47 #[.slice a1 s.length c1, .slice a2 a.length c2, .slice a3 b.length c3] w fun e w' => e = .returned (.bool (okT s a && okT s b && instB s a b)) ∧ Below w.heap.size w w' := by
  have m2 := h2.le
  have m3 := h3.le
  have v1 := Valid_any a1 a2 c1 c2 s a w h1 h2
  have v2 := fun W (hb : Below w.heap.size w W) => Valid_any a1 a3 c1 c3 s b W (h1.below hb) (h3.below hb)
  have v3 : okT s a = true → okT s b = true → ∀ W, Below w.heap.size w W → _ := fun e1 e2 W hb => match_any a1 a2 a3 c1 c2 c3 s a b W (h1.below hb) (h2.below hb) (h3.below hb) (okT_parts e1).1 (okT_w1 e1) (okT_w1 e2) (by have := (okT_parts e1).2.2.1; omega) (by have := (okT_parts e2).2.2.1; omega)
  generalize okT s a = x at *
  generalize okT s b = y at *
  generalize instB s a b = z at *
  have v1H := Lib.hid v1
  have v2H := Lib.hid v2
  have v3H := Lib.hid v3
  clear v1 v2 v3 h1 h2 h3
  cases x with
  | false =>
    go_enter Tryz.func47, Tryz.ntmps47
    go_wp2_with (go_at_call 37; refine v1H.out.mono ?_; rintro e w1 ⟨rfl, hb1⟩)
    go_ret
    exact ⟨rfl, hb1⟩
  | true =>
    cases y with
    | false =>
      go_enter Tryz.func47, Tryz.ntmps47
      go_wp2_with fail
      refine v1H.out.mono ?_
      rintro e w1 ⟨rfl, hb1⟩
      go_wp2_with fail
      refine (v2H.out _ hb1).mono ?_
      rintro e w2 ⟨rfl, hb2⟩
      go_wp2_with fail
      go_ret
      exact ⟨rfl, bcall hb1 hb2⟩
    | true =>
      go_enter Tryz.func47, Tryz.ntmps47
      go_wp2_with fail
      refine v1H.out.mono ?_
      rintro e w1 ⟨rfl, hb1⟩
      go_wp2_with fail
      refine (v2H.out _ hb1).mono ?_
      rintro e w2 ⟨rfl, hb2⟩
      have hbb := bcall hb1 hb2
      go_wp2_with fail
      refine (v3H.out trivial trivial _ hbb).mono ?_
      rintro e w3 ⟨v, rfl, hb3⟩
      go_wp2_with fail
      go_ret
      exact ⟨by simp, bcall hbb hb3⟩
end Go.Proofs.YthkamffmpejckaaGreatDoor

/- Unification by the reference's solver, in plain words. No program is named. -/
namespace Go.Proofs.YthkamffmpejckaaGreatDoor

/-- what solving two terms makes of what is bound -/
structure Slv2 (s : Sg) (B : Bd) (θ : Int → List Int) (ρ : Int → Nat) (a b : List Int) (B' : Bd) (θ' : Int → List Int) (ρ' : Int → Nat) : Prop where
  slv : Slv s B' θ' ρ'
  rg : RgB B'
  sat : ∀ η, Wsub s η → (Sat B' η ↔ Sat B η ∧ ap η a = ap η b)
  less : (B' = B ∧ θ' = θ ∧ ρ' = ρ) ∨ free B' < free B
section
variable {s : Sg} {B : Bd} {θ : Int → List Int} {ρ : Int → Nat} {a b p q : List Int}
theorem W1.head_var {p : List Int} (h : W1 s p) (h0 : p.headD 0 < 0) : p = [p.headD 0] := by
  cases p with
  | nil => exact (h.ne rfl).elim
  | cons n x => have := h.leaf h0; subst this; rfl
theorem Slv2.same (h : Slv s B θ ρ) (hr : RgB B) (ha : W1 s a) (hb : W1 s b) (hp : Lkd B a p) (hq : Lkd B b q) (h0 : p.headD 0 < 0) (e : q.headD 0 = p.headD 0) : Slv2 s B θ ρ a b B θ ρ := by
  refine ⟨h, hr, fun η hw => ⟨fun hs => ⟨hs, ?_⟩, fun hs => hs.1⟩, .inl ⟨rfl, rfl, rfl⟩⟩
  have h1 := (hp.spec h ha).1.head_var h0
  have h2 := (hq.spec h hb).1.head_var (by omega)
  rw [← hp.eta hs ha (fun n u hB => (h.wf n u hB).1), ← hq.eta hs hb (fun n u hB => (h.wf n u hB).1), h1, h2, e]
theorem Slv2.bound (h : Slv s B θ ρ) (hr : RgB B) (ha : W1 s a) (hb : W1 s b) (ra : Rg a) (rb : Rg b) (hp : Lkd B a p) (hq : Lkd B b q) (h0 : p.headD 0 < 0) (ho : p.headD 0 ∉ ap θ q) :
    ∃ θ' ρ', Slv2 s B θ ρ a b (upB B (p.headD 0) q) θ' ρ' := by
  obtain ⟨p1, p2, p3⟩ := hp.spec h ha
  obtain ⟨q1, q2, q3⟩ := hq.spec h hb
  have h1 := p1.head_var h0
  have hB : B (p.headD 0) = none := p3 _ [] h1 h0
  obtain ⟨θ', ρ', hs⟩ := h.bind h0 hB q1 ho
  have hrp := hp.rg hr ra
  have h24 : -24 ≤ p.headD 0 := hrp _ (by rw [h1]; simp) h0
  refine ⟨θ', ρ', hs, ?_, fun η hw => ?_, .inr (free_bind h0 h24 hB)⟩
  · intro n u hn
    unfold upB at hn
    split at hn
    · rename_i e
      cases hn
      exact ⟨hq.rg hr rb, by omega⟩
    · exact hr n u hn
  · rw [sat_upB hB]
    constructor
    · rintro ⟨g1, g2⟩
      refine ⟨g1, ?_⟩
      rw [← hp.eta g1 ha (fun n u hB => (h.wf n u hB).1), ← hq.eta g1 hb (fun n u hB => (h.wf n u hB).1), h1, ap_one h0]; exact g2
    · rintro ⟨g1, g2⟩
      refine ⟨g1, ?_⟩
      rw [← hp.eta g1 ha (fun n u hB => (h.wf n u hB).1), ← hq.eta g1 hb (fun n u hB => (h.wf n u hB).1), h1, ap_one h0] at g2; exact g2
theorem slv_occurs (h : Slv s B θ ρ) (ha : W1 s a) (hb : W1 s b) (hp : Lkd B a p) (hq : Lkd B b q) (h0 : p.headD 0 < 0) (e : q.headD 0 ≠ p.headD 0) (ho : p.headD 0 ∈ ap θ q) :
    ∀ η, Wsub s η → Sat B η → ap η a ≠ ap η b := by
  intro η hw hs he
  obtain ⟨p1, p2, p3⟩ := hp.spec h ha
  obtain ⟨q1, q2, q3⟩ := hq.spec h hb
  have h1 := p1.head_var h0
  rw [← hp.eta hs ha (fun n u hB => (h.wf n u hB).1), ← hq.eta hs hb (fun n u hB => (h.wf n u hB).1), h1, ap_one h0] at he
  refine h.occurs_no h0 ho (fun e2 => ?_) hw hs he
  by_cases hq0 : q.headD 0 < 0
  · have h2 := q1.head_var hq0
    rw [h2, ap_one hq0, h.free _ hq0 (q3 _ [] h2 hq0)] at e2
    exact e (List.cons.inj e2).1
  · cases q with
    | nil => exact q1.ne rfl
    | cons n x =>
      simp only [List.headD_cons] at hq0 e
      rw [ap_pos hq0] at e2
      exact e (List.cons.inj e2).1
theorem slv_clash (h : Slv s B θ ρ) (ha : W1 s a) (hb : W1 s b) (hp : Lkd B a p) (hq : Lkd B b q) (h0 : 0 ≤ p.headD 0) (h1 : 0 ≤ q.headD 0) (e : p.headD 0 ≠ q.headD 0) :
    ∀ η, Wsub s η → Sat B η → ap η a ≠ ap η b := by
  intro η hw hs he
  obtain ⟨p1, p2, p3⟩ := hp.spec h ha
  obtain ⟨q1, q2, q3⟩ := hq.spec h hb
  rw [← hp.eta hs ha (fun n u hB => (h.wf n u hB).1), ← hq.eta hs hb (fun n u hB => (h.wf n u hB).1)] at he
  cases p with
  | nil => exact p1.ne rfl
  | cons n x =>
    cases q with
    | nil => exact q1.ne rfl
    | cons m y =>
      simp only [List.headD_cons] at h0 h1 e
      rw [ap_pos (by omega), ap_pos (by omega)] at he
      exact e (List.cons.inj he).1
/-- solved up to the k-th argument -/
structure SlvK (s : Sg) (B : Bd) (θ : Int → List Int) (ρ : Int → Nat) (p q : List Int) (k : Nat) (B' : Bd) (θ' : Int → List Int) (ρ' : Int → Nat) : Prop where
  slv : Slv s B' θ' ρ'
  rg : RgB B'
  sat : ∀ η, Wsub s η → (Sat B' η ↔ Sat B η ∧ ((argsW s p).take k).map (ap η) = ((argsW s q).take k).map (ap η))
  less : (B' = B ∧ θ' = θ ∧ ρ' = ρ) ∨ free B' < free B
theorem SlvK.start (h : Slv s B θ ρ) (hr : RgB B) : SlvK s B θ ρ p q 0 B θ ρ := ⟨h, hr, fun η _ => by simp, .inl ⟨rfl, rfl, rfl⟩⟩
theorem take_map_snoc {x y : List (List Int)} {k : Nat} (f : List Int → List Int) (hx : k < x.length) (hy : k < y.length) : (x.take (k + 1)).map f = (y.take (k + 1)).map f ↔ (x.take k).map f = (y.take k).map f ∧ f x[k] = f y[k] := by
  rw [List.take_succ_eq_append_getElem hx, List.take_succ_eq_append_getElem hy, List.map_append, List.map_append]
  constructor
  · intro h
    have := List.append_inj h (by simp; omega)
    exact ⟨this.1, by simpa using this.2⟩
  · rintro ⟨h1, h2⟩
    rw [h1]; simp [h2]
theorem SlvK.step {k : Nat} {B1 B2 : Bd} {θ1 θ2 : Int → List Int} {ρ1 ρ2 : Int → Nat} (h : SlvK s B θ ρ p q k B1 θ1 ρ1) (hx : k < (argsW s p).length) (hy : k < (argsW s q).length) (h2 : Slv2 s B1 θ1 ρ1 (argsW s p)[k] (argsW s q)[k] B2 θ2 ρ2) :
    SlvK s B θ ρ p q (k + 1) B2 θ2 ρ2 := by
  refine ⟨h2.slv, h2.rg, fun η hw => ?_, ?_⟩
  · rw [h2.sat η hw, h.sat η hw, take_map_snoc (ap η) hx hy, and_assoc]
  · rcases h2.less with ⟨e1, e2, e3⟩ | e
    · rw [e1, e2, e3]; exact h.less
    · rcases h.less with ⟨g1, -, -⟩ | g
      · rw [g1] at e; exact .inr e
      · exact .inr (by omega)
theorem SlvK.eq_args (h : Slv s B θ ρ) (ha : W1 s a) (hb : W1 s b) (hp : Lkd B a p) (hq : Lkd B b q) (h0 : 0 ≤ p.headD 0) (e : q.headD 0 = p.headD 0) {η : Int → List Int} (hw : Wsub s η) (hs : Sat B η) :
    ap η a = ap η b ↔ (argsW s p).map (ap η) = (argsW s q).map (ap η) := by
  obtain ⟨p1, p2, p3⟩ := hp.spec h ha
  obtain ⟨q1, q2, q3⟩ := hq.spec h hb
  rw [← hp.eta hs ha (fun n u hB => (h.wf n u hB).1), ← hq.eta hs hb (fun n u hB => (h.wf n u hB).1)]
  cases p with
  | nil => exact (p1.ne rfl).elim
  | cons n x =>
    cases q with
    | nil => exact (q1.ne rfl).elim
    | cons m y =>
      simp only [List.headD_cons] at h0 e
      subst e
      exact ap_eq_args hw p1 q1 h0
theorem SlvK.fin {k : Nat} {B1 : Bd} {θ1 : Int → List Int} {ρ1 : Int → Nat} (h : Slv s B θ ρ) (ha : W1 s a) (hb : W1 s b) (hp : Lkd B a p) (hq : Lkd B b q) (h0 : 0 ≤ p.headD 0) (e : q.headD 0 = p.headD 0)
    (hk : SlvK s B θ ρ p q k B1 θ1 ρ1) (h1 : (argsW s p).length ≤ k) (h2 : (argsW s q).length ≤ k) : Slv2 s B θ ρ a b B1 θ1 ρ1 := by
  refine ⟨hk.slv, hk.rg, fun η hw => ?_, hk.less⟩
  rw [hk.sat η hw, List.take_of_length_le h1, List.take_of_length_le h2]
  constructor
  · rintro ⟨g1, g2⟩; exact ⟨g1, (SlvK.eq_args h ha hb hp hq h0 e hw g1).2 g2⟩
  · rintro ⟨g1, g2⟩; exact ⟨g1, (SlvK.eq_args h ha hb hp hq h0 e hw g1).1 g2⟩
theorem SlvK.fail {k : Nat} {B1 : Bd} {θ1 : Int → List Int} {ρ1 : Int → Nat} (h : Slv s B θ ρ) (ha : W1 s a) (hb : W1 s b) (hp : Lkd B a p) (hq : Lkd B b q) (h0 : 0 ≤ p.headD 0) (e : q.headD 0 = p.headD 0)
    (hk : SlvK s B θ ρ p q k B1 θ1 ρ1) (hx : k < (argsW s p).length) (hy : k < (argsW s q).length) (hf : ∀ η, Wsub s η → Sat B1 η → ap η (argsW s p)[k] ≠ ap η (argsW s q)[k]) :
    ∀ η, Wsub s η → Sat B η → ap η a ≠ ap η b := by
  intro η hw hs he
  have h2 := (SlvK.eq_args h ha hb hp hq h0 e hw hs).1 he
  have h3 : ∀ i, ((argsW s p).take i).map (ap η) = ((argsW s q).take i).map (ap η) := fun i => by rw [List.map_take, List.map_take, h2]
  exact hf η hw ((hk.sat η hw).2 ⟨hs, h3 k⟩) ((take_map_snoc (ap η) hx hy).1 (h3 (k + 1))).2
/-- the arguments become smaller, or fewer variables are free -/
theorem SlvK.down {k : Nat} {B1 : Bd} {θ1 : Int → List Int} {ρ1 : Int → Nat} (h : Slv s B θ ρ) (ha : W1 s a) (hp : Lkd B a p) (h0 : 0 ≤ p.headD 0) (hk : SlvK s B θ ρ p q k B1 θ1 ρ1) (hx : k < (argsW s p).length) :
    free B1 < free B ∨ (B1 = B ∧ (ap θ1 (argsW s p)[k]).length < (ap θ a).length) := by
  rcases hk.less with ⟨g1, g2, g3⟩ | g
  · refine .inr ⟨g1, ?_⟩
    obtain ⟨p1, p2, p3⟩ := hp.spec h ha
    rw [g2, ← p2]
    cases p with
    | nil => exact (p1.ne rfl).elim
    | cons n x =>
      obtain ⟨A1, A2, A3, -⟩ := p1.args
      rw [ap_pos (by simpa using h0), List.length_cons]
      conv => rhs; rw [← A2]
      have : ∀ (l : List (List Int)) (i : Nat) (hi : i < l.length), (ap θ l[i]).length ≤ (ap θ l.flatten).length := by
        intro l
        induction l with
        | nil => intro i hi; simp at hi
        | cons y r ih =>
          intro i hi
          rw [List.flatten_cons, ap_append, List.length_append]
          cases i with
          | zero => simp only [List.getElem_cons_zero]; omega
          | succ i => have := ih i (by simpa using hi); simp only [List.getElem_cons_succ]; omega
      have := this _ k hx
      omega
  · exact .inl g
/-- the variable that was looked for: what was met does not become it -/
def NoOcc (θ : Int → List Int) (ρ : Int → Nat) (v : Int) (D : Nat → Bool) (K : Nat) : Prop := ∀ i, i < 24 → D i = true → ρ (-(i : Int) - 1) < K → v ∉ θ (-(i : Int) - 1)
theorem occ_now {D D' : Nat → Bool} {v n : Int} {u : List Int} {K : Nat} {i : Nat} (h : Slv s B θ ρ) (hn : n < 0) (hi : i = (-n - 1).toNat) (hB : B n = some u) (hD : NoOcc θ ρ v D K)
    (h1 : NoOcc θ ρ v D' (ρ n)) (h2 : ∀ j : Nat, j < 24 → ρ n ≤ ρ (-(j : Int) - 1) → D' j = (if j = i then true else D j)) (h3 : v ∉ ap θ u) : NoOcc θ ρ v D' K := by
  intro j hj hd hr
  have hin : -(i : Int) - 1 = n := by omega
  by_cases hlt : ρ (-(j : Int) - 1) < ρ n
  · exact h1 j hj hd hlt
  · rw [h2 j hj (by omega)] at hd
    by_cases e : j = i
    · subst e; rw [hin, h.bnd n u hB]; exact h3
    · rw [if_neg e] at hd; exact hD j hj hd hr
theorem occ_start {D : Nat → Bool} {v n : Int} {K : Nat} {i : Nat} (hn : n < 0) (hi : i = (-n - 1).toNat) (hK : ρ n < K) (hD : NoOcc θ ρ v D K) : NoOcc θ ρ v (fun j => if j = i then true else D j) (ρ n) := by
  intro j hj hd hr
  have hin : -(i : Int) - 1 = n := by omega
  by_cases e : j = i
  · subst e; rw [hin] at hr; omega
  · simp only [if_neg e] at hd; exact hD j hj hd (by omega)
theorem IsMgu.of2 {B' : Bd} {θ' : Int → List Int} {ρ' : Int → Nat} (h : Slv2 s (fun _ => none) (fun n => [n]) (fun _ => 0) a b B' θ' ρ') : IsMgu s a b θ' :=
  ⟨B', ρ', h.slv, fun η hw => ⟨fun hs => ((h.sat η hw).1 hs).2, fun he => (h.sat η hw).2 ⟨fun _ _ h => (by cases h), he⟩⟩⟩
end
end Go.Proofs.YthkamffmpejckaaGreatDoor

/- Walks of the reference: where parts end, arguments, parts; with any variables. -/
namespace Go.Proofs.YthkamffmpejckaaGreatDoor
open Go Go.RowKit Go.Maps

theorem codeOk_pos {s : Sg} {n : Int} (h : cw s n = true) (h0 : 0 ≤ n) : codeOk s n = true := by
  simp [cw] at h
  simp [codeOk]
  omega
theorem wArity_any {S : Nat → Prop} (a : Option Addr) (c : Nat) (s : Sg) (n : Int) (w : World) (h : Sign S w a c s) (hok : okSign s = true) (hc : cw s n = true) :
    Calls Tryz.prog 71 #[.slice a s.length c, .int .i64 n] w fun e w' => e = .returned (.int .i64 (arW s n : Nat)) ∧ w = w' := by
  have m := h.le
  by_cases h1 : n < 0
  · have hf : arW s n = 0 := by unfold arW; rw [if_pos h1]
    have hf' := Lib.hid hf
    clear hf h hc
    go_enter Tryz.func71, Tryz.ntmps71
    go_wp2
    go_ret
    exact ⟨by rw [hf'.out]; rfl, rfl⟩
  · have hk := codeOk_pos hc (by omega)
    refine (rArity_any a c s n w h hk).mono ?_
    rintro e w' ⟨rfl, rfl⟩
    exact ⟨by rw [(arC_ok hok hk).1, (codeOk_w hk).2], rfl⟩
theorem arW_3 {s : Sg} (hok : okSign s = true) {n : Int} (hc : cw s n = true) : arW s n ≤ 3 := arW_le3 hok (by simpa [cw] using hc)

def wendRel (s : Sg) (t r : List Int) (w : World) (at_ need : Value) (wr : World) : Prop :=
  ∃ p k : Nat, at_ = .int .i64 p ∧ need = .int .i64 k ∧ p ≤ t.length ∧ skw s k (t.drop p) = some r ∧ wr = w
set_option maxHeartbeats 1000000 in
theorem wEnd_any {S1 S2 : Nat → Prop} (a1 a2 : Option Addr) (c1 c2 : Nat) (s : Sg) (t : List Int) (p : Nat) (r : List Int) (w : World) (h1 : Sign S1 w a1 c1 s) (h2 : Ints S2 w a2 c2 t) (hok : okSign s = true) (hp : skw s 1 (t.drop p) = some r) :
    Calls Tryz.prog 102 #[.slice a1 s.length c1, .slice a2 t.length c2, .int .i64 p] w fun e w' => e = .returned (.int .i64 (t.length - r.length : Nat)) ∧ w = w' := by
  have m2 := h2.le
  have hpl : p ≤ t.length := by obtain ⟨h, _⟩ := skw_drop hp; omega
  have hpH := Lib.hid hp
  have hokH := Lib.hid hok
  clear hp hok
  go_enter Tryz.func102, Tryz.ntmps102
  go_wp2_with fail
  go_loopw [2, 7] (fun at_ need wr => wendRel s t r w at_ need wr) (fun at_ _ _ => t.length - (intOf at_).toNat)
  case atStart => exact ⟨p, 1, rfl, rfl, hpl, hpH.out, rfl⟩
  case round =>
    obtain ⟨q, k, rfl, rfl, hq, hs, rfl⟩ := hrel
    cases k with
    | zero =>
      rw [skw_zero] at hs
      have hq2 : (q : Int) = (t.length - r.length : Nat) := by
        have : (t.drop q).length = r.length := by rw [Option.some.inj hs]
        rw [List.length_drop] at this; omega
      have hqH := Lib.hid hq2
      clear hs hq2
      go_wp2_with fail
      go_ret
      exact ⟨ret_int hqH.out, rfl⟩
    | succ k =>
      obtain ⟨hlt, hc, hs'⟩ := skw_drop hs
      have hsl := skw_len _ _ _ _ hs'
      rw [List.length_drop] at hsl
      have hA3 := arW_3 hokH.out hc
      obtain ⟨b, o, rfl, -, q1, -⟩ := h2.int q hlt
      have cr := wArity_any a1 c1 s t[q] wr h1 hokH.out hc
      obtain ⟨x, hx⟩ : ∃ x, t[q] = x := ⟨_, rfl⟩
      obtain ⟨m, hm⟩ : ∃ m, arW s x = m := ⟨_, rfl⟩
      rw [hx] at q1 cr hs' hA3 hsl
      rw [hm] at cr hs' hA3 hsl
      have crH := Lib.hid cr
      have hsH := Lib.hid hs'
      clear cr hs' hs hc hx hm
      go_wp2_with (go_at_call 71; refine crH.out.mono ?_; rintro e w' ⟨rfl, rfl⟩)
      go_roundw
      case rel => exact ⟨q + 1, k + m, by go_num, by go_num, by omega, hsH.out, rfl⟩
      case measure => simp [intOf]; omega

/-- the places of all arguments -/
def aposL (s : Sg) (t : List Int) : List Int := (List.range (argsW s t).length).map (fun m => (apos s t m : Int))
theorem aposL_take {s : Sg} {t : List Int} {j : Nat} (h : j < (argsW s t).length) : (aposL s t).take (j + 1) = (aposL s t).take j ++ [(apos s t j : Int)] := by
  rw [List.take_succ_eq_append_getElem (by simp [aposL]; exact h)]
  simp [aposL]
theorem aposL_all (s : Sg) (t : List Int) : (aposL s t).take (argsW s t).length = aposL s t := List.take_of_length_le (by simp [aposL])
def wargRel (s : Sg) (t : List Int) (m : Nat) (w : World) (out k i : Value) (wr : World) : Prop :=
  ∃ j : Nat, i = .int .i64 j ∧ k = .int .i64 (apos s t j : Nat) ∧ j ≤ m ∧ OwnI wr w.heap.size out ((aposL s t).take j) ∧ Below w.heap.size w wr
set_option maxHeartbeats 1000000 in
theorem wArguments_any {S1 S2 : Nat → Prop} (a1 a2 : Option Addr) (c1 c2 : Nat) (s : Sg) (t : List Int) (w : World) (h1 : Sign S1 w a1 c1 s) (h2 : Ints S2 w a2 c2 t) (hok : okSign s = true) (ht : W1 s t) (hl : t.length ≤ 1000) :
    Calls Tryz.prog 72 #[.slice a1 s.length c1, .slice a2 t.length c2, .int .i64 0] w (retOwn w (aposL s t)) := by
  have m2 := h2.le
  have hlt := ht.len
  obtain ⟨b, o, rfl, -, q1, -⟩ := h2.int 0 hlt
  have hbw : b < w.heap.size := World.block_lt_of_cell? w _ q1
  obtain ⟨x, hx⟩ : ∃ x, t[0] = x := ⟨_, rfl⟩
  have hxd : t.headD 0 = x := by rw [← hx]; cases t with | nil => simp at hlt | cons _ _ => rfl
  obtain ⟨A1, A2, A3⟩ := args_all ht hxd
  have hc : cw s x = true := by simpa [cw] using A2
  have hA3 := arW_3 hok hc
  have cr := fun W hW => wArity_any (S := S1) a1 c1 s x W hW hok hc
  obtain ⟨m, hm⟩ : ∃ m, (argsW s t).length = m := ⟨_, rfl⟩
  rw [← A1, hm] at cr hA3
  rw [Nat.add_zero] at q1
  rw [hx] at q1
  have A3H := Lib.hid A3
  have hmH := Lib.hid hm
  have hokH := Lib.hid hok
  have crH := Lib.hid cr
  clear cr hx hxd A1 A2 A3 hc hok hm ht
  have h0 : apos s t 0 = 1 := apos_zero s t
  go_enter Tryz.func72, Tryz.ntmps72
  go_wp2_with fail
  go_loopw [7, 8, 9] (fun out k i wr => wargRel s t m w out k i wr) (fun _ _ i _ => m - (intOf i).toNat)
  case atStart => exact ⟨0, rfl, by go_num, Nat.zero_le _, .nil _ _ _ _ _, .refl _ _⟩
  case round =>
    obtain ⟨j, rfl, rfl, hj, ho, hB⟩ := hrel
    have q1' := (hB.cell (p := ⟨b, o, none⟩) hbw).trans q1
    have h1' : Sign S1 wr a1 c1 s := h1.below hB
    have h2' : Ints S2 wr (some ⟨b, o, none⟩) c2 t := h2.below hB
    have cr' := crH.out wr h1'
    by_cases hjm : j < m
    · have hjm' : j < (argsW s t).length := by rw [hmH.out]; exact hjm
      obtain ⟨hsk, hp1, hp2, hp3⟩ := A3H.out j hjm'
      have ce := fun W hW1 hW2 => wEnd_any (S1 := S1) (S2 := S2) a1 (some ⟨b, o, none⟩) c1 c2 s t (apos s t j) _ W hW1 hW2 hokH.out hsk
      rw [drop_len hp2] at ce
      have htk := aposL_take hjm'
      have hjl : ((aposL s t).take j).length = j := by rw [List.length_take]; simp [aposL]; omega
      obtain ⟨q, hq⟩ : ∃ q, apos s t j = q := ⟨_, rfl⟩
      obtain ⟨z, hz⟩ : ∃ z, apos s t (j + 1) = z := ⟨_, rfl⟩
      rw [hq] at ce htk hp1
      rw [hz] at ce hp1 hp2
      obtain ⟨v', w', hrun, ho', hg, hat⟩ := ho.push (P := Tryz.prog) (t := 33) (ty := 33) Tryz.underlying33 infoInt rfl (vs := [.int .i64 q]) (x := (q : Int)) ⟨rfl, by unfold inRange; omega⟩ (by rw [hjl]; omega) (by rw [hjl]; unfold big; omega) hB.size
      have hB3 := hB.grown hg hB.size (fun k e => (ho.lt k e).1)
      have c2 := ce w' (h1.below hB3) (h2.below hB3)
      have htkH := Lib.hid htk
      have hzH := Lib.hid hz
      have hoH := Lib.hid ho'
      have hB3H := Lib.hid hB3
      have hrunH := Lib.hid hrun
      have c2H := Lib.hid c2
      have cr'H := Lib.hid cr'
      rw [hq]
      clear htk ho ho' hg hat hB3 hrun c2 cr' ce hjl h1' h2' hB hsk hp3 hz hq h0 hjm'
      go_wp2_with (first
        | (go_at_call 71; refine cr'H.out.mono ?_; rintro e w' ⟨rfl, rfl⟩)
        | (go_at_call 102; refine c2H.out.mono ?_; rintro e w' ⟨rfl, rfl⟩)
        | (at_builtin; refine wpList_append_run rfl _ _ _ rfl rfl rfl hrunH.out ?_))
      go_roundw
      case rel => exact ⟨j + 1, by go_num, by rw [hzH.out], by omega, by rw [htkH.out]; exact hoH.out, hB3H.out⟩
      case measure => simp [intOf]; omega
    · have hjm' : j = m := by omega
      subst hjm'
      have hfull : (aposL s t).take j = aposL s t := by rw [← hmH.out]; exact aposL_all s t
      rw [hfull] at ho
      have hoH := Lib.hid ho
      have cr'H := Lib.hid cr'
      have hBH := Lib.hid hB
      clear ho hfull cr' hB h1' h2' h0
      go_wp2_with (go_at_call 71; refine cr'H.out.mono ?_; rintro e w' ⟨rfl, rfl⟩)
      go_ret
      exact ⟨_, rfl, hoH.out, hBH.out⟩

set_option maxHeartbeats 1000000 in
theorem wPart_any {S1 S2 : Nat → Prop} (a1 a2 : Option Addr) (c1 c2 : Nat) (s : Sg) (t : List Int) (p z : Nat) (u : List Int) (w : World) (h1 : Sign S1 w a1 c1 s) (h2 : Ints S2 w a2 c2 t) (hok : okSign s = true) (hp : skw s 1 (t.drop p) = some (t.drop z)) (hpz : p < z) (hz : z ≤ t.length)
    (hu : (t.drop p).take (z - p) = u) (hl : t.length ≤ 1000) :
    Calls Tryz.prog 74 #[.slice a1 s.length c1, .slice a2 t.length c2, .int .i64 p] w (retOwn w u) := by
  have m2 := h2.le
  have mc := h2.max
  unfold big at mc
  have hcap := h2.cap
  have hlt : p < t.length := by omega
  obtain ⟨b, o, rfl, -, q1, -⟩ := h2.int p hlt
  have hbw : b < w.heap.size := World.block_lt_of_cell? w _ q1
  have ce := fun W hW1 hW2 => wEnd_any (S1 := S1) (S2 := S2) a1 (some ⟨b, o, none⟩) c1 c2 s t p (t.drop z) W hW1 hW2 hok hp
  rw [drop_len hz] at ce
  have hsub := h2.part p z (c2 - p) (by omega) hz (by omega) (by omega)
  have hplen : u.length = z - p := by rw [← hu, List.length_take, List.length_drop]; omega
  rw [hu] at hsub
  have ce1 := ce (w.alloc (.cells #[] 3)) (h1.below (below1 _ _)) (h2.below (below1 _ _))
  obtain ⟨v', w', hrun, ho, hg, -, -⟩ := (OwnL.made intE (fun _ => False) w w.heap.size 3 (Nat.le_refl _)).append_run (P := Tryz.prog) (t := 34) (ty := 34) Tryz.underlying34 infoInt rfl (hsub.below (below1 w (.cells #[] 3))) (fun _ _ _ h => h) (by simp; omega) (by unfold big; simp; omega) (by simp)
  have hB : Below w.heap.size w w' := (below1 w (.cells #[] 3)).grown hg (by simp) (fun k e => by simp [Value.ownBlock] at e; omega)
  rw [List.nil_append] at ho
  rw [hplen] at hrun
  have hrunH := Lib.hid hrun
  have ceH := Lib.hid ce1
  have hoH := Lib.hid ho
  have hBH := Lib.hid hB
  clear hg hrun ce1 ce ho hB hp hplen hu hsub hok
  go_enter Tryz.func74, Tryz.ntmps74
  go_wp2_with (first
        | (go_at_call 102; refine ceH.out.mono ?_; rintro e w' ⟨rfl, rfl⟩)
        | (at_builtin; refine wpList_append_run rfl _ _ _ rfl rfl rfl hrunH.out ?_))
  go_ret
  exact ⟨_, rfl, hoH.out, hBH.out⟩
end Go.Proofs.YthkamffmpejckaaGreatDoor

/- The reference's solver in the world. -/
namespace Go.Proofs.YthkamffmpejckaaGreatDoor
open Go Go.RowKit

theorem gby_refl (w : World) (row : Option Nat) : w.grownBy w row := ⟨rfl, rfl, rfl, Nat.le_refl _, fun _ _ _ => rfl⟩
theorem gby_trans {a w w' : World} {row : Option Nat} (h : a.grownBy w row) (k : w.grownBy w' row) : a.grownBy w' row :=
  ⟨k.os.trans h.os, k.tape.trans h.tape, k.output.trans h.output, Nat.le_trans h.size k.size, fun i hi hr => (k.block i (Nat.lt_of_lt_of_le hi h.size) hr).trans (h.block i hi hr)⟩
theorem gby_below {w w' : World} {row : Option Nat} (hb : Below w.heap.size w w') : w.grownBy w' row := ⟨hb.os, hb.tape, hb.output, hb.size, fun i hi _ => hb.block i hi⟩
theorem gby_set (w : World) (b i : Nat) (v : Value) : w.grownBy (w.setCell ⟨b, i, none⟩ v) (some b) :=
  ⟨rfl, rfl, rfl, by simp [World.setCell], fun k _ hk => Below.heap_setCell _ _ _ _ (fun e => hk (by simp [e]))⟩
theorem heap_set {w : World} {b i : Nat} {cs : Array Value} {T : TypeId} {fr : Nat × Nat} (hb : w.heap[b]? = some (.cells cs T fr)) (v : Value) :
    (w.setCell ⟨b, i, none⟩ v).heap[b]? = some (.cells (cs.setIfInBounds i v) T fr) := by
  simp [World.setCell, Array.getElem?_modify, hb]
/-- the writes to a block of one's own are seen by nobody -/
theorem below_of_gby {w w1 w' : World} {K b : Nat} (h1 : Below K w w1) (h2 : w1.grownBy w' (some b)) (hK : K ≤ w1.heap.size) (hb : K ≤ b) : Below K w w' := h1.grown h2 hK (fun k e => by cases e; exact hb)

def SlotW (S : Nat → Prop) (w : World) : Option (List Int) → Value → Prop
  | none, v => v = .slice none 0 0
  | some u, v => ∃ a c, v = .slice a u.length c ∧ Ints S w a c u
theorem SlotW.mono {S S' : Nat → Prop} {w w' : World} {o : Option (List Int)} {v : Value} (h : SlotW S w o v) (hS : ∀ b, b < w.heap.size → S b → S' b) (hA : Agree S w w') : SlotW S' w' o v := by
  cases o with
  | none => exact h
  | some u => obtain ⟨a, c, h1, h2⟩ := h; exact ⟨a, c, h1, h2.mono hS hA⟩
/-- the solver: its sign, and what its variables are bound to -/
structure SolX (S : Nat → Prop) (w : World) (xb : Nat) (a1 : Option Addr) (c1 : Nat) (s : Sg) (B : Bd) : Prop where
  blk : ∃ vs : List Value, w.heap[xb]? = some (.cells (Value.slice a1 s.length c1 :: vs).toArray 99 (0, 0)) ∧ vs.length = 24 ∧ ∀ i (h : i < vs.length), SlotW S w (B (-(i : Int) - 1)) vs[i]
  sg : Sign S w a1 c1 s
  len : ∀ n u, B n = some u → u.length ≤ 60
section
variable {S S' : Nat → Prop} {w w' : World} {xb : Nat} {a1 : Option Addr} {c1 : Nat} {s : Sg} {B : Bd}
theorem SolX.lt (h : SolX S w xb a1 c1 s B) : xb < w.heap.size := by obtain ⟨vs, h1, -⟩ := h.blk; exact (Array.getElem?_eq_some_iff.1 h1).1
theorem SolX.mono (h : SolX S w xb a1 c1 s B) (hS : ∀ b, b < w.heap.size → S b → S' b) (hA : Agree S w w') (hx : w'.heap[xb]? = w.heap[xb]?) : SolX S' w' xb a1 c1 s B := by
  obtain ⟨vs, h1, h2, h3⟩ := h.blk
  exact ⟨⟨vs, hx.trans h1, h2, fun i hi => (h3 i hi).mono hS hA⟩, h.sg.mono hS hA, h.len⟩
theorem SolX.below (h : SolX S w xb a1 c1 s B) (hb : Below w.heap.size w w') : SolX S w' xb a1 c1 s B := h.mono (fun _ _ h => h) (.all hb) (hb.block xb h.lt)
theorem SolX.lts (h : SolX S w xb a1 c1 s B) : SolX (fun b => S b ∧ b < w.heap.size) w xb a1 c1 s B := h.mono (fun _ h h' => ⟨h', h⟩) (.refl _ _) rfl
theorem SolX.weak (h : SolX S w xb a1 c1 s B) (hS : ∀ b, S b → S' b) : SolX S' w xb a1 c1 s B := h.mono (fun b _ hb => hS b hb) (.refl _ _) rfl
theorem SolX.grown {db : Nat} (h : SolX S w xb a1 c1 s B) (hg : w.grownBy w' (some db)) (hS : ¬ S db) (hx : xb ≠ db) : SolX S w' xb a1 c1 s B :=
  h.mono (fun _ _ h => h) (.of_grown hg (fun b hb e => hS (by cases e; exact hb))) (hg.block xb h.lt (fun e => hx (by cases e; rfl)))
theorem SolX.sign (h : SolX S w xb a1 c1 s B) : w.cell? ⟨xb, 0, none⟩ = some (.slice a1 s.length c1) := by
  obtain ⟨vs, h1, -⟩ := h.blk
  simp [World.cell?, h1]
theorem SolX.slot (h : SolX S w xb a1 c1 s B) {n : Int} (hn : n < 0) (h24 : -24 ≤ n) : ∃ v, w.cell? ⟨xb, 1 + (-n - 1).toNat, none⟩ = some v ∧ SlotW S w (B n) v := by
  obtain ⟨vs, h1, h2, h3⟩ := h.blk
  have hi : (-n - 1).toNat < vs.length := by omega
  refine ⟨vs[(-n - 1).toNat], ?_, ?_⟩
  · rw [Nat.add_comm]
    simp [World.cell?, h1]
  · have := h3 _ hi
    rw [show (-(((-n - 1).toNat : Nat) : Int) - 1) = n by omega] at this
    exact this
theorem SolX.frozen (h : SolX S w xb a1 c1 s B) (o : Nat) : w.frozen? ⟨xb, o, none⟩ = false := by
  obtain ⟨vs, h1, -⟩ := h.blk
  simp [World.frozen?, h1]
theorem SolX.set (h : SolX S w xb a1 c1 s B) (hS : ¬ S xb) {n : Int} (hn : n < 0) (h24 : -24 ≤ n) {q : List Int} {a : Option Addr} {c : Nat} (hq : Ints S w a c q) (hl : q.length ≤ 60) :
    SolX S (w.setCell ⟨xb, 1 + (-n - 1).toNat, none⟩ (.slice a q.length c)) xb a1 c1 s (upB B n q) := by
  obtain ⟨vs, h1, h2, h3⟩ := h.blk
  have hg := gby_set w xb (1 + (-n - 1).toNat) (.slice a q.length c)
  have hA : Agree S w (w.setCell ⟨xb, 1 + (-n - 1).toNat, none⟩ (.slice a q.length c)) := .of_grown hg (fun b hb e => hS (by cases e; exact hb))
  refine ⟨⟨vs.set (-n - 1).toNat (.slice a q.length c), ?_, by simp [h2], fun i hi => ?_⟩, h.sg.same hA, fun m u hu => ?_⟩
  · rw [heap_set h1]
    congr 2
    rw [Nat.add_comm]
    simp
  · rw [List.length_set] at hi
    rw [List.getElem_set]
    unfold upB
    by_cases e : (-n - 1).toNat = i
    · rw [if_pos e, if_pos (by omega)]; exact ⟨a, c, rfl, hq.same hA⟩
    · rw [if_neg e, if_neg (by omega)]; exact (h3 i hi).mono (fun _ _ h => h) hA
  · unfold upB at hu
    split at hu
    · cases hu; exact hl
    · exact h.len m u hu
end
/-- marks of the 24 variables -/
def MarkW (w : World) (db : Nat) (T : TypeId) (f : Nat → Value) : Prop := w.heap[db]? = some (.cells ((List.range 24).map f).toArray T (0, 0))
section
variable {w w' : World} {db : Nat} {T : TypeId} {f : Nat → Value}
theorem MarkW.lt (h : MarkW w db T f) : db < w.heap.size := (Array.getElem?_eq_some_iff.1 h).1
theorem MarkW.cell (h : MarkW w db T f) {i : Nat} (hi : i < 24) : w.cell? ⟨db, i, none⟩ = some (f i) := by simp [World.cell?, show w.heap[db]? = _ from h, hi]
theorem MarkW.frozen (h : MarkW w db T f) (o : Nat) : w.frozen? ⟨db, o, none⟩ = false := by simp [World.frozen?, show w.heap[db]? = _ from h]
theorem MarkW.set (h : MarkW w db T f) {i : Nat} (v : Value) : MarkW (w.setCell ⟨db, i, none⟩ v) db T (fun j => if j = i then v else f j) := by
  unfold MarkW
  rw [heap_set h]
  congr 2
  apply Array.ext'
  apply List.ext_getElem
  · simp
  · intro j h1 h2
    simp [List.getElem_set, eq_comm]
theorem MarkW.same (h : MarkW w db T f) (hx : w'.heap[db]? = w.heap[db]?) : MarkW w' db T f := hx.trans h
theorem MarkW.below (h : MarkW w db T f) (hb : Below w.heap.size w w') : MarkW w' db T f := h.same (hb.block db h.lt)
theorem MarkW.congr {f' : Nat → Value} (h : MarkW w db T f) (he : ∀ i, i < 24 → f i = f' i) : MarkW w db T f' := by
  unfold MarkW at *
  rw [h]
  congr 3
  exact List.map_congr_left (fun i hi => he i (List.mem_range.1 hi))
end
end Go.Proofs.YthkamffmpejckaaGreatDoor

/- The box of the reference's Match in the world; positions in terms. -/
namespace Go.Proofs.YthkamffmpejckaaGreatDoor
open Go Go.RowKit Go.Maps

theorem skip_at {s : Sg} {k p : Nat} {t r : List Int} (h : skip s k (t.drop p) = some r) (hp : p ≤ t.length) : r = t.drop (t.length - r.length) ∧ p + k ≤ t.length - r.length := by
  obtain ⟨u, e, _, hl⟩ := skip_split s k _ _ h
  have hlen : t.length - p = u.length + r.length := by have := congrArg List.length e; simpa using this
  have h2 : r = t.drop (p + u.length) := by
    rw [← List.drop_drop, e, List.drop_append_of_le_length (Nat.le_refl _), List.drop_length, List.nil_append]
  refine ⟨?_, by omega⟩
  rw [show t.length - r.length = p + u.length by omega]
  exact h2
theorem part_same {s : Sg} {l r : List Int} (h : skip s 1 l = some r) : partAt s l = partW s l := by
  unfold partAt partW; rw [h, skw_of_skip h]
theorem skip_next {s : Sg} {k m : Nat} {l l' r : List Int} (h : skip s k l = some l') (ht : skip s m l = some r) (hk : k < m) : ∃ l2, skip s 1 l' = some l2 ∧ skip s (k + 1) l = some l2 := by
  rw [show m = k + (m - k) by omega, skip_add, h, Option.bind_some, show m - k = (m - k - 1) + 1 by omega] at ht
  obtain ⟨l2, h1, -⟩ := skip_one ht
  exact ⟨l2, h1, by rw [skip_add, h, Option.bind_some, h1]⟩
/-- the box of 12 terms -/
structure BoxM (w : World) (xb : Nat) (B : Bd) : Prop where
  blk : ∃ vs : List Value, w.heap[xb]? = some (.cells vs.toArray 133 (0, 0)) ∧ vs.length = 12 ∧ ∀ i (h : i < vs.length), SlotW (fun b => b ≠ xb) w (B (-(i : Int) - 1)) vs[i]
section
variable {w w' : World} {xb : Nat} {B : Bd}
theorem BoxM.lt (h : BoxM w xb B) : xb < w.heap.size := by obtain ⟨vs, h1, -⟩ := h.blk; exact (Array.getElem?_eq_some_iff.1 h1).1
theorem BoxM.below (h : BoxM w xb B) (hb : Below w.heap.size w w') : BoxM w' xb B := by
  obtain ⟨vs, h1, h2, h3⟩ := h.blk
  exact ⟨⟨vs, (hb.block xb h.lt).trans h1, h2, fun i hi => (h3 i hi).mono (fun _ _ h => h) (.all hb)⟩⟩
theorem BoxM.slot (h : BoxM w xb B) {n : Nat} (hn : n < 12) : ∃ v, w.cell? ⟨xb, n, none⟩ = some v ∧ SlotW (fun b => b ≠ xb) w (B (-(n : Int) - 1)) v := by
  obtain ⟨vs, h1, h2, h3⟩ := h.blk
  have hi : n < vs.length := by omega
  exact ⟨vs[n], by simp [World.cell?, h1, hi], h3 _ hi⟩
theorem BoxM.frozen (h : BoxM w xb B) (o : Nat) : w.frozen? ⟨xb, o, none⟩ = false := by
  obtain ⟨vs, h1, -⟩ := h.blk
  simp [World.frozen?, h1]
theorem BoxM.set (h : BoxM w xb B) {n : Nat} {q : List Int} {a : Option Addr} {c : Nat} (hq : Ints (fun b => b ≠ xb) w a c q) :
    BoxM (w.setCell ⟨xb, n, none⟩ (.slice a q.length c)) xb (upB B (-(n : Int) - 1) q) := by
  obtain ⟨vs, h1, h2, h3⟩ := h.blk
  have hg := gby_set w xb n (.slice a q.length c)
  have hA : Agree (fun b => b ≠ xb) w (w.setCell ⟨xb, n, none⟩ (.slice a q.length c)) := .of_grown hg (fun b hb e => hb (by cases e; rfl))
  refine ⟨⟨vs.set n (.slice a q.length c), ?_, by simp [h2], fun i hi => ?_⟩⟩
  · rw [heap_set h1]
    simp
  · rw [List.length_set] at hi
    rw [List.getElem_set]
    unfold upB
    by_cases e : n = i
    · rw [if_pos e, if_pos (by omega)]; exact ⟨a, c, rfl, hq.same hA⟩
    · rw [if_neg e, if_neg (by omega)]; exact (h3 i hi).mono (fun _ _ h => h) hA
theorem BoxM.congr {B' : Bd} (h : BoxM w xb B) (he : B = B') : BoxM w xb B' := he ▸ h
theorem BoxM.new (W : World) : BoxM (W.alloc (.cells #[.slice none 0 0, .slice none 0 0, .slice none 0 0, .slice none 0 0, .slice none 0 0, .slice none 0 0, .slice none 0 0, .slice none 0 0, .slice none 0 0, .slice none 0 0, .slice none 0 0, .slice none 0 0] 133)) W.heap.size (fun _ => none) := by
  refine ⟨⟨List.replicate 12 (.slice none 0 0), ?_, by simp, fun i hi => ?_⟩⟩
  · rw [heap_alloc_new]; rfl
  · rw [List.getElem_replicate]; rfl
end
end Go.Proofs.YthkamffmpejckaaGreatDoor

/- Walks of the reference's solver: look. -/
namespace Go.Proofs.YthkamffmpejckaaGreatDoor
open Go Go.RowKit Go.Maps

/-- looked up in k steps, with where it lies -/
def LkG (S : Nat → Prop) (w : World) (f : Int → Value) (B : Bd) (p : List Int) (a' : Option Addr) (c' : Nat) : Nat → Option Addr → Nat → List Int → Prop
  | 0, a, c, t => (t = p ∧ a = a' ∧ c = c') ∧ ∀ n r, t = n :: r → n < 0 → B n = none
  | k + 1, _, _, t => ∃ n r u a3 c3, t = n :: r ∧ n < 0 ∧ B n = some u ∧ f n = .slice a3 u.length c3 ∧ Ints S w a3 c3 u ∧ LkG S w f B p a' c' k a3 c3 u
theorem LkG.ex {S : Nat → Prop} {w : World} {f : Int → Value} {B : Bd} {p : List Int} (hr : RgB B) (h3 : ∀ n, n < 0 → -24 ≤ n → SlotW S w (B n) (f n)) :
    ∀ (k : Nat) (t : List Int) (a : Option Addr) (c : Nat), Rg t → Ints S w a c t → LkdN B p k t → ∃ a' c', LkG S w f B p a' c' k a c t ∧ Ints S w a' c' p
  | 0, t, a, c, _, hT, ⟨h1, h2⟩ => ⟨a, c, ⟨⟨h1, rfl, rfl⟩, h2⟩, h1 ▸ hT⟩
  | k + 1, t, a, c, rt, hT, ⟨n, r, u, h1, h2, hB, h4⟩ => by
    have hs := h3 n h2 (rt n (by rw [h1]; simp) h2)
    rw [hB] at hs
    obtain ⟨a3, c3, g1, g2⟩ := hs
    obtain ⟨a', c', g3, g4⟩ := LkG.ex hr h3 k u a3 c3 (hr n u hB).1 g2 h4
    exact ⟨a', c', ⟨n, r, u, a3, c3, h1, h2, hB, g1, g2, g3⟩, g4⟩
/-- the cells of the solver's variables -/
theorem SolX.cells {S : Nat → Prop} {w : World} {xb : Nat} {a1 : Option Addr} {c1 : Nat} {s : Sg} {B : Bd} (h : SolX S w xb a1 c1 s B) :
    ∃ f : Int → Value, ∀ n, n < 0 → -24 ≤ n → w.cell? ⟨xb, 1 + (-n - 1).toNat, none⟩ = some (f n) ∧ SlotW S w (B n) (f n) := by
  obtain ⟨vs, h1, h2, h3⟩ := h.blk
  refine ⟨fun n => vs.getD (-n - 1).toNat undef, fun n hn h24 => ?_⟩
  have hi : (-n - 1).toNat < vs.length := by omega
  have hg : vs.getD (-n - 1).toNat undef = vs[(-n - 1).toNat] := by rw [List.getD_eq_getElem?_getD, List.getElem?_eq_getElem hi]; rfl
  simp only [hg]
  refine ⟨?_, ?_⟩
  · rw [Nat.add_comm]
    simp [World.cell?, h1]
  · have := h3 _ hi
    rw [show (-(((-n - 1).toNat : Nat) : Int) - 1) = n by omega] at this
    exact this
def rlookRel (S : Nat → Prop) (w : World) (s : Sg) (f : Int → Value) (B : Bd) (p : List Int) (a' : Option Addr) (c' : Nat) (k : Nat) (tv : Value) (wr : World) : Prop :=
  ∃ t a c, tv = .slice a (List.length t) c ∧ Ints S w a c t ∧ W1 s t ∧ Rg t ∧ LkG S w f B p a' c' k a c t ∧ Drew w wr
set_option maxRecDepth 20000 in
set_option maxHeartbeats 4000000 in
theorem rlook_any {S : Nat → Prop} {w : World} {xb : Nat} {a1 : Option Addr} {c1 : Nat} {s : Sg} {B : Bd} (hS0 : SolX S w xb a1 c1 s B) (hr : RgB B) (hwf : ∀ n u, B n = some u → W1 s u) {a : Option Addr} {c : Nat} {t p : List Int} (ht : Ints S w a c t) (hw : W1 s t) (rt : Rg t) (hl : Lkd B t p) :
    ∃ a' c', Ints S w a' c' p ∧ ∀ m, Calls Tryz.prog 103 #[.pointer (some ⟨xb, 0, none⟩), .slice a t.length c] (w.drewN m) fun e w' => e = .returned (.slice a' p.length c') ∧ Drew (w.drewN m) w' := by
  obtain ⟨k0, hk0⟩ := hl.num
  obtain ⟨f, hf⟩ := hS0.cells
  obtain ⟨a', c', hk1, hTp⟩ := LkG.ex hr (fun n h1 h2 => (hf n h1 h2).2) k0 t a c rt ht hk0
  refine ⟨a', c', hTp, fun m => ?_⟩
  have hfc : ∀ n, n < 0 → -24 ≤ n → ∀ wr, Drew w wr → wr.cell? ⟨xb, 1 + (-n - 1).toNat, none⟩ = some (f n) := fun n h1 h2 wr hd => cell_later (hd.below _) (hf n h1 h2).1
  have hfs : ∀ n, n < 0 → -24 ≤ n → SlotW S w (B n) (f n) := fun n h1 h2 => (hf n h1 h2).2
  have hd0 := Drew.mk w m
  obtain ⟨w0, hw0⟩ : ∃ w0, w.drewN m = w0 := ⟨_, rfl⟩
  rw [hw0] at hd0 ⊢
  have hwfH := Lib.hid hwf
  have hrH := Lib.hid hr
  have htH := Lib.hid ht
  have hwH := Lib.hid hw
  have rtH := Lib.hid rt
  have hkH := Lib.hid hk1
  have m2 := ht.le
  have hfcH := Lib.hid hfc
  have hfsH := Lib.hid hfs
  have hd0H := Lib.hid hd0
  clear ht hw hl hk0 hk1 hTp hf hS0 hfc hfs hwf hr rt hw0 hd0
  go_enter Tryz.func103, Tryz.ntmps103
  go_wp2_with fail
  go_loopg [1] k0 (fun k tv wr => ∃ wx, wr = wx ∧ Drew w0 wr ∧ rlookRel S w s f B p a' c' k tv wx)
  case atStart => exact ⟨_, rfl, .refl _, t, a, c, rfl, htH.out, hwH.out, rtH.out, hkH.out, hd0H.out⟩
  case round =>
    obtain ⟨wx, rfl, hd0, t', a4, c4, rfl, ht', hw', rt', hk, hd⟩ := hrel
    have hlen := hw'.len
    have hlen0 : 0 < t'.length := hlen
    obtain ⟨b, o, rfl, -, q, hrg⟩ := (ht'.drew hd).int 0 (by omega)
    rw [Nat.add_zero] at q
    have hx24 : t'[0] < 0 → -24 ≤ t'[0] := fun h => rt' _ (List.getElem_mem _) h
    cases gk with
    | zero =>
      obtain ⟨⟨rfl, rfl, rfl⟩, hstop⟩ := hk
      obtain ⟨x, hx⟩ : ∃ x, t'[0] = x := ⟨_, rfl⟩
      have hxs : x < 0 → B x = none := fun h0 => hstop x t'.tail (by rw [← hx]; cases t' with | nil => simp at hlen | cons _ _ => rfl) h0
      rw [hx] at q hrg hx24
      by_cases h0 : x < 0
      · have h24 := hx24 h0
        have hc := hfcH.out x h0 h24 _ hd
        have hs := hfsH.out x h0 h24
        rw [hxs h0] at hs
        rw [show f x = .slice none 0 0 from hs] at hc
        obtain ⟨n, hn⟩ : ∃ n : Nat, x = -(n : Int) - 1 := ⟨(-x - 1).toNat, by omega⟩
        have hnx : (-x - 1).toNat = n := by omega
        have hn24 : n < 24 := by omega
        have hw1 : IntKind.i64.wrap (-x) = -x := IntWalk.i64_in _ (by omega)
        have hw2 : IntKind.i64.wrap (-x - 1) = (n : Int) := by rw [show -x - 1 = (n : Int) by omega]; exact IntWalk.i64_in _ (by omega)
        rw [hnx] at hc
        have hdH := Lib.hid hd0
        have hdv : decide (x < 0) = true := by simpa using h0
        clear hstop hxs hw' hx ht' hd hd0 hs hx24 rt' hn hnx
        go_wp2_with fail
        go_quiet (fail)
        all_goals go_wp2_with fail
        all_goals go_ret
        exact ⟨rfl, drew_more hdH.out _⟩
      · have hdH := Lib.hid hd0
        have hdv : decide (x < 0) = false := by simpa using h0
        clear hstop hxs hw' hx ht' hd hd0 hx24 rt'
        go_wp2_with fail
        go_quiet (fail)
        all_goals go_wp2_with fail
        all_goals go_ret
        exact ⟨rfl, drew_more hdH.out _⟩
    | succ k =>
      obtain ⟨x, r, u, a3, c3, he, h0, hBx, hfx, hI3, hk⟩ := hk
      subst he
      have hu := hwfH.out _ _ hBx
      have ru := (hrH.out _ _ hBx).1
      simp only [List.getElem_cons_zero] at q hrg hx24
      have h24 := hx24 h0
      have hc := hfcH.out x h0 h24 _ hd
      rw [hfx] at hc
      have hul := hu.len
      obtain ⟨b3, o3, rfl, -, -, -⟩ := hI3.int 0 (by omega)
      have hdH := Lib.hid hd
      have hd0H := Lib.hid hd0
      have hkH2 := Lib.hid hk
      have huH := Lib.hid hu
      have ruH := Lib.hid ru
      have hI3H := Lib.hid hI3
      obtain ⟨n, hn⟩ : ∃ n : Nat, x = -(n : Int) - 1 := ⟨(-x - 1).toNat, by omega⟩
      have hnx : (-x - 1).toNat = n := by omega
      have hn24 : n < 24 := by omega
      have hw1 : IntKind.i64.wrap (-x) = -x := IntWalk.i64_in _ (by omega)
      have hw2 : IntKind.i64.wrap (-x - 1) = (n : Int) := by rw [show -x - 1 = (n : Int) by omega]; exact IntWalk.i64_in _ (by omega)
      rw [hnx] at hc
      have hdv : decide (x < 0) = true := by simpa using h0
      clear hw' ht' hd hd0 hk hu ru hI3 hBx hfx hx24 rt' hul hn hnx
      go_wp2_with fail
      go_quiet (fail)
      all_goals go_wp2_with fail
      all_goals go_quiet (fail)
      all_goals go_wp2_with fail
      go_roundg k
      case measure => omega
      case rel => exact ⟨_, rfl, drew_more (drew_more hd0H.out _) _, u, _, c3, rfl, hI3H.out, huH.out, ruH.out, hkH2.out, drew_more (drew_more hdH.out _) _⟩
end Go.Proofs.YthkamffmpejckaaGreatDoor

/- Walks of the reference's solver: occurs. -/
namespace Go.Proofs.YthkamffmpejckaaGreatDoor
open Go Go.RowKit Go.Maps

def rocRel (w : World) (db : Nat) (θ : Int → List Int) (ρ : Int → Nat) (v : Int) (K : Nat) (D : Nat → Bool) (t : List Int) (i : Value) (wr : World) : Prop :=
  ∃ (k : Nat) (D' : Nat → Bool), i = .int .i64 k ∧ k ≤ t.length ∧ w.grownBy wr (some db) ∧ MarkW wr db 130 (fun j => .bool (D' j)) ∧ (∀ j : Nat, j < 24 → K ≤ ρ (-(j : Int) - 1) → D' j = D j) ∧ NoOcc θ ρ v D' K ∧ v ∉ ap θ (t.take k)
def rocRet (w : World) (db : Nat) (θ : Int → List Int) (ρ : Int → Nat) (v : Int) (K : Nat) (D : Nat → Bool) (t : List Int) (e : Ending) (w' : World) : Prop :=
  ∃ (D' : Nat → Bool) (r : Bool), e = .returned (.bool r) ∧ (r = true ↔ v ∈ ap θ t) ∧ w.grownBy w' (some db) ∧ MarkW w' db 130 (fun j => .bool (D' j)) ∧ (∀ j : Nat, j < 24 → K ≤ ρ (-(j : Int) - 1) → D' j = D j) ∧ (v ∉ ap θ t → NoOcc θ ρ v D' K)
theorem ap_take_succ {θ : Int → List Int} {t : List Int} {k : Nat} (h : k < t.length) : ap θ (t.take (k + 1)) = ap θ (t.take k) ++ ap θ [t[k]] := by
  rw [List.take_succ_eq_append_getElem h, ap_append]
theorem mem_ap_of {θ : Int → List Int} {t : List Int} {v : Int} {k : Nat} (h : k < t.length) (hv : v ∈ ap θ [t[k]]) : v ∈ ap θ t := by
  have : v ∈ ap θ (t.take (k + 1)) := by rw [ap_take_succ h]; exact List.mem_append.2 (.inr hv)
  rw [← List.take_append_drop (k + 1) t, ap_append]
  exact List.mem_append.2 (.inl this)
set_option maxRecDepth 20000 in
set_option maxHeartbeats 4000000 in
theorem roccurs_any {S : Nat → Prop} {xb db : Nat} {a1 : Option Addr} {c1 : Nat} {s : Sg} {B : Bd} {θ : Int → List Int} {ρ : Int → Nat} (h : Slv s B θ ρ) (hr : RgB B) (hSd : ¬ S db) (hxd : xb ≠ db) {v : Int} (hv : v < 0) (hv24 : -24 ≤ v) (hBv : B v = none) :
    ∀ (K : Nat) (t : List Int) (a : Option Addr) (c : Nat) (D : Nat → Bool) (w : World), SolX S w xb a1 c1 s B → MarkW w db 130 (fun j => .bool (D j)) → Ints S w a c t → Rg t → (∀ n ∈ t, n < 0 → ρ n < K) → NoOcc θ ρ v D K →
      Calls Tryz.prog 104 #[.pointer (some ⟨xb, 0, none⟩), .int .i64 (-v - 1), .slice a t.length c, .pointer (some ⟨db, 0, none⟩)] w (rocRet w db θ ρ v K D t) := by
  intro K
  induction K using Nat.strongRecOn with
  | ind K ih =>
  intro t a c D w hS hM ht rt hK hD
  have m2 := ht.le
  have hH := Lib.hid h
  have hrH := Lib.hid hr
  have hSH := Lib.hid hS
  have hMH := Lib.hid hM
  have htH := Lib.hid ht
  have rtH := Lib.hid rt
  have hKH := Lib.hid hK
  have hDH := Lib.hid hD
  have ihH := Lib.hid ih
  have hvvH := Lib.hid (h.free v hv hBv)
  have hBvH := Lib.hid hBv
  obtain ⟨vn, hvn⟩ : ∃ vn : Nat, v = -(vn : Int) - 1 := ⟨(-v - 1).toNat, by omega⟩
  have hvn24 : vn < 24 := by omega
  have e1 : (-v - 1 : Int) = vn := by omega
  rw [e1]
  have hvnH := Lib.hid hvn
  clear h hr hS hM ht rt hK hD ih hBv e1 hvn
  go_enter Tryz.func104, Tryz.ntmps104
  go_wp2_with fail
  go_loopw [9] (fun i wr => rocRel w db θ ρ v K D t i wr) (fun i _ => t.length - (intOf i).toNat)
  case atStart => exact ⟨0, D, rfl, Nat.zero_le _, gby_refl _ _, hMH.out, fun _ _ _ => rfl, hDH.out, by simp [ap_nil]⟩
  case round =>
    obtain ⟨k, D', rfl, hk, hg, hM, hE, hN, hno⟩ := hrel
    by_cases hlt : k < t.length
    · have ht' := htH.out.same (.of_grown hg (fun b hb e => hSd (by cases e; exact hb)))
      obtain ⟨b, o, rfl, hbS, q, hrg⟩ := ht'.int k hlt
      have hS' := hSH.out.grown hg hSd hxd
      have hmem := List.getElem_mem hlt
      have hts := ap_take_succ (θ := θ) hlt
      have hmo := mem_ap_of (θ := θ) (v := v) hlt
      obtain ⟨x, hx⟩ : ∃ x, t[k] = x := ⟨_, rfl⟩
      rw [hx] at q hrg hmem hts hmo
      have hgH := Lib.hid hg
      have hMH' := Lib.hid hM
      have hEH := Lib.hid hE
      have hNH := Lib.hid hN
      have htsH := Lib.hid hts
      have hmoH := Lib.hid hmo
      by_cases h0 : 0 ≤ x
      · have hno' : v ∉ ap θ (t.take (k + 1)) := by
          rw [hts, List.mem_append]
          rintro (e | e)
          · exact hno e
          · rw [ap_pos (by omega), ap_nil] at e; simp at e; have := hvnH.out; omega
        have hnoH := Lib.hid hno'
        clear hg hM hE hN hts hmo hno hno' ht' hS' hmem hx
        go_wp2_with fail
        go_roundw
        case rel => exact ⟨k + 1, D', by go_num, by omega, hgH.out, hMH'.out, hEH.out, hNH.out, hnoH.out⟩
        case measure => simp [intOf]; omega
      · have hx0 : x < 0 := by omega
        have hx24 := rtH.out x hmem hx0
        have hxK := hKH.out x hmem hx0
        obtain ⟨n, hn⟩ : ∃ n : Nat, x = -(n : Int) - 1 := ⟨(-x - 1).toNat, by omega⟩
        have hn24 : n < 24 := by omega
        obtain ⟨vl, qs, hsl⟩ := hS'.slot hx0 hx24
        have hnx : (-x - 1).toNat = n := by omega
        rw [hnx] at qs
        have qd := hM.cell hn24
        have fd := hM.frozen n
        have hap1 : ap θ [x] = θ x := ap_one hx0
        have hxn : -x - 1 = (n : Int) := by omega
        have hnH := Lib.hid hn
        clear hnx
        by_cases hxv : x = v
        · have hnv : n = vn := by have := hvnH.out; omega
          subst hnv
          have hmv : v ∈ ap θ t := hmo (by rw [hap1, hxv, hvvH.out]; simp)
          have hmvH := Lib.hid hmv
          clear hxv hn
          clear hg hM hE hN hts hmo hno ht' hS' hmem hx hmv hap1 hsl
          go_wp2_with fail
          go_ret
          exact ⟨D', true, rfl, ⟨fun _ => hmvH.out, fun _ => rfl⟩, hgH.out, hMH'.out, hEH.out, fun e => (e hmvH.out).elim⟩
        · have hnv : ¬ n = vn := by have := hvnH.out; omega
          have hstep : v ∉ ap θ [x] → v ∉ ap θ (t.take (k + 1)) := fun h2 => by
            rw [hts, List.mem_append]
            rintro (e | e)
            · exact hno e
            · exact h2 e
          have hstepH := Lib.hid hstep
          have hxv' := Lib.hid hxv
          cases hBx : B x with
          | none =>
            rw [hBx] at hsl
            rw [show vl = .slice none 0 0 from hsl] at qs
            have hno' : v ∉ ap θ [x] := by rw [hap1, hH.out.free x hx0 hBx]; simpa using fun e => hxv e.symm
            have hnoH := Lib.hid (hstep hno')
            clear hn
            clear hg hM hE hN hts hmo hno ht' hS' hmem hx hno' hap1 hsl hstep hBx hxv
            go_wp2_with fail
            go_roundw
            case rel => exact ⟨k + 1, D', by go_num, by omega, hgH.out, hMH'.out, hEH.out, hNH.out, hnoH.out⟩
            case measure => simp [intOf]; omega
          | some u =>
            rw [hBx] at hsl
            obtain ⟨a3, c3, rfl, hu⟩ := hsl
            have hbnd := hH.out.bnd x u hBx
            have hwu := (hH.out.wf x u hBx).1
            have hul := hwu.len
            obtain ⟨b3, o3, rfl, -, -, -⟩ := hu.int 0 (by omega)
            cases hDn : D' n with
            | true =>
              rw [hDn] at qd
              have hno' : v ∉ ap θ [x] := by rw [hap1]; have := hN n hn24 hDn (by rw [← hn]; exact hxK); rwa [← hn] at this
              have hnoH := Lib.hid (hstep hno')
              clear hn
              clear hg hM hE hN hts hmo hno ht' hS' hmem hx hno' hap1 hu hstep hBx hxv hbnd hwu hul
              go_wp2_with fail
              go_roundw
              case rel => exact ⟨k + 1, D', by go_num, by omega, hgH.out, hMH'.out, hEH.out, hNH.out, hnoH.out⟩
              case measure => simp [intOf]; omega
            | false =>
              rw [hDn] at qd
              obtain ⟨W, hW⟩ : ∃ W, wr.setCell ⟨db, n, none⟩ (.bool true) = W := ⟨_, rfl⟩
              have hgW : wr.grownBy W (some db) := by rw [← hW]; exact gby_set _ _ _ _
              have hMW : MarkW W db 130 (fun j => .bool (if j = n then true else D' j)) := by
                rw [← hW]
                refine (hM.set (i := n) (.bool true)).congr (fun i _ => ?_)
                by_cases e : i = n
                · simp [e]
                · simp [e]
              have hSW := hS'.grown hgW hSd hxd
              have huW := hu.same (.of_grown hgW (fun b hb e => hSd (by cases e; exact hb)))
              obtain ⟨vl2, qs2, hsl2⟩ := hSW.slot hx0 hx24
              have hqs2 : W.cell? ⟨xb, 1 + n, none⟩ = some (.slice (some ⟨b3, o3, none⟩) u.length c3) := by
                rw [← World.cell?_of_block (hgW.block xb hS'.lt (fun e => hxd (by cases e; rfl)))] at qs
                exact qs
              have hcall := ihH.out (ρ x) hxK u _ c3 _ W hSW hMW huW (hrH.out x u hBx).1 (fun m hm hm0 => hH.out.rk x u hBx m hm hm0) (occ_start (i := n) hx0 (by omega) hxK hN)
              have e1 : (-v - 1 : Int) = vn := by have := hvnH.out; omega
              rw [e1] at hcall
              have hcallH := Lib.hid hcall
              have hWH := Lib.hid hW
              have hgWH := Lib.hid hgW
              have hBxH := Lib.hid hBx
              have hbndH := Lib.hid hbnd
              clear hn
              clear hg hM hE hN hts hmo hno ht' hS' hmem hx hap1 hu hstep hBx hxv hbnd hwu hul hsl2 qs2 hcall hW hgW hMW hSW huW e1
              go_wp2_with fail
              rw [hWH.out]
              go_wp2_with fail
              refine hcallH.out.mono ?_
              rintro e w2 ⟨D2, r, rfl, hr1, hg2, hM2, hE2, hN2⟩
              have hg3 := gby_trans hgH.out (gby_trans hgWH.out hg2)
              have hE3 : ∀ j : Nat, j < 24 → K ≤ ρ (-(j : Int) - 1) → D2 j = D j := fun j hj hjK => by
                rw [hE2 j hj (by omega)]; simp only []; rw [if_neg (fun e => by subst e; rw [← hnH.out] at hjK; omega), hEH.out j hj hjK]
              have hap2 : ap θ u = ap θ [x] := by rw [ap_one hx0, hbndH.out]
              have hE3H := Lib.hid hE3
              have hg3H := Lib.hid hg3
              have hM2H := Lib.hid hM2
              have hE2H := Lib.hid hE2
              have hN2H := Lib.hid hN2
              have hr1H := Lib.hid hr1
              have hap2H := Lib.hid hap2
              clear hr1 hg2 hM2 hE2 hN2 hg3 hE3 hap2
              cases r with
              | true =>
                go_wp2_with fail
                go_ret
                have hmv : v ∈ ap θ t := hmoH.out (by rw [← hap2H.out]; exact hr1H.out.1 (by simp))
                exact ⟨D2, true, rfl, ⟨fun _ => hmv, fun _ => rfl⟩, hg3H.out, hM2H.out, hE3H.out, fun e => (e hmv).elim⟩
              | false =>
                go_wp2_with fail
                go_roundw
                case rel =>
                  have hnu : v ∉ ap θ u := fun e => by have := hr1H.out.2 e; cases this
                  refine ⟨k + 1, D2, by go_num, by omega, hg3H.out, hM2H.out, hE3H.out, ?_, hstepH.out (by rw [← hap2H.out]; exact hnu)⟩
                  exact occ_now (i := n) hH.out hx0 (by have := hnH.out; omega) hBxH.out hNH.out (hN2H.out hnu) hE2H.out hnu
                case measure => simp [intOf]; omega
    · have hall : ap θ (t.take k) = ap θ t := by rw [List.take_of_length_le (by omega)]
      rw [hall] at hno
      have hnoH := Lib.hid hno
      have hgH := Lib.hid hg
      have hMH' := Lib.hid hM
      have hEH := Lib.hid hE
      have hNH := Lib.hid hN
      clear hall hno hg hM hE hN
      go_wp2_with fail
      go_ret
      exact ⟨D', false, rfl, ⟨fun e => (by cases e), fun e => (hnoH.out e).elim⟩, hgH.out, hMH'.out, hEH.out, fun _ => hNH.out⟩
end Go.Proofs.YthkamffmpejckaaGreatDoor

/- Walks of the reference's solver: Solve. -/
namespace Go.Proofs.YthkamffmpejckaaGreatDoor
open Go Go.RowKit Go.Maps

abbrev Nx (xb : Nat) : Nat → Prop := fun b => b ≠ xb
def vsolRet (w : World) (xb : Nat) (a1 : Option Addr) (c1 : Nat) (s : Sg) (B : Bd) (θ : Int → List Int) (ρ : Int → Nat) (a b : List Int) (e : Ending) (w' : World) : Prop :=
  ∃ (r : Bool) (B' : Bd), e = .returned (.bool r) ∧ w.grownBy w' (some xb) ∧ SolX (Nx xb) w' xb a1 c1 s B' ∧ (r = false → ∀ η, Wsub s η → Sat B η → ap η a ≠ ap η b) ∧ (r = true → ∃ θ' ρ', Slv2 s B θ ρ a b B' θ' ρ')
theorem done_new (W : World) : MarkW (W.alloc (.cells #[.bool false, .bool false, .bool false, .bool false, .bool false, .bool false, .bool false, .bool false, .bool false, .bool false, .bool false, .bool false, .bool false, .bool false, .bool false, .bool false, .bool false, .bool false, .bool false, .bool false, .bool false, .bool false, .bool false, .bool false] 130)) W.heap.size 130 (fun _ => .bool ((fun _ => false) 0)) := by
  unfold MarkW
  rw [heap_alloc_new]
  rfl
theorem drew_trans {a b c : World} (h : Drew a b) (k : Drew b c) : Drew a c := by obtain ⟨n, rfl⟩ := h; obtain ⟨m, rfl⟩ := k; exact Drew.mk2 _ _ _
theorem rank_bd (ρ : Int → Nat) : ∀ (q : List Int), ∃ K, ∀ n ∈ q, n < 0 → ρ n < K
  | [] => ⟨0, fun n h => (by simp at h)⟩
  | x :: r => by
    obtain ⟨K, hK⟩ := rank_bd ρ r
    refine ⟨K + ρ x + 1, fun n hn h0 => ?_⟩
    rcases List.mem_cons.1 hn with e | e
    · subst e; omega
    · have := hK n e h0; omega
theorem Lkd.len {B : Bd} {a p : List Int} (h : Lkd B a p) (ha : a.length ≤ 60) (hB : ∀ n u, B n = some u → u.length ≤ 60) : p.length ≤ 60 := by
  induction h with
  | stop _ => exact ha
  | go _ hb _ ih => exact ih (hB _ _ hb)
set_option maxRecDepth 20000 in
set_option maxHeartbeats 4000000 in
theorem solve_var {xb : Nat} {a1 : Option Addr} {c1 : Nat} {s : Sg} {B : Bd} {θ : Int → List Int} {ρ : Int → Nat} (h : Slv s B θ ρ) (hr : RgB B) {w : World} (hS : SolX (Nx xb) w xb a1 c1 s B) {a2 a3 : Option Addr} {c2 c3 : Nat} {a b p q : List Int}
    (ta : Ints (Nx xb) w a2 c2 a) (tb : Ints (Nx xb) w a3 c3 b) (ha : W1 s a) (hb : W1 s b) (ra : Rg a) (rb : Rg b) (lb : b.length ≤ 60) (hp : Lkd B a p) (hq : Lkd B b q) (h0 : p.headD 0 < 0) :
    Calls Tryz.prog 73 #[.pointer (some ⟨xb, 0, none⟩), .slice a2 a.length c2, .slice a3 b.length c3] w (vsolRet w xb a1 c1 s B θ ρ a b) := by
  obtain ⟨ax, cx, tp, clx⟩ := rlook_any hS hr (fun n u hB => (h.wf n u hB).1) ta ha ra hp
  obtain ⟨ay, cy, tq, cly⟩ := rlook_any hS hr (fun n u hB => (h.wf n u hB).1) tb hb rb hq
  obtain ⟨p1, p2, p3⟩ := hp.spec h ha
  obtain ⟨q1, q2, q3⟩ := hq.spec h hb
  have rp := hp.rg hr ra
  have rq := hq.rg hr rb
  have hpv := p1.head_var h0
  have hB0 : B (p.headD 0) = none := p3 _ [] hpv h0
  have hp24 : -24 ≤ p.headD 0 := rp _ (by rw [hpv]; simp) h0
  have lq : q.length ≤ 60 := hq.len lb hS.len
  have hqw := q1.len
  have hpw := p1.len
  have hsame := Lib.hid (fun e => Slv2.same h hr ha hb hp hq h0 e)
  have hbound := Lib.hid (Slv2.bound h hr ha hb ra rb hp hq h0)
  have hocc := Lib.hid (slv_occurs h ha hb hp hq h0)
  obtain ⟨K, hK⟩ := rank_bd ρ q
  have hp0 : p[0] = p.headD 0 := by cases p with | nil => simp at hpw | cons _ _ => rfl
  have hq0 : q[0] = q.headD 0 := by cases q with | nil => simp at hqw | cons _ _ => rfl
  obtain ⟨x, hx⟩ : ∃ x, p.headD 0 = x := ⟨_, rfl⟩
  obtain ⟨y, hy⟩ : ∃ y, q.headD 0 = y := ⟨_, rfl⟩
  rw [hx] at hp0 h0 hB0 hp24
  rw [hy] at hq0
  simp only [hx, hy] at hsame hbound hocc
  obtain ⟨bp, op, rfl, hbp, qp, rp0⟩ := tp.int 0 hpw
  obtain ⟨bq, oq, rfl, hbq, qq, rq0⟩ := tq.int 0 hqw
  rw [Nat.add_zero, hp0] at qp
  rw [Nat.add_zero, hq0] at qq
  rw [hp0] at rp0
  rw [hq0] at rq0
  obtain ⟨n, hn⟩ : ∃ n : Nat, x = -(n : Int) - 1 := ⟨(-x - 1).toNat, by omega⟩
  have hnx : (-x - 1).toNat = n := by omega
  have hn24 : n < 24 := by omega
  have hxn : -x - 1 = (n : Int) := by omega
  have hw1 : IntKind.i64.wrap (-x) = -x := IntWalk.i64_in _ (by omega)
  have hw2 : IntKind.i64.wrap (-x - 1) = (n : Int) := by rw [hxn]; exact IntWalk.i64_in _ (by omega)
  have hx0 : x < 0 := h0
  have hdv : decide (x < 0) = true := by simpa using h0
  have m1 := ta.le
  have m2 := tb.le
  have m3 : p.length ≤ 1000 := by rw [hpv]; simp
  have hoc := fun (S : Nat → Prop) (db : Nat) (hSd : ¬ S db) (hxd : xb ≠ db) => roccurs_any (S := S) (xb := xb) (db := db) (a1 := a1) (c1 := c1) h hr hSd hxd h0 hp24 hB0 K q
  have hnxH := Lib.hid hnx
  have hKH := Lib.hid hK
  have hrqH := Lib.hid rq
  have hocH := Lib.hid hoc
  have clxW : ∀ W, Drew w W → Calls Tryz.prog 103 #[.pointer (some ⟨xb, 0, none⟩), .slice a2 a.length c2] W fun e w' => e = .returned (.slice (some ⟨bp, op, none⟩) p.length cx) ∧ Drew W w' := by
    rintro W ⟨m, rfl⟩; exact clx m
  have clyW : ∀ W, Drew w W → Calls Tryz.prog 103 #[.pointer (some ⟨xb, 0, none⟩), .slice a3 b.length c3] W fun e w' => e = .returned (.slice (some ⟨bq, oq, none⟩) q.length cy) ∧ Drew W w' := by
    rintro W ⟨m, rfl⟩; exact cly m
  have clxH := Lib.hid clxW
  have clyH := Lib.hid clyW
  have hSH := Lib.hid hS
  have tqH := Lib.hid tq
  have hqwH := Lib.hid hqw
  clear clxW clyW h hr hS ta tb ha hb ra rb hp hq p1 p2 p3 q1 q2 q3 rp rq hpv hB0 hK hp0 hq0 hx hy hn hnx tp tq hoc clx cly h0 hp24
  go_enter Tryz.func73, Tryz.ntmps73
  go_wp2_with fail
  refine (clxH.out w (.refl w)).mono ?_
  rintro e w1 ⟨rfl, hd1⟩
  go_wp2_with fail
  refine (clyH.out w1 hd1).mono ?_
  rintro e w2 ⟨rfl, hd2⟩
  have hd := drew_trans hd1 hd2
  have hB2 := hd.below w.heap.size
  have qp2 := cell_later hB2 qp
  have qq2 := cell_later hB2 qq
  have hS2H := Lib.hid (hSH.out.below hB2)
  have tq2H := Lib.hid (tqH.out.below hB2)
  have hB2H := Lib.hid hB2
  clear qp qq hd1 hd2 hd clxH clyH tqH hSH hB2
  by_cases hyx : y = x
  · have hyxb : (y == x) = true := by simpa using hyx
    have hsm := Lib.hid (hsame.out hyx)
    clear hyx hsame hbound hocc hocH
    go_wp2_with fail
    go_quiet (fail)
    all_goals go_wp2_with fail
    all_goals go_ret
    exact ⟨true, B, rfl, gby_below (bcall hB2H.out ((Drew.mk _ _).below _)), hS2H.out.below ((Drew.mk _ _).below _), fun e => (by cases e), fun _ => ⟨_, _, hsm.out⟩⟩
  · have hyxb : (y == x) = false := by simpa using hyx
    have hyxH := Lib.hid hyx
    clear hyx hsame
    go_wp2_with fail
    go_quiet (fail)
    go_upto_region 6 with fail
    obtain ⟨W3, hW3⟩ : ∃ W3, w2.drewN nq = W3 := ⟨_, rfl⟩
    have hb3 : Below w2.heap.size w2 W3 := by rw [← hW3]; exact (Drew.mk _ _).below _
    rw [hW3]
    have qp3 := cell_later hb3 qp2
    have qq3 := cell_later hb3 qq2
    have hS3 := hS2H.out.below hb3
    have tq3 := tq2H.out.below hb3
    have hB3 := bcall hB2H.out hb3
    obtain ⟨W4, hW4⟩ : ∃ W4, W3.alloc (.cells #[.bool false, .bool false, .bool false, .bool false, .bool false, .bool false, .bool false, .bool false, .bool false, .bool false, .bool false, .bool false, .bool false, .bool false, .bool false, .bool false, .bool false, .bool false, .bool false, .bool false, .bool false, .bool false, .bool false, .bool false] 130) = W4 := ⟨_, rfl⟩
    have hM4 : MarkW W4 W3.heap.size 130 (fun _ => .bool ((fun _ => false) 0)) := by rw [← hW4]; exact done_new W3
    have hb4 : Below W3.heap.size W3 W4 := by rw [← hW4]; exact below1 _ _
    have hS4 := (hS3.lts.below hb4)
    have tq4 := (tq3.lt.below hb4)
    have hxd : xb ≠ W3.heap.size := by have := hS3.lt; omega
    have cc := hocH.out _ W3.heap.size (fun h => by have := h.2; omega) hxd _ _ (fun _ => false) W4 hS4 hM4 tq4 hrqH.out hKH.out (fun _ _ h => by cases h)
    have hz3 : W3.heap.size = w2.heap.size := by rw [← hW3]; rfl
    rw [hxn, hz3] at cc
    rw [hz3] at hxd
    have ccH := Lib.hid cc
    have hW4H := Lib.hid hW4
    have hS4H := Lib.hid hS4
    have tq4H := Lib.hid tq4
    have qp4 := cell_later hb4 qp3
    have hB4H := Lib.hid (bcall hB3 hb4)
    have hz4H := Lib.hid (show w.heap.size ≤ w2.heap.size ∧ w.heap.size ≤ W4.heap.size from ⟨by rw [← hz3]; exact hB3.size, Nat.le_trans hB3.size hb4.size⟩)
    have hbpH := Lib.hid (show bp < w2.heap.size by rw [← hz3]; exact World.block_lt_of_cell? _ _ qp3)
    have hS4w := Lib.hid (show (fun b => Nx xb b ∧ b < W3.heap.size) = (fun b => Nx xb b ∧ b < w2.heap.size) by rw [hz3])
    clear hz3 cc hW3 hb3 qp2 qq2 hS3 tq3 hB3 hM4 hb4 hS4 tq4 hW4 hS2H tq2H hB2H hocH hKH hrqH
    rw [hW4H.out]
    go_wp2_with fail
    (with_reducible refine ccH.out.mono ?_)
    rintro e w5 ⟨D', r, rfl, hr1, hg5, -, -, -⟩
    have hr1H := Lib.hid hr1
    have hb5 := Lib.hid (below_of_gby hB4H.out hg5 hz4H.out.2 hz4H.out.1)
    have hS4x := hS4H.out
    have tq4x := tq4H.out
    rw [hS4w.out] at hS4x tq4x
    have hS5 := Lib.hid (hS4x.grown hg5 (fun h => by have := h.2; omega) hxd)
    have tq5 := Lib.hid (tq4x.same (.of_grown hg5 (fun b hb e => by cases e; have := hb.2; omega)))
    have qp5 := (World.cell?_of_block (hg5.block bp (World.block_lt_of_cell? _ _ qp4) (fun e => by have := hbpH.out; cases e; omega))).trans qp4
    clear hS4x tq4x hr1 hg5 hS4H tq4H hB4H hz4H qp4
    cases r with
    | true =>
      go_wp2_with fail
      go_ret
      exact ⟨false, B, rfl, gby_below hb5.out, hS5.out.weak (fun _ h => h.1), fun _ => hocc.out hyxH.out (hr1H.out.1 (by simp)), fun e => (by cases e)⟩
    | false =>
      obtain ⟨vo, hc5, -⟩ := hS5.out.slot hx0 (by omega)
      rw [hnxH.out] at hc5
      have hf5 := hS5.out.frozen (1 + n)
      have hbd : Below w5.heap.size w5 w5.drew := Below.drew (.refl w5.heap.size _)
      have hS6 := ((hS5.out.weak (S' := Nx xb) (fun _ h => h.1)).below hbd).set (fun h => h rfl) hx0 (by omega) ((tq5.out.weak (S' := Nx xb) (fun _ h => h.1)).below hbd) lq
      rw [hnxH.out] at hS6
      have hgF := gby_trans (gby_below (row := some xb) (bcall hb5.out hbd)) (gby_set w5.drew xb (1 + n) (.slice (some ⟨bq, oq, none⟩) q.length cy))
      obtain ⟨θ', ρ', hfin⟩ := hbound.out (fun e => by have := hr1H.out.2 e; cases this)
      have hS6H := Lib.hid hS6
      have hgFH := Lib.hid hgF
      have hfinH := Lib.hid hfin
      clear hS6 hgF hfin hbd hS5 tq5 hb5 hr1H
      go_wp2_with fail
      go_region
      all_goals go_wp2_with fail
      all_goals go_ret
      all_goals exact ⟨true, _, rfl, hgFH.out, hS6H.out, fun e => (by cases e), fun _ => ⟨_, _, hfinH.out⟩⟩
end Go.Proofs.YthkamffmpejckaaGreatDoor

/- Walks of the reference's solver: Solve of any terms. -/
namespace Go.Proofs.YthkamffmpejckaaGreatDoor
open Go Go.RowKit Go.Maps

theorem Slv2.turn {s : Sg} {B : Bd} {θ : Int → List Int} {ρ : Int → Nat} {a b p q : List Int} {B' : Bd} {θ' : Int → List Int} {ρ' : Int → Nat} (h : Slv s B θ ρ) (ha : W1 s a) (hb : W1 s b) (hp : Lkd B a p) (hq : Lkd B b q) (h2 : Slv2 s B θ ρ q p B' θ' ρ') : Slv2 s B θ ρ a b B' θ' ρ' := by
  refine ⟨h2.slv, h2.rg, fun η hw => ?_, h2.less⟩
  rw [h2.sat η hw]
  constructor
  · rintro ⟨g1, g2⟩
    refine ⟨g1, ?_⟩
    rw [← hp.eta g1 ha (fun n u hB => (h.wf n u hB).1), ← hq.eta g1 hb (fun n u hB => (h.wf n u hB).1), g2]
  · rintro ⟨g1, g2⟩
    refine ⟨g1, ?_⟩
    rw [hp.eta g1 ha (fun n u hB => (h.wf n u hB).1), hq.eta g1 hb (fun n u hB => (h.wf n u hB).1), g2]
theorem no_turn {s : Sg} {B : Bd} {θ : Int → List Int} {ρ : Int → Nat} {a b p q : List Int} (h : Slv s B θ ρ) (ha : W1 s a) (hb : W1 s b) (hp : Lkd B a p) (hq : Lkd B b q) (h2 : ∀ η, Wsub s η → Sat B η → ap η q ≠ ap η p) : ∀ η, Wsub s η → Sat B η → ap η a ≠ ap η b := by
  intro η hw hs he
  refine h2 η hw hs ?_
  rw [hp.eta hs ha (fun n u hB => (h.wf n u hB).1), hq.eta hs hb (fun n u hB => (h.wf n u hB).1), he]
theorem lkd_self {B : Bd} {a p : List Int} (h : Lkd B a p) : Lkd B p p := by
  induction h with
  | stop h => exact .stop h
  | go _ _ _ ih => exact ih
/-- one call of Solve -/
def SolveAt (xb : Nat) (a1 : Option Addr) (c1 : Nat) (s : Sg) (B : Bd) (θ : Int → List Int) (ρ : Int → Nat) (a b : List Int) : Prop :=
  ∀ (w : World) (a2 a3 : Option Addr) (c2 c3 : Nat), SolX (Nx xb) w xb a1 c1 s B → Ints (Nx xb) w a2 c2 a → Ints (Nx xb) w a3 c3 b →
    Calls Tryz.prog 73 #[.pointer (some ⟨xb, 0, none⟩), .slice a2 a.length c2, .slice a3 b.length c3] w (vsolRet w xb a1 c1 s B θ ρ a b)
def vlopRel (w : World) (xb : Nat) (a1 : Option Addr) (c1 : Nat) (s : Sg) (B : Bd) (θ : Int → List Int) (ρ : Int → Nat) (p q : List Int) (m : Nat) (i : Value) (wr : World) : Prop :=
  ∃ (k : Nat) (B1 : Bd) (θ1 : Int → List Int) (ρ1 : Int → Nat), i = .int .i64 k ∧ k ≤ m ∧ SlvK s B θ ρ p q k B1 θ1 ρ1 ∧ SolX (Nx xb) wr xb a1 c1 s B1 ∧ w.grownBy wr (some xb)
theorem args_len {s : Sg} {t u : List Int} (ht : W1 s t) (hu : u ∈ argsW s t) : u.length < t.length := by
  cases t with
  | nil => exact (ht.ne rfl).elim
  | cons n x =>
    obtain ⟨-, h2, -, -⟩ := ht.args
    obtain ⟨L1, L2, hL⟩ := List.append_of_mem hu
    have : x.length = L1.flatten.length + (u.length + L2.flatten.length) := by rw [← h2, hL]; simp
    rw [List.length_cons]; omega
theorem keep2 {W4 w1 w2 : World} {xb : Nat} {v : Value} (h : w1.cell? ⟨xb, 0, none⟩ = some v ∧ Below W4.heap.size W4 w1) (hb : Below w1.heap.size w1 w2) : w2.cell? ⟨xb, 0, none⟩ = some v ∧ Below W4.heap.size W4 w2 := ⟨cell_later hb h.1, bcall h.2 hb⟩
def S4 (xb : Nat) (v vi vj : Value) (ci cj : Addr) (wr w' : World) : Prop := w'.cell? ⟨xb, 0, none⟩ = some v ∧ w'.cell? ci = some vi ∧ w'.cell? cj = some vj ∧ wr.grownBy w' (some xb)
theorem S4.call {xb : Nat} {v vi vj : Value} {ci cj : Addr} {wr w1 w2 : World} (h : w1.cell? ⟨xb, 0, none⟩ = some v ∧ w1.cell? ci = some vi ∧ w1.cell? cj = some vj ∧ wr.grownBy w1 (some xb)) (hb : Below w1.heap.size w1 w2) : w2.cell? ⟨xb, 0, none⟩ = some v ∧ w2.cell? ci = some vi ∧ w2.cell? cj = some vj ∧ wr.grownBy w2 (some xb) :=
  ⟨cell_later hb h.1, cell_later hb h.2.1, cell_later hb h.2.2.1, gby_trans h.2.2.2 (gby_below hb)⟩
theorem S4.solve {xb : Nat} {vi vj : Value} {ci cj : Addr} {wr w1 w2 : World} {a1 : Option Addr} {c1 : Nat} {s : Sg} {B : Bd} (h : w1.cell? ⟨xb, 0, none⟩ = some (.slice a1 s.length c1) ∧ w1.cell? ci = some vi ∧ w1.cell? cj = some vj ∧ wr.grownBy w1 (some xb)) (hi : ci.block ≠ xb) (hj : cj.block ≠ xb) (hg : w1.grownBy w2 (some xb)) (hs : SolX (Nx xb) w2 xb a1 c1 s B) :
    w2.cell? ⟨xb, 0, none⟩ = some (.slice a1 s.length c1) ∧ w2.cell? ci = some vi ∧ w2.cell? cj = some vj ∧ wr.grownBy w2 (some xb) :=
  ⟨hs.sign, (World.cell?_of_block (hg.block _ (World.block_lt_of_cell? _ _ h.2.1) (fun e => hi (by cases e; rfl)))).trans h.2.1, (World.cell?_of_block (hg.block _ (World.block_lt_of_cell? _ _ h.2.2.1) (fun e => hj (by cases e; rfl)))).trans h.2.2.1, gby_trans h.2.2.2 hg⟩
theorem aposL_at {s : Sg} {t : List Int} {k : Nat} (h : k < (aposL s t).length) : (aposL s t)[k] = (apos s t k : Int) := by simp [aposL]
theorem aposL_len (s : Sg) (t : List Int) : (aposL s t).length = (argsW s t).length := by simp [aposL]
set_option maxRecDepth 20000 in
set_option maxHeartbeats 4000000 in
theorem solve_step {xb : Nat} {a1 : Option Addr} {c1 : Nat} {s : Sg} {B : Bd} {θ : Int → List Int} {ρ : Int → Nat} (hok : okSign s = true) (h : Slv s B θ ρ) (hr : RgB B) {a b p q : List Int} (ha : W1 s a) (hb : W1 s b) (ra : Rg a) (rb : Rg b) (la : a.length ≤ 60) (lb : b.length ≤ 60) (hlB : ∀ n u, B n = some u → u.length ≤ 60)
    (hp : Lkd B a p) (hq : Lkd B b q) (h0 : 0 ≤ p.headD 0)
    (hrec : ∀ k B1 θ1 ρ1 (hx : k < (argsW s p).length) (hy : k < (argsW s q).length), q.headD 0 = p.headD 0 → SlvK s B θ ρ p q k B1 θ1 ρ1 → SolveAt xb a1 c1 s B1 θ1 ρ1 (argsW s p)[k] (argsW s q)[k]) :
    SolveAt xb a1 c1 s B θ ρ a b := by
  intro w a2 a3 c2 c3 hS ta tb
  obtain ⟨ax, cx, tp, clx⟩ := rlook_any hS hr (fun n u hB => (h.wf n u hB).1) ta ha ra hp
  obtain ⟨ay, cy, tq, cly⟩ := rlook_any hS hr (fun n u hB => (h.wf n u hB).1) tb hb rb hq
  obtain ⟨p1, p2, p3⟩ := hp.spec h ha
  obtain ⟨q1, q2, q3⟩ := hq.spec h hb
  have rp := hp.rg hr ra
  have rq := hq.rg hr rb
  have lp : p.length ≤ 60 := hp.len la hlB
  have lq : q.length ≤ 60 := hq.len lb hlB
  have hqw := q1.len
  have hpw := p1.len
  have hp0 : p[0] = p.headD 0 := by cases p with | nil => simp at hpw | cons _ _ => rfl
  have hq0 : q[0] = q.headD 0 := by cases q with | nil => simp at hqw | cons _ _ => rfl
  have hturn : q.headD 0 < 0 → SolveAt xb a1 c1 s B θ ρ q p := fun hq0 w2 a4 a5 c4 c5 hS2 t4 t5 => solve_var h hr hS2 t4 t5 q1 p1 rq rp lp (lkd_self hq) (lkd_self hp) hq0
  have hclash := slv_clash h ha hb hp hq h0
  obtain ⟨P1, P2, P3⟩ := args_all p1 rfl
  obtain ⟨Q1, Q2, Q3⟩ := args_all q1 rfl
  have hal : q.headD 0 = p.headD 0 → (argsW s q).length = (argsW s p).length := fun e => by rw [P1, Q1, e]
  have hm3 : (argsW s p).length ≤ 3 := by rw [P1]; exact arW_le3 hok P2
  have hfin := fun k B1 θ1 ρ1 e hk => SlvK.fin (k := k) (B1 := B1) (θ1 := θ1) (ρ1 := ρ1) h ha hb hp hq h0 e hk
  have hfail := fun k B1 θ1 ρ1 e hk => SlvK.fail (k := k) (B1 := B1) (θ1 := θ1) (ρ1 := ρ1) h ha hb hp hq h0 e hk
  have hst := SlvK.start (p := p) (q := q) h hr
  have hnt := Lib.hid (no_turn h ha hb hp hq)
  have htn := Lib.hid (fun B' θ' ρ' => Slv2.turn (B' := B') (θ' := θ') (ρ' := ρ') h ha hb hp hq)
  obtain ⟨x, hx⟩ : ∃ x, p.headD 0 = x := ⟨_, rfl⟩
  obtain ⟨y, hy⟩ : ∃ y, q.headD 0 = y := ⟨_, rfl⟩
  rw [hx] at hp0 h0
  rw [hy] at hq0
  simp only [hx, hy] at hturn hclash hal hfin hfail hrec
  obtain ⟨bp, op, rfl, hbp, qp, rp0⟩ := tp.int 0 hpw
  obtain ⟨bq, oq, rfl, hbq, qq, rq0⟩ := tq.int 0 hqw
  rw [Nat.add_zero, hp0] at qp
  rw [Nat.add_zero, hq0] at qq
  rw [hp0] at rp0
  rw [hq0] at rq0
  have hdv : decide (x < 0) = false := by simpa using h0
  have m1 := ta.le
  have m2 := tb.le
  have clxW : ∀ W, Drew w W → Calls Tryz.prog 103 #[.pointer (some ⟨xb, 0, none⟩), .slice a2 a.length c2] W fun e w' => e = .returned (.slice (some ⟨bp, op, none⟩) p.length cx) ∧ Drew W w' := by
    rintro W ⟨m, rfl⟩; exact clx m
  have clyW : ∀ W, Drew w W → Calls Tryz.prog 103 #[.pointer (some ⟨xb, 0, none⟩), .slice a3 b.length c3] W fun e w' => e = .returned (.slice (some ⟨bq, oq, none⟩) q.length cy) ∧ Drew W w' := by
    rintro W ⟨m, rfl⟩; exact cly m
  have clxH := Lib.hid clxW
  have clyH := Lib.hid clyW
  have hSH := Lib.hid hS
  have tpH := Lib.hid tp
  have tqH := Lib.hid tq
  have p1H := Lib.hid p1
  have q1H := Lib.hid q1
  have hturnH := Lib.hid hturn
  have hclashH := Lib.hid hclash
  have P3H := Lib.hid P3
  have Q3H := Lib.hid Q3
  have halH := Lib.hid hal
  have hm3H := Lib.hid hm3
  have hfinH := Lib.hid hfin
  have hfailH := Lib.hid hfail
  have hstH := Lib.hid hst
  have hrecH := Lib.hid hrec
  have hokH := Lib.hid hok
  have h0H := Lib.hid h0
  clear h hr hS ta tb ha hb ra rb la lb hlB hp hq p1 p2 p3 q1 q2 q3 rp rq hp0 hq0 hx hy tp tq clx cly clxW clyW hturn hclash P1 P2 P3 Q1 Q2 Q3 hal hm3 hfin hfail hst hrec hok
  go_enter Tryz.func73, Tryz.ntmps73
  go_wp2_with fail
  (with_reducible refine (clxH.out w (.refl w)).mono ?_)
  rintro e w1 ⟨rfl, hd1⟩
  go_wp2_with fail
  (with_reducible refine (clyH.out w1 hd1).mono ?_)
  rintro e w2 ⟨rfl, hd2⟩
  have hd := drew_trans hd1 hd2
  have hB2 := hd.below w.heap.size
  have qp2 := cell_later hB2 qp
  have qq2 := cell_later hB2 qq
  have hS2H := Lib.hid (hSH.out.below hB2)
  have tp2H := Lib.hid (tpH.out.below hB2)
  have tq2H := Lib.hid (tqH.out.below hB2)
  have hB2H := Lib.hid hB2
  clear qp qq hd1 hd2 hd clxH clyH tpH tqH hSH hB2
  go_wp2_with fail
  go_quiet (fail)
  by_cases hy0 : y < 0
  · -- the second is a variable
    have hcall := hturnH.out hy0
    have hcallH := Lib.hid hcall
    clear hcall hclashH P3H Q3H halH hfinH hfailH hstH hrecH hturnH
    go_upto_region 11 with fail
    obtain ⟨W3, hW3⟩ : ∃ W3, w2.drewN nq = W3 := ⟨_, rfl⟩
    have hb3 : Below w2.heap.size w2 W3 := by rw [← hW3]; exact (Drew.mk _ _).below _
    rw [hW3]
    have cc := Lib.hid (hcallH.out W3 _ _ cy cx (hS2H.out.below hb3) (tq2H.out.below hb3) (tp2H.out.below hb3))
    have hB3 := Lib.hid (bcall hB2H.out hb3)
    clear hcallH hW3 hb3 hS2H tq2H tp2H hB2H qp2 qq2
    go_wp2_with fail
    (with_reducible refine cc.out.mono ?_)
    rintro e w3 ⟨r, B', rfl, hg, hSX, hf, ht⟩
    have hgH := Lib.hid (gby_trans (gby_below hB3.out) hg)
    have hSXH := Lib.hid hSX
    have hfH := Lib.hid hf
    have htH := Lib.hid ht
    clear hg hSX hf ht cc hB3
    go_wp2_with fail
    go_ret
    exact ⟨r, B', rfl, hgH.out, hSXH.out, fun e => hnt.out (hfH.out e), fun e => by obtain ⟨θ', ρ', h2⟩ := htH.out e; exact ⟨θ', ρ', htn.out _ _ _ h2⟩⟩
  · have hdv2 : decide (y < 0) = false := by simpa using hy0
    have hy0' : 0 ≤ y := by omega
    clear hturnH hnt htn
    go_upto_region 12 with fail
    obtain ⟨W3, hW3⟩ : ∃ W3, w2.drewN nq = W3 := ⟨_, rfl⟩
    have hb3 : Below w2.heap.size w2 W3 := by rw [← hW3]; exact (Drew.mk _ _).below _
    rw [hW3]
    have qp3 := cell_later hb3 qp2
    have qq3 := cell_later hb3 qq2
    have hS3H := Lib.hid (hS2H.out.below hb3)
    have tp3H := Lib.hid (tp2H.out.below hb3)
    have tq3H := Lib.hid (tq2H.out.below hb3)
    have hB3H := Lib.hid (bcall hB2H.out hb3)
    clear hW3 hb3 hS2H tq2H tp2H hB2H qp2 qq2
    by_cases hxy : x = y
    · have hne : (x != y) = false := by simpa using hxy
      have hyxH := Lib.hid hxy.symm
      clear hxy hclashH
      go_wp2_with fail
      go_quiet (fail)
      go_upto_region 14 with fail
      obtain ⟨W4, hW4⟩ : ∃ W4, W3.drewN nq = W4 := ⟨_, rfl⟩
      have hb4 : Below W3.heap.size W3 W4 := by rw [← hW4]; exact (Drew.mk _ _).below _
      rw [hW4]
      have hS4 := hS3H.out.below hb4
      have tp4 := tp3H.out.below hb4
      have tq4 := tq3H.out.below hb4
      have hB4 := bcall hB3H.out hb4
      have qs := hS4.sign
      have caP := fun W (hb : Below W4.heap.size W4 W) => wArguments_any a1 (some ⟨bp, op, none⟩) c1 cx s p W (hS4.sg.below hb) (tp4.below hb) hokH.out p1H.out (by omega)
      have caQ := fun W (hb : Below W4.heap.size W4 W) => wArguments_any a1 (some ⟨bq, oq, none⟩) c1 cy s q W (hS4.sg.below hb) (tq4.below hb) hokH.out q1H.out (by omega)
      have caPH := Lib.hid caP
      have caQH := Lib.hid caQ
      have hS4H := Lib.hid hS4
      have tp4H := Lib.hid tp4
      have tq4H := Lib.hid tq4
      have hB4H := Lib.hid hB4
      clear hW4 hb4 hS3H tp3H tq3H hB3H qp3 qq3 caP caQ hS4 tp4 tq4 hB4
      have hk0 : W4.drew.cell? ⟨xb, 0, none⟩ = some (.slice a1 s.length c1) ∧ Below W4.heap.size W4 W4.drew := ⟨qs, Below.drew (.refl W4.heap.size _)⟩
      go_region_held3 (fun w' => w'.cell? ⟨xb, 0, none⟩ = some (.slice a1 s.length c1) ∧ Below W4.heap.size W4 w')
        ((first | exact hk0 | exact keep2 ‹_› hbQ | exact keep2 ‹_› hbP))
        ((go_at_call 72; (first
          | ((with_reducible refine (caPH.out _ ?_).mono ?_); exact (And.right ‹_›); rintro e w' ⟨vP, rfl, hoP, hbP⟩; obtain ⟨aP, cP, rfl, hIP⟩ := hoP.ints)
          | ((with_reducible refine (caQH.out _ ?_).mono ?_); exact (And.right ‹_›); rintro e w' ⟨vQ, rfl, hoQ, hbQ⟩; obtain ⟨aQ, cQ, rfl, hIQ⟩ := hoQ.ints))))
      have hB5 : Below W4.heap.size W4 w' := And.right (by assumption : w'.cell? ⟨xb, 0, none⟩ = some (.slice a1 s.length c1) ∧ Below W4.heap.size W4 w')
      have hxlt : xb < W4.heap.size := hS4H.out.lt
      have hIP5 := Lib.hid ((hIP.below hbQ).weak (S' := Nx xb) (fun b hb e => by have hb' : W4.heap.size ≤ b := hb; omega))
      have hIQ5 := Lib.hid (hIQ.weak (S' := Nx xb) (fun b hb e => by have hb' : _ ≤ b := hb; have h2 : W4.heap.size ≤ _ := hbP.size; omega))
      have hS5H := Lib.hid (hS4H.out.below hB5)
      have tp5H := Lib.hid (tp4H.out.below hB5)
      have tq5H := Lib.hid (tq4H.out.below hB5)
      have hB5H := Lib.hid (bcall hB4H.out hB5)
      have hlP := aposL_len s p
      have hlQ := aposL_len s q
      rw [halH.out hyxH.out] at hlQ
      have hlQH := Lib.hid hlQ
      have hm3 := hm3H.out
      obtain ⟨m, hm⟩ : ∃ m, (argsW s p).length = m := ⟨_, rfl⟩
      rw [hm] at hlP hlQ hm3
      have hmH := Lib.hid hm
      obtain ⟨w5, hw5⟩ : ∃ w5, w' = w5 := ⟨_, rfl⟩
      subst hw5
      clear hm hB5 hIP hIQ hbP hbQ hoP hoQ hS4H tp4H tq4H hB4H caPH caQH hk0 hxlt qs hlQH
      go_wp2_with fail
      go_loopw [10] (fun i wr => vlopRel w' xb a1 c1 s B θ ρ p q m i wr) (fun i _ => m - (intOf i).toNat)
      case atStart => exact ⟨0, B, θ, ρ, rfl, Nat.zero_le _, hstH.out, hS5H.out, gby_refl _ _⟩
      case round =>
        obtain ⟨k, B1, θ1, ρ1, rfl, hk, hK, hSr, hg⟩ := hrel
        by_cases hkm : k < m
        · have hA : Agree (Nx xb) w' wr := .of_grown hg (fun b hb e => hb (by cases e; rfl))
          have hkP : k < (argsW s p).length := by rw [hmH.out]; exact hkm
          have hkQ : k < (argsW s q).length := by rw [halH.out hyxH.out, hmH.out]; exact hkm
          obtain ⟨bi, oi, rfl, hbi, qi, -⟩ := (hIP5.out.same hA).int k (by rw [hlP]; exact hkm)
          obtain ⟨bj, oj, rfl, hbj, qj, -⟩ := (hIQ5.out.same hA).int k (by rw [hlQ]; exact hkm)
          rw [aposL_at] at qi qj
          obtain ⟨g1, g2, g3, g4⟩ := P3H.out k hkP
          obtain ⟨f1, f2, f3, f4⟩ := Q3H.out k hkQ
          have hcall := hrecH.out k B1 θ1 ρ1 hkP hkQ hyxH.out hK
          have hstep := fun B2 θ2 ρ2 => SlvK.step (B2 := B2) (θ2 := θ2) (ρ2 := ρ2) hK hkP hkQ
          have hfl := hfailH.out k B1 θ1 ρ1 hyxH.out hK hkP hkQ
          have caP := fun W (hW : wr.grownBy W (some xb)) => wPart_any a1 (some ⟨bp, op, none⟩) c1 cx s p (apos s p k) (apos s p (k + 1)) (argsW s p)[k] W (hSr.sg.same (.of_grown hW (fun b hb e => hb (by cases e; rfl)))) ((tp5H.out.same hA).same (.of_grown hW (fun b hb e => hb (by cases e; rfl)))) hokH.out g1 g2 g3 g4 (by omega)
          have caQ := fun W (hW : wr.grownBy W (some xb)) => wPart_any a1 (some ⟨bq, oq, none⟩) c1 cy s q (apos s q k) (apos s q (k + 1)) (argsW s q)[k] W (hSr.sg.same (.of_grown hW (fun b hb e => hb (by cases e; rfl)))) ((tq5H.out.same hA).same (.of_grown hW (fun b hb e => hb (by cases e; rfl)))) hokH.out f1 f2 f3 f4 (by omega)
          obtain ⟨u1, hu1⟩ : ∃ u1, (argsW s p)[k] = u1 := ⟨_, rfl⟩
          obtain ⟨u2, hu2⟩ : ∃ u2, (argsW s q)[k] = u2 := ⟨_, rfl⟩
          rw [hu1] at hcall hfl
          rw [hu2] at hcall hfl
          simp only [hu1, hu2] at hstep caP caQ
          obtain ⟨gi, hgi⟩ : ∃ gi, apos s p k = gi := ⟨_, rfl⟩
          obtain ⟨gj, hgj⟩ : ∃ gj, apos s q k = gj := ⟨_, rfl⟩
          rw [hgi] at caP qi
          rw [hgj] at caQ qj
          have hk0 : wr.drew.cell? ⟨xb, 0, none⟩ = some (.slice a1 s.length c1) ∧ wr.drew.cell? ⟨bi, oi + k, none⟩ = some (.int .i64 gi) ∧ wr.drew.cell? ⟨bj, oj + k, none⟩ = some (.int .i64 gj) ∧ wr.grownBy wr.drew (some xb) :=
            ⟨hSr.sign, qi, qj, gby_below (Below.drew (.refl wr.heap.size _))⟩
          have hcS : ∀ (W w1 : World) (_ : Below wr.drew.heap.size wr.drew w1) (_ : Below w1.heap.size w1 W) (a4 a5 : Option Addr) (c4 c5 : Nat) (_ : Ints (fun b => wr.drew.heap.size ≤ b) w1 a4 c4 u1) (_ : Ints (fun b => w1.heap.size ≤ b) W a5 c5 u2),
              Calls Tryz.prog 73 #[.pointer (some ⟨xb, 0, none⟩), .slice a4 u1.length c4, .slice a5 u2.length c5] W (vsolRet W xb a1 c1 s B1 θ1 ρ1 u1 u2) := fun W w1 h1 h2 a4 a5 c4 c5 i1 i2 => by
            have hx1 := hSr.lt
            refine hcall W a4 a5 c4 c5 (((hSr.below (Below.drew (.refl wr.heap.size _))).below h1).below h2) ((i1.below h2).weak (fun b hb e => ?_)) (i2.weak (fun b hb e => ?_))
            · have hb' : wr.heap.size ≤ b := hb; omega
            · have hb' : w1.heap.size ≤ b := hb
              have : wr.heap.size ≤ w1.heap.size := h1.size
              omega
          have hcSH := Lib.hid hcS
          have caPH := Lib.hid caP
          have caQH := Lib.hid caQ
          have hstepH := Lib.hid hstep
          have hflH := Lib.hid hfl
          have hgH := Lib.hid hg
          have hSrH := Lib.hid hSr
          have qs := hSr.sign
          clear hA g1 g2 g3 g4 f1 f2 f3 f4 hcall hstep hfl caP caQ hu1 hu2 hgi hgj hcS hg hSr hK hkP hkQ
          go_wp2_with fail
          go_region_held3 (fun w' => w'.cell? ⟨xb, 0, none⟩ = some (.slice a1 s.length c1) ∧ w'.cell? ⟨bi, oi + k, none⟩ = some (.int .i64 gi) ∧ w'.cell? ⟨bj, oj + k, none⟩ = some (.int .i64 gj) ∧ wr.grownBy w' (some xb))
            ((first | exact hk0 | exact S4.solve ‹_› hbi hbj hgS hSX | exact S4.call ‹_› hbQ | exact S4.call ‹_› hbP))
            ((first
              | (go_at_call 74; (first
                | ((with_reducible refine (caPH.out _ ?_).mono ?_); exact (And.right (And.right (And.right ‹_›))); rintro e w' ⟨vP, rfl, hoP, hbP⟩; obtain ⟨aP, cP, rfl, hIP⟩ := hoP.ints)
                | ((with_reducible refine (caQH.out _ ?_).mono ?_); exact (And.right (And.right (And.right ‹_›))); rintro e w' ⟨vQ, rfl, hoQ, hbQ⟩; obtain ⟨aQ, cQ, rfl, hIQ⟩ := hoQ.ints)))
              | (go_at_call 73; (with_reducible refine (hcSH.out _ _ hbP hbQ _ _ _ _ hIP hIQ).mono ?_); rintro e w' ⟨r, B', rfl, hgS, hSX, hf, ht⟩)))
          have hgW : wr.grownBy w' (some xb) := And.right (And.right (And.right (by assumption : w'.cell? ⟨xb, 0, none⟩ = some (.slice a1 s.length c1) ∧ w'.cell? ⟨bi, oi + k, none⟩ = some (.int .i64 gi) ∧ w'.cell? ⟨bj, oj + k, none⟩ = some (.int .i64 gj) ∧ wr.grownBy w' (some xb))))
          have hgWH := Lib.hid (gby_trans hgH.out hgW)
          have hSXH := Lib.hid hSX
          have hfH := Lib.hid hf
          have htH := Lib.hid ht
          clear hgW hSX hf ht hgS hIP hIQ hbP hbQ hoP hoQ hk0 hcSH caPH caQH
          cases r with
          | false =>
            go_wp2_with fail
            go_ret
            exact ⟨false, B', rfl, gby_trans (gby_below hB5H.out) hgWH.out, hSXH.out, fun _ => hflH.out (hfH.out (by simp)), fun e => (by cases e)⟩
          | true =>
            go_wp2_with fail
            go_roundw
            case rel =>
              obtain ⟨θ2, ρ2, h2⟩ := htH.out (by simp)
              exact ⟨k + 1, B', θ2, ρ2, by go_num, by omega, hstepH.out _ _ _ h2, hSXH.out, hgWH.out⟩
            case measure => simp [intOf]; omega
        · have hkm' : k = m := by omega
          subst hkm'
          have hf2 := Lib.hid (hfinH.out k B1 θ1 ρ1 hyxH.out hK (by rw [hmH.out]; exact Nat.le_refl _) (by rw [halH.out hyxH.out, hmH.out]; exact Nat.le_refl _))
          have hgF := Lib.hid (gby_trans (gby_below hB5H.out) hg)
          have hSrH := Lib.hid hSr
          clear hK hg hSr
          go_wp2_with fail
          go_ret
          exact ⟨true, B1, rfl, hgF.out, hSrH.out, fun e => (by cases e), fun _ => ⟨_, _, hf2.out⟩⟩
    · have hne : (x != y) = true := by simpa using hxy
      have hcl := Lib.hid (hclashH.out hy0' hxy)
      clear hxy hclashH P3H Q3H halH hfinH hfailH hstH hrecH tp3H tq3H
      go_wp2_with fail
      go_quiet (fail)
      all_goals go_wp2_with fail
      all_goals go_ret
      exact ⟨false, B, rfl, gby_below (bcall hB3H.out ((Drew.mk _ _).below _)), hS3H.out.below ((Drew.mk _ _).below _), fun _ => hcl.out, fun e => (by cases e)⟩
theorem rank_hd (ρ : Int → Nat) (t : List Int) : ∀ n r, t = n :: r → n < 0 → ρ n < ρ (t.headD 0) + 1 := fun n r e _ => by rw [e]; simp
/-- Solve makes two terms one by a most general unifier -/
theorem rsolve_any {xb : Nat} {a1 : Option Addr} {c1 : Nat} {s : Sg} (hok : okSign s = true) : ∀ (N M : Nat) (B : Bd) (θ : Int → List Int) (ρ : Int → Nat) (a b : List Int), Slv s B θ ρ → RgB B → W1 s a → W1 s b → Rg a → Rg b → a.length ≤ 60 → b.length ≤ 60 → (∀ n u, B n = some u → u.length ≤ 60) → free B ≤ N → (ap θ a).length ≤ M →
    SolveAt xb a1 c1 s B θ ρ a b := by
  intro N
  induction N using Nat.strongRecOn with
  | ind N ihN =>
  intro M
  induction M using Nat.strongRecOn with
  | ind M ihM =>
  intro B θ ρ a b h hr ha hb ra rb la lb hlB hN hM
  obtain ⟨p, hp⟩ := Lkd.ex h _ a (rank_hd ρ a)
  obtain ⟨q, hq⟩ := Lkd.ex h _ b (rank_hd ρ b)
  by_cases h0 : p.headD 0 < 0
  · intro w a2 a3 c2 c3 hS ta tb
    exact solve_var h hr hS ta tb ha hb ra rb lb hp hq h0
  · have p1 := (hp.spec h ha).1
    have q1 := (hq.spec h hb).1
    have rp := hp.rg hr ra
    have rq := hq.rg hr rb
    have lp : p.length ≤ 60 := hp.len la hlB
    have lq : q.length ≤ 60 := hq.len lb hlB
    refine solve_step hok h hr ha hb ra rb la lb hlB hp hq (by omega) (fun k B1 θ1 ρ1 hx hy e hK => ?_)
    intro w a2 a3 c2 c3 hS ta tb
    obtain ⟨x1, x2⟩ := args_sub p1 rp _ (List.getElem_mem hx)
    obtain ⟨y1, y2⟩ := args_sub q1 rq _ (List.getElem_mem hy)
    have x3 := args_len p1 (List.getElem_mem hx)
    have y3 := args_len q1 (List.getElem_mem hy)
    rcases hK.down h ha hp (by omega) hx with hd | ⟨hd1, hd2⟩
    · exact ihN (free B1) (by omega) _ B1 θ1 ρ1 _ _ hK.slv hK.rg x1 y1 x2 y2 (by omega) (by omega) hS.len (Nat.le_refl _) (Nat.le_refl _) w a2 a3 c2 c3 hS ta tb
    · exact ihM _ (Nat.lt_of_lt_of_le hd2 hM) B1 θ1 ρ1 _ _ hK.slv hK.rg x1 y1 x2 y2 (by omega) (by omega) hS.len (by rw [hd1]; exact hN) (Nat.le_refl _) w a2 a3 c2 c3 hS ta tb
end Go.Proofs.YthkamffmpejckaaGreatDoor

/- Walks of the reference's solver: Apart. -/
namespace Go.Proofs.YthkamffmpejckaaGreatDoor
open Go Go.RowKit Go.Maps

set_option maxHeartbeats 1000000 in
theorem rApart_any {S : Nat → Prop} (a : Option Addr) (c : Nat) (t : List Int) (w : World) (h : Ints S w a c t) (hl : t.length ≤ lim) (hne : t ≠ []) (hr : ∀ x ∈ t, x < 0 → -12 ≤ x) :
    Calls Tryz.prog 75 #[.slice a t.length c] w (retOwn w (apartT t)) := by
  have m := h.le
  have hl6 : t.length ≤ 1000000 := hl
  obtain ⟨v', w', hrun, ho, hg, -, -⟩ := (OwnL.made intE (fun _ => False) w w.heap.size 3 (Nat.le_refl _)).append_run (P := Tryz.prog) (t := 34) (ty := 34) Tryz.underlying34 infoInt rfl (h.below (below1 w (.cells #[] 3))) (fun _ _ _ h => h) (by simp; omega) (by unfold big; simp; omega) (by simp)
  have hB : Below w.heap.size w w' := (below1 w (.cells #[] 3)).grown hg (by simp) (fun k e => by simp [Value.ownBlock] at e; omega)
  rw [List.nil_append] at ho
  obtain ⟨g, cap, rfl, hg1, hg2⟩ := OwnL.form ho hne
  have hrunH := Lib.hid hrun
  have hoH := Lib.hid ho
  have hBH := Lib.hid hB
  have hrH := Lib.hid hr
  clear hr hrun ho hB hg
  go_enter Tryz.func75, Tryz.ntmps75
  go_wp2_with (at_builtin; refine wpList_append_run rfl _ _ _ rfl rfl rfl hrunH.out ?_)
  go_loopw [4] (fun i wr => apRel t w w.heap.size g cap i wr) (fun i _ => t.length - (intOf i).toNat)
  case atStart => exact ⟨0, rfl, Nat.zero_le _, by rw [doneTo_zero]; exact hoH.out, hBH.out⟩
  case round =>
    obtain ⟨k, rfl, hk, ho, hB⟩ := hrel
    by_cases hlt : k < t.length
    · obtain ⟨b, o, rfl, -, q, hrg⟩ := (h.below hB).int k hlt
      have hxr := hrH.out t[k] (List.getElem_mem hlt)
      have hset := doneTo_set hlt (f := apN)
      have hsame := doneTo_same hlt (f := apN)
      have hget := doneTo_get hlt (f := apN)
      obtain ⟨hc1, hf1⟩ := ho.cellInt (by rw [doneTo_length]) k (by rw [doneTo_length]; exact hlt)
      rw [hget] at hc1
      obtain ⟨x, hx⟩ : ∃ x, t[k] = x := ⟨_, rfl⟩
      rw [hx] at q hrg hset hsame hc1 hxr
      clear hget hx
      by_cases h0 : x < 0
      · have hx12 := hxr h0
        have hap : apN x = x - 12 := by unfold apN; exact if_pos h0
        rw [hap] at hset
        have hsub : IntKind.i64.wrap (x - 12) = x - 12 := IntWalk.i64_in _ (by omega)
        obtain ⟨ho2, hg3⟩ := ho.setInt (by rw [doneTo_length]) k (x - 12) (by unfold inRange; omega)
        rw [hset] at ho2
        have hoH := Lib.hid ho2
        have hBH := Lib.hid (hB.grown hg3 hB.size (fun j e => by cases e; omega))
        clear ho ho2 hset hsame hg3 hap hxr
        go_wp2_with fail
        go_roundw
        case rel => exact ⟨k + 1, by go_num, by omega, hoH.out, hBH.out⟩
        case measure => simp [intOf]; omega
      · have hs2 := hsame (by unfold apN; exact if_neg h0)
        have hoH := Lib.hid ho
        have hsH := Lib.hid hs2
        clear ho hset hsame hs2 hxr
        go_wp2_with fail
        go_roundw
        case rel => exact ⟨k + 1, by go_num, by omega, by rw [← hsH.out]; exact hoH.out, hB⟩
        case measure => simp [intOf]; omega
    · rw [doneTo_all _ _ _ (by omega)] at ho
      have hoH := Lib.hid ho
      clear ho
      go_wp2_with fail
      go_ret
      exact ⟨_, rfl, hoH.out, hB⟩
end Go.Proofs.YthkamffmpejckaaGreatDoor

/- Walks of the reference's solver: size, whole. -/
namespace Go.Proofs.YthkamffmpejckaaGreatDoor
open Go Go.RowKit Go.Maps

def capL (n : Nat) : Nat := if n ≤ 60 then n else 61
theorem capL_le (n : Nat) : capL n ≤ 61 := by unfold capL; split <;> omega
/-- what is known of sizes is right -/
def KnOk (θ : Int → List Int) (f : Nat → Nat) : Prop := ∀ i, i < 24 → f i ≠ 0 → f i = capL (θ (-(i : Int) - 1)).length
def sizRel (w : World) (kb : Nat) (θ : Int → List Int) (t : List Int) (n i : Value) (wr : World) : Prop :=
  ∃ (k m : Nat) (f : Nat → Nat), i = .int .i64 k ∧ k ≤ t.length ∧ n = .int .i64 m ∧ m ≤ 200 ∧ w.grownBy wr (some kb) ∧ MarkW wr kb 158 (fun j => .int .i64 (f j)) ∧ KnOk θ f ∧ capL m = capL (ap θ (t.take k)).length
def sizRet (w : World) (kb : Nat) (θ : Int → List Int) (t : List Int) (e : Ending) (w' : World) : Prop :=
  ∃ f : Nat → Nat, e = .returned (.int .i64 (capL (ap θ t).length : Nat)) ∧ w.grownBy w' (some kb) ∧ MarkW w' kb 158 (fun j => .int .i64 (f j)) ∧ KnOk θ f
theorem capL_add {a b c : Nat} (h : capL a = capL b) : capL (a + c) = capL (b + c) := by unfold capL at *; split at h <;> split at h <;> (split <;> split <;> omega)
theorem capL_add' {a c d : Nat} (h : c = capL d) : capL (a + c) = capL (a + d) := by unfold capL at *; split at h <;> (split <;> split <;> omega)
theorem capL_more {θ : Int → List Int} {t : List Int} {k m : Nat} (h : capL m = capL (ap θ (t.take k)).length) (hm : 60 < m) : capL (ap θ t).length = 61 := by
  have h2 : (ap θ (t.take k)).length ≤ (ap θ t).length := by
    conv => rhs; rw [← List.take_append_drop k t, ap_append, List.length_append]
    omega
  unfold capL at *
  rw [if_neg (by omega)] at h
  split at h
  · omega
  · rw [if_neg (by omega)]
set_option maxRecDepth 20000 in
set_option maxHeartbeats 4000000 in
theorem rsize_any {S : Nat → Prop} {xb kb : Nat} {a1 : Option Addr} {c1 : Nat} {s : Sg} {B : Bd} {θ : Int → List Int} {ρ : Int → Nat} (h : Slv s B θ ρ) (hr : RgB B) (hSd : ¬ S kb) (hxd : xb ≠ kb) :
    ∀ (K : Nat) (t : List Int) (a : Option Addr) (c : Nat) (f : Nat → Nat) (w : World), SolX S w xb a1 c1 s B → MarkW w kb 158 (fun j => .int .i64 (f j)) → Ints S w a c t → Rg t → (∀ n ∈ t, n < 0 → ρ n < K) → KnOk θ f → t.length ≤ 60 →
      Calls Tryz.prog 126 #[.pointer (some ⟨xb, 0, none⟩), .slice a t.length c, .pointer (some ⟨kb, 0, none⟩)] w (sizRet w kb θ t) := by
  intro K
  induction K using Nat.strongRecOn with
  | ind K ih =>
  intro t a c f w hS hM ht rt hK hf hl
  have m2 := ht.le
  have hH := Lib.hid h
  have hrH := Lib.hid hr
  have hSH := Lib.hid hS
  have hMH := Lib.hid hM
  have htH := Lib.hid ht
  have rtH := Lib.hid rt
  have hKH := Lib.hid hK
  have hfH := Lib.hid hf
  have ihH := Lib.hid ih
  clear h hr hS hM ht rt hK hf ih
  go_enter Tryz.func126, Tryz.ntmps126
  go_wp2_with fail
  go_loopw [7, 8] (fun n i wr => sizRel w kb θ t n i wr) (fun _ i _ => t.length - (intOf i).toNat)
  case atStart => exact ⟨0, 0, f, rfl, Nat.zero_le _, rfl, by omega, gby_refl _ _, hMH.out, hfH.out, by simp [ap_nil]⟩
  case round =>
    obtain ⟨k, m, f1, rfl, hk, rfl, hm, hg, hM, hf, hc⟩ := hrel
    have hgH := Lib.hid hg
    have hMH' := Lib.hid hM
    have hfH' := Lib.hid hf
    have hcH := Lib.hid hc
    by_cases hlt : k < t.length
    · by_cases hm60 : m ≤ 60
      · have ht' := htH.out.same (.of_grown hg (fun b hb e => hSd (by cases e; exact hb)))
        obtain ⟨b, o, rfl, hbS, q, hrg⟩ := ht'.int k hlt
        have hS' := hSH.out.grown hg hSd hxd
        have hmem := List.getElem_mem hlt
        have hts := ap_take_succ (θ := θ) hlt
        obtain ⟨x, hx⟩ : ∃ x, t[k] = x := ⟨_, rfl⟩
        rw [hx] at q hrg hmem hts
        have hone : ∀ c, (ap θ [x]).length = c → capL (m + c) = capL (ap θ (t.take (k + 1))).length := fun c e => by
          rw [hts, List.length_append, e]; exact capL_add hc
        have honeH := Lib.hid hone
        have hd1 : decide ((k : Int) < t.length) = true := by simp; omega
        have hd2 : ((m : Int) ≤ 60) := by omega
        by_cases h0 : 0 ≤ x
        · have hstep := Lib.hid (hone 1 (by rw [ap_pos (by omega), ap_nil]; rfl))
          have hdv : decide (0 ≤ x) = true := by simpa using h0
          clear hg hM hf hc hts ht' hS' hmem hx hone
          go_wp2_with fail
          go_quiet (fail)
          all_goals go_wp2_with fail
          go_roundw
          case rel => exact ⟨k + 1, m + 1, f1, by go_num, by omega, by go_num, by omega, gby_trans hgH.out (gby_below ((Drew.mk _ _).below _)), hMH'.out.below ((Drew.mk _ _).below _), hfH'.out, hstep.out⟩
          case measure => simp [intOf]; omega
        · have hx0 : x < 0 := by omega
          have hx24 := rtH.out x hmem hx0
          have hxK := hKH.out x hmem hx0
          obtain ⟨n, hn⟩ : ∃ n : Nat, x = -(n : Int) - 1 := ⟨(-x - 1).toNat, by omega⟩
          have hn24 : n < 24 := by omega
          obtain ⟨vl, qs, hsl⟩ := hS'.slot hx0 hx24
          have hnx : (-x - 1).toNat = n := by omega
          rw [hnx] at qs
          have qd := hM.cell hn24
          have fd := hM.frozen n
          have hxn : -x - 1 = (n : Int) := by omega
          have hw1 : IntKind.i64.wrap (-x) = -x := IntWalk.i64_in _ (by omega)
          have hw2 : IntKind.i64.wrap (n : Int) = (n : Int) := IntWalk.i64_in _ (by omega)
          have hdv : decide (0 ≤ x) = false := by simpa using h0
          have hap1 : ap θ [x] = θ x := ap_one hx0
          have hnH := Lib.hid hn
          clear hnx
          cases hBx : B x with
          | none =>
            rw [hBx] at hsl
            rw [show vl = .slice none 0 0 from hsl] at qs
            have hstep := Lib.hid (hone 1 (by rw [hap1, hH.out.free x hx0 hBx]; rfl))
            have hnl := fun W => Lib.run_eql_slice_nil (P := Tryz.prog) W 34 3 none 0 0 0 0 Tryz.underlying34
            clear hg hM hf hc hts ht' hS' hmem hx hone hsl hBx hap1 hn
            go_wp2_with fail
            go_quiet (fail)
            all_goals go_wp2_with fail
            go_roundw
            case rel => exact ⟨k + 1, m + 1, f1, by go_num, by omega, by go_num, by omega, gby_trans hgH.out (gby_below ((Drew.mk _ _).below _)), hMH'.out.below ((Drew.mk _ _).below _), hfH'.out, hstep.out⟩
            case measure => simp [intOf]; omega
          | some u =>
            rw [hBx] at hsl
            obtain ⟨a3, c3, rfl, hu⟩ := hsl
            have hbnd := hH.out.bnd x u hBx
            have hwu := (hH.out.wf x u hBx).1
            have hul := hwu.len
            obtain ⟨b3, o3, rfl, -, -, -⟩ := hu.int 0 (by omega)
            have hnl := fun W => Lib.run_eql_slice_nil (P := Tryz.prog) W 34 3 (some ⟨b3, o3, none⟩) u.length c3 0 0 Tryz.underlying34
            have hcap : capL (θ x).length ≤ 61 := capL_le _
            obtain ⟨z, hz⟩ : ∃ z, capL (θ x).length = z := ⟨_, rfl⟩
            rw [hz] at hcap
            have hz0 : z ≠ 0 := by
              have := (hH.out.th x hx0).len
              rw [← hz]; unfold capL; split <;> omega
            have hstep := Lib.hid (show capL (m + z) = capL (ap θ (t.take (k + 1))).length by rw [← hone _ (by rw [hap1])]; exact capL_add' hz.symm)
            have hzH := Lib.hid hz
            by_cases hf0 : f1 n = 0
            · rw [hf0] at qd
              have hcall := fun W (hb : Below wr.heap.size wr W) => ihH.out (ρ x) hxK u _ c3 f1 W (hS'.below hb) (hM.below hb) (hu.below hb) (hrH.out x u hBx).1 (fun m hm hm0 => hH.out.rk x u hBx m hm hm0) hf (hS'.len x u hBx)
              have hcallH := Lib.hid hcall
              have hbndH := Lib.hid hbnd
              clear hcall hg hM hf hc hts ht' hS' hmem hx hone hBx hap1 hn hu hbnd hwu hul hz hf0
              go_wp2_with fail
              go_quiet (fail)
              all_goals go_wp2_with fail
              obtain ⟨W3, hW3⟩ : ∃ W3, wr.drewN nq = W3 := ⟨_, rfl⟩
              have hb3 : Below wr.heap.size wr W3 := by rw [← hW3]; exact (Drew.mk _ _).below _
              have hb3d : Below wr.heap.size wr W3.drew := Below.drew hb3
              rw [hW3]
              have qs3 := cell_later hb3 qs
              have cc := Lib.hid (hcallH.out W3.drew hb3d)
              have hb3H := Lib.hid hb3d
              clear hb3 hb3d hW3 hcallH qs qd fd
              go_region_with (go_at_call 126; (with_reducible refine cc.out.mono ?_); rintro e w2 ⟨f2, rfl, hg2, hM2, hf2⟩; have q2 := hM2.cell hn24; have fz2 := hM2.frozen n)
              have hzu : capL (ap θ u).length = z := by rw [← hbndH.out]; exact hzH.out
              rw [hzu]
              obtain ⟨W4, hW4⟩ : ∃ W4, w2.setCell ⟨kb, n, none⟩ (.int .i64 ((z : Nat) : Int)) = W4 := ⟨_, rfl⟩
              have hM4 : MarkW W4 kb 158 (fun j => .int .i64 ((if j = n then z else f2 j : Nat) : Int)) := by
                rw [← hW4]
                refine (hM2.set (i := n) (.int .i64 ((z : Nat) : Int))).congr (fun i _ => ?_)
                by_cases e : i = n
                · simp [e]
                · simp [e]
              have hK4 : KnOk θ (fun j => if j = n then z else f2 j) := fun i hi h1 => by
                by_cases e : i = n
                · subst e; simp only [if_pos]; rw [← hzH.out, hnH.out]
                · simp only [if_neg e] at h1 ⊢; exact hf2 i hi h1
              have hg4 := gby_trans hgH.out (gby_trans (gby_below hb3H.out) (gby_trans hg2 (gby_set w2 kb n (.int .i64 ((z : Nat) : Int)))))
              rw [hW4] at hg4 ⊢
              have qd4 := hM4.cell hn24
              simp only [if_pos] at qd4
              have hM4H := Lib.hid hM4
              have hK4H := Lib.hid hK4
              have hg4H := Lib.hid hg4
              clear hM4 hK4 hg4 hW4 hzu hg2 hM2 hf2 q2 fz2 qs3 cc hb3H
              go_wp2_with fail
              go_roundw
              case rel => exact ⟨k + 1, m + z, _, by go_num, by omega, by go_num, by omega, hg4H.out, hM4H.out, hK4H.out, hstep.out⟩
              case measure => simp [intOf]; omega
            · have hfn : f1 n = z := by rw [hf n hn24 hf0, ← hn]; exact hz
              rw [hfn] at qd
              have hzn : ((z : Nat) : Int) ≠ 0 := by omega
              have hze : ((z : Int) == 0) = false := by simpa using hz0
              clear hg hM hf hc hts ht' hS' hmem hx hone hBx hap1 hn hu hbnd hwu hul hz hf0 hfn
              go_wp2_with fail
              go_quiet (fail)
              all_goals go_wp2_with fail
              go_roundw
              case rel => exact ⟨k + 1, m + z, f1, by go_num, by omega, by go_num, by omega, gby_trans hgH.out (gby_below ((Drew.mk _ _).below _)), hMH'.out.below ((Drew.mk _ _).below _), hfH'.out, hstep.out⟩
              case measure => simp [intOf]; omega
      · have hfin := Lib.hid (capL_more hc (by omega))
        have hm61 : (60 : Int) < m := by omega
        clear hg hM hf hc
        go_wp2_with fail
        go_ret
        exact ⟨f1, by rw [hfin.out]; rfl, hgH.out, hMH'.out, hfH'.out⟩
    · rw [List.take_of_length_le (by omega)] at hc
      by_cases hm60 : m ≤ 60
      · have hfin : capL (ap θ t).length = m := by rw [← hc]; unfold capL; rw [if_pos hm60]
        have hfinH := Lib.hid hfin
        clear hg hM hf hc hfin
        go_wp2_with fail
        go_ret
        exact ⟨f1, by rw [hfinH.out]; rfl, hgH.out, hMH'.out, hfH'.out⟩
      · have hfin : capL (ap θ t).length = 61 := by rw [← hc]; unfold capL; rw [if_neg hm60]
        have hfinH := Lib.hid hfin
        have hm61 : (60 : Int) < m := by omega
        clear hg hM hf hc hfin
        go_wp2_with fail
        go_ret
        exact ⟨f1, by rw [hfinH.out]; rfl, hgH.out, hMH'.out, hfH'.out⟩
end Go.Proofs.YthkamffmpejckaaGreatDoor

/- Walks: lemmaryref02.matched. -/
namespace Go.Proofs.YthkamffmpejckaaGreatDoor
open Go Go.RowKit Go.Maps

def matchRet (w : World) (xb : Nat) (s : Sg) (a b ra rb : List Int) (e : Ending) (w' : World) : Prop :=
  ∃ (r : Bool) (B' : Bd), e = .returned (.bool r) ∧ w.grownBy w' (some xb) ∧ BoxM w' xb B' ∧ (r = false → instB s a b = false) ∧ (r = true → MRel s a b (a.length - ra.length) (b.length - rb.length) B')
def MatchAt (xb : Nat) (a1 : Option Addr) (c1 : Nat) (s : Sg) (a b : List Int) (i j : Nat) (B : Bd) (ra rb : List Int) : Prop :=
  ∀ (w : World) (a2 a3 : Option Addr) (c2 c3 : Nat), BoxM w xb B → Sign (Nx xb) w a1 c1 s → Ints (Nx xb) w a2 c2 a → Ints (Nx xb) w a3 c3 b →
    Calls Tryz.prog 107 #[.slice a1 s.length c1, .slice a2 a.length c2, .slice a3 b.length c3, .int .i64 i, .int .i64 j, .pointer (some ⟨xb, 0, none⟩)] w (matchRet w xb s a b ra rb)
theorem eql_nil (W : World) : Sem.run Tryz.prog (binOp BinOp.eql 34 (Value.slice none 0 0) (Value.slice none 0 0)) W = .ok (.bool true) W := by kernel_rfl
theorem eql_some (b o n c : Nat) (W : World) : Sem.run Tryz.prog (binOp BinOp.eql 34 (Value.slice (some ⟨b, o, none⟩) n c) (Value.slice none 0 0)) W = .ok (.bool false) W := by kernel_rfl
theorem keep1 {W4 w1 w2 : World} {p : Addr} {v : Value} (h : Below W4.heap.size W4 w1 ∧ w1.cell? p = some v) (hb : Below w1.heap.size w1 w2) : Below W4.heap.size W4 w2 ∧ w2.cell? p = some v := ⟨bcall h.1 hb, cell_later hb h.2⟩
set_option maxRecDepth 20000 in
set_option maxHeartbeats 4000000 in
/-- the part is a variable -/
theorem match_var {xb : Nat} {a1 : Option Addr} {c1 : Nat} {s : Sg} {a b : List Int} {i j : Nat} {B : Bd} {ra rb : List Int} (hok : okSign s = true) (la : a.length ≤ 60) (lb : b.length ≤ 60)
    (hra : skip s 1 (a.drop i) = some ra) (hrb : skip s 1 (b.drop j) = some rb) (hM : MRel s a b i j B) (hi : i < a.length) (hn : a[i] < 0) : MatchAt xb a1 c1 s a b i j B ra rb := by
  intro w a2 a3 c2 c3 hB h1 ta tb
  obtain ⟨hi', hca, hsa⟩ := skip_drop (k := 0) hra
  have h12 : -12 ≤ a[i] := by
    simp only [codeOk, Bool.or_eq_true, decide_eq_true_eq] at hca
    omega
  obtain ⟨hj, -, -⟩ := skip_drop (k := 0) hrb
  have hrw : ra = a.drop (i + 1) := by
    have : ar s a[i] = 0 := by unfold ar arC; rw [if_pos ⟨h12, by omega⟩]; rfl
    rw [this] at hsa
    rw [Nat.add_zero, skip_zero] at hsa
    exact (Option.some.inj hsa).symm
  have hal : a.length - ra.length = i + 1 := by rw [hrw, List.length_drop]; omega
  obtain ⟨n, hx⟩ : ∃ n : Nat, a[i] = -(n : Int) - 1 := ⟨(-a[i] - 1).toNat, by omega⟩
  have hn12 : n < 12 := by omega
  obtain ⟨u, hu⟩ : ∃ u, partAt s (b.drop j) = u := ⟨_, rfl⟩
  have huw : partW s (b.drop j) = u := by rw [← part_same hrb]; exact hu
  have hrbw := skw_of_skip hrb
  have hu1 : 1 ≤ u.length := by rw [← hu]; exact (partAt_eq hrb).2.2
  have hvar := fun h => hM.var hi hn hrbw h
  have hwf : ∀ q, B (-(n : Int) - 1) = some q → 1 ≤ q.length := fun q h => (hM.wf _ _ h).len
  have hvno := fun v h1 h2 => hM.var_no (u := v) hi hn hrbw h1 h2
  rw [huw] at hvar
  rw [hx] at hvar
  simp only [hx, huw] at hvno
  rw [← hal] at hvar
  obtain ⟨ba, oa, rfl, hba, qa, -⟩ := ta.int i hi
  rw [hx] at qa
  have cp := fun W (hb : Below w.heap.size w W) => rPart_any a1 a3 c1 c3 s b j rb W (h1.below hb) (tb.below hb) hok hrb lb
  rw [hu] at cp
  have hBb := fun W (hb : Below w.heap.size w W) => hB.below hb
  have hxlt := hB.lt
  have m1 := h1.le
  have m2 := ta.le
  have m3 := tb.le
  have hw1 : IntKind.i64.wrap (-(-(n : Int) - 1)) = (n : Int) + 1 := by rw [IntWalk.i64_in _ (by omega)]; omega
  have hw2 : IntKind.i64.wrap ((n : Int) + 1 - 1) = (n : Int) := by rw [IntWalk.i64_in _ (by omega)]; omega
  have hdv : decide (-(n : Int) - 1 < 0) = true := by simp; omega
  have cpH := Lib.hid cp
  have hBbH := Lib.hid hBb
  have hvarH := Lib.hid hvar
  have hwfH := Lib.hid hwf
  have hn12' : (n : Int) < 12 := by omega
  have hxltH := Lib.hid hxlt
  have hvnoH := Lib.hid hvno
  have hba' : ba ≠ xb := hba
  clear hM hB h1 ta tb h12 hi' hca hsa hrw hal hx hu huw hrbw hra hrb cp hBb hvar hvno hn hba hwf hxlt
  have qad := cell_later (Below.drew (.refl w.heap.size _)) qa
  have hk0 : Below w.heap.size w w.drew ∧ w.drew.cell? ⟨ba, oa + i, none⟩ = some (.int .i64 (-(n : Int) - 1)) := ⟨Below.drew (.refl w.heap.size _), qad⟩
  go_enter Tryz.func107, Tryz.ntmps107
  go_wp2_with fail
  clear qad
  go_region_held3 (fun w' => Below w.heap.size w w' ∧ w'.cell? ⟨ba, oa + i, none⟩ = some (.int .i64 (-(n : Int) - 1)))
    ((first | exact hk0 | exact keep1 ‹_› hbP))
    ((go_at_call 74; (with_reducible refine (cpH.out _ ?_).mono ?_); exact (And.left ‹_›); rintro e w2 ⟨vP, rfl, hoP, hbP⟩; obtain ⟨aP, cP, rfl, hIP⟩ := OwnI.ints hoP))
  have hB2 := And.left (‹Below w.heap.size w w2 ∧ _›)
  have hM2 := hBbH.out w2 hB2
  obtain ⟨v, qv, hv⟩ := hM2.slot hn12
  have hfz := hM2.frozen n
  have IP : Ints (Nx xb) w2 aP cP u := hIP.weak (fun b hb e => by
    have hb' : w.heap.size ≤ b := hb
    have := hxltH.out
    omega)
  obtain ⟨bP, oP, rfl, -, -, -⟩ := IP.int 0 (by omega)
  have hB2H := Lib.hid hB2
  have hM2H := Lib.hid hM2
  have IPH := Lib.hid IP
  clear hIP hoP hbP hk0 hB2 hM2 IP hBbH cpH
  cases hBn : B (-(n : Int) - 1) with
  | none =>
    rw [hBn] at hv
    change v = .slice none 0 0 at hv
    subst hv
    have heq := eql_nil
    go_upto_region 5 with fail
    obtain ⟨w3, hw3⟩ : ∃ w3, w2.setCell ⟨xb, n, none⟩ (.slice (some ⟨bP, oP, none⟩) u.length cP) = w3 := ⟨_, rfl⟩
    have hM3 : BoxM w3 xb (upB B (-(n : Int) - 1) u) := by rw [← hw3]; exact hM2H.out.set IPH.out
    have hg3 : w2.grownBy w3 (some xb) := by rw [← hw3]; exact gby_set _ _ _ _
    have IP3 : Ints (Nx xb) w3 (some ⟨bP, oP, none⟩) cP u := IPH.out.same (.of_grown hg3 (fun b hb e => hb (by cases e; rfl)))
    have cs := Lib.hid (Same_any _ _ cP cP u u w3 IP3 IP3)
    have q3 : w3.cell? ⟨xb, n, none⟩ = some (.slice (some ⟨bP, oP, none⟩) u.length cP) := by rw [← hw3]; clear hM3 hg3 IP3 cs hw3; go_simp
    have hvr := hvarH.out (.inl hBn)
    have hM3H := Lib.hid hM3
    have hg3H := Lib.hid (gby_trans (gby_below hB2H.out) hg3)
    have hvrH := Lib.hid hvr
    rw [hw3]
    clear hw3 hM3 hg3 IP3 hvr hvarH hvnoH hwfH qv hfz hM2H IPH hB2H
    go_wp2_with fail
    refine cs.out.mono ?_
    rintro e w4 ⟨rfl, hd4⟩
    go_wp2_with fail
    go_ret
    exact ⟨true, _, by simp, gby_trans hg3H.out (gby_below (hd4.below _)), hM3H.out.below (hd4.below _), fun e => (by cases e), fun _ => hvrH.out⟩
  | some q =>
    rw [hBn] at hv
    obtain ⟨aQ, cQ, rfl, IQ⟩ := hv
    have hq1 := hwfH.out q hBn
    obtain ⟨bQ, oQ, rfl, -, -, -⟩ := IQ.int 0 (by omega)
    have cs := Lib.hid (Same_any _ _ cQ cP q u w2 IQ IPH.out)
    have hBnH := Lib.hid hBn
    have mq := IQ.le
    have heq := eql_some bQ oQ q.length cQ
    clear IQ IPH hBn hwfH
    go_wp2_with fail
    refine cs.out.mono ?_
    rintro e w4 ⟨rfl, hd4⟩
    have hM4H := Lib.hid (hM2H.out.below (hd4.below _))
    have hg4 : w.grownBy w4 (some xb) := gby_trans (gby_below hB2H.out) (gby_below (hd4.below _))
    have hg4H := Lib.hid hg4
    clear cs hd4 hB2H hM2H qv hfz hg4
    by_cases hqu : q = u
    · have hd : decide (q = u) = true := decide_eq_true hqu
      have hvr := hvarH.out (.inr (by rw [hBnH.out, hqu]))
      have hvrH := Lib.hid hvr
      have huB : upB B (-(n : Int) - 1) u = B := by
        funext m; unfold upB; split
        · rename_i e; rw [e, hBnH.out, hqu]
        · rfl
      rw [huB] at hvrH
      clear hvr hvarH hvnoH huB hqu
      go_wp2_with fail
      go_ret
      exact ⟨true, B, rfl, hg4H.out, hM4H.out, fun e => (by cases e), fun _ => hvrH.out⟩
    · have hd : decide (q = u) = false := decide_eq_false hqu
      have hvn := Lib.hid (hvnoH.out q hBnH.out hqu)
      clear hvarH hvnoH hqu
      go_wp2_with fail
      go_ret
      exact ⟨false, B, rfl, hg4H.out, hM4H.out, fun _ => hvn.out, fun e => (by cases e)⟩
def mloopRel (w : World) (xb : Nat) (s : Sg) (a b : List Int) (i j m : Nat) (x : Value) (wr : World) : Prop :=
  ∃ (k : Nat) (B : Bd) (la lb : List Int), x = .int .i64 k ∧ k ≤ m ∧ skip s k (a.drop (i + 1)) = some la ∧ skip s k (b.drop (j + 1)) = some lb ∧ MRel s a b (a.length - la.length) (b.length - lb.length) B ∧ BoxM wr xb B ∧ w.grownBy wr (some xb)
theorem posK_len {s : Sg} {n : Nat} : ∀ (m : Nat) (l : List Int), (posK s n m l).length = m
  | 0, _ => rfl
  | m + 1, l => by rw [posK, List.length_cons, posK_len m]
theorem posK_val {s : Sg} {n k m : Nat} {l l' : List Int} (h : skip s k l = some l') (hk : k < m) : (posK s n m l)[k]'(by rw [posK_len]; exact hk) = ((n - l'.length : Nat) : Int) := by
  have := posK_get (n := n) h hk
  rw [List.getElem?_eq_getElem (by rw [posK_len]; exact hk)] at this
  exact Option.some.inj this
def S3 (xb : Nat) (vi vj : Value) (ci cj : Addr) (wr w' : World) : Prop := wr.grownBy w' (some xb) ∧ w'.cell? ci = some vi ∧ w'.cell? cj = some vj
theorem keepM {xb : Nat} {vi vj : Value} {ci cj : Addr} {wr w1 w2 : World} (h : wr.grownBy w1 (some xb) ∧ w1.cell? ci = some vi ∧ w1.cell? cj = some vj) (hi : ci.block ≠ xb) (hj : cj.block ≠ xb) (hg : w1.grownBy w2 (some xb)) :
    wr.grownBy w2 (some xb) ∧ w2.cell? ci = some vi ∧ w2.cell? cj = some vj :=
  ⟨gby_trans h.1 hg, (World.cell?_of_block (hg.block _ (World.block_lt_of_cell? _ _ h.2.1) (fun e => hi (by cases e; rfl)))).trans h.2.1, (World.cell?_of_block (hg.block _ (World.block_lt_of_cell? _ _ h.2.2) (fun e => hj (by cases e; rfl)))).trans h.2.2⟩
set_option maxRecDepth 20000 in
set_option maxHeartbeats 4000000 in
/-- the part is a symbol with its arguments -/
theorem match_sym {xb : Nat} {a1 : Option Addr} {c1 : Nat} {s : Sg} {a b : List Int} {i j : Nat} {B : Bd} {ra rb : List Int} (hok : okSign s = true) (la : a.length ≤ 60) (lb : b.length ≤ 60)
    (hra : skip s 1 (a.drop i) = some ra) (hrb : skip s 1 (b.drop j) = some rb) (hM : MRel s a b i j B) (hi : i < a.length) (hn : ¬ a[i] < 0)
    (hrec : ∀ i' j' B' ra' rb', i < i' → skip s 1 (a.drop i') = some ra' → skip s 1 (b.drop j') = some rb' → MRel s a b i' j' B' → MatchAt xb a1 c1 s a b i' j' B' ra' rb') : MatchAt xb a1 c1 s a b i j B ra rb := by
  intro w a2 a3 c2 c3 hB h1 ta tb
  obtain ⟨hi', hca, hsa⟩ := skip_drop (k := 0) hra
  obtain ⟨hj, hcb, hsb⟩ := skip_drop (k := 0) hrb
  rw [Nat.zero_add] at hsa hsb
  have hno := hM.sym_no hi hj hn
  have hyes := hM.sym hi hj hn
  have hiN := hi
  have hjN := hj
  obtain ⟨ba, oa, rfl, hba, qa, raR⟩ := ta.int i hi
  obtain ⟨bb, ob, rfl, hbb, qb, rbR⟩ := tb.int j hj
  have cA := fun W (hb : Below w.heap.size w W) => rArguments_any a1 (some ⟨ba, oa, none⟩) c1 c2 s a i ra W (h1.below hb) (ta.below hb) hok hra la
  have cB := fun W (hb : Below w.heap.size w W) => rArguments_any a1 (some ⟨bb, ob, none⟩) c1 c3 s b j rb W (h1.below hb) (tb.below hb) hok hrb lb
  rw [List.getD_eq_getElem?_getD, List.getElem?_eq_getElem hi, Option.getD_some] at cA
  rw [List.getD_eq_getElem?_getD, List.getElem?_eq_getElem hj, Option.getD_some] at cB
  obtain ⟨x, hx⟩ : ∃ x, a[i] = x := ⟨_, rfl⟩
  obtain ⟨y, hy⟩ : ∃ x, b[j] = x := ⟨_, rfl⟩
  rw [hx] at qa hn hno hyes cA hsa raR
  rw [hy] at qb hno hyes cB hsb rbR
  have m1 := h1.le
  have m2 := ta.le
  have m3 := tb.le
  have hxlt := hB.lt
  have hdv : decide (x < 0) = false := by simpa using hn
  have cAH := Lib.hid cA
  have cBH := Lib.hid cB
  have hBH := Lib.hid hB
  have h1H := Lib.hid h1
  have taH := Lib.hid ta
  have tbH := Lib.hid tb
  have hsaH := Lib.hid hsa
  have hsbH := Lib.hid hsb
  have hyesH := Lib.hid hyes
  have hnoH := Lib.hid hno
  have hrecH := Lib.hid hrec
  have hMlH := Lib.hid (show a.length - (a.drop (i + 1)).length = i + 1 ∧ b.length - (b.drop (j + 1)).length = j + 1 by rw [List.length_drop, List.length_drop]; omega)
  have hxltH := Lib.hid hxlt
  have hba' : ba ≠ xb := hba
  have hbb' : bb ≠ xb := hbb
  clear hM hB h1 ta tb hca hsa hcb hsb hra hrb cA cB hno hyes hn hba hbb hx hy hrec hi' hxlt hok raR rbR
  go_enter Tryz.func107, Tryz.ntmps107
  go_wp2_with fail
  go_quiet (fail)
  by_cases hxy : x = y
  case neg =>
    have hne : (x != y) = true := by simpa using hxy
    have hnn := Lib.hid (hnoH.out (fun e => hxy e.symm))
    clear cAH cBH hsaH hsbH hyesH hnoH hrecH hMlH hxy h1H taH tbH
    all_goals go_wp2_with fail
    all_goals go_ret
    exact ⟨false, B, rfl, gby_below ((Drew.mk _ _).below _), hBH.out.below ((Drew.mk _ _).below _), fun _ => hnn.out, fun e => (by cases e)⟩
  have hne : (x != y) = false := by simpa using hxy
  have hyes := hyesH.out hxy.symm
  subst hxy
  go_upto_region 8 with fail
  obtain ⟨w2, hw2⟩ : ∃ w2, w.drewN nq = w2 := ⟨_, rfl⟩
  have hb2 : Below w.heap.size w w2 := by rw [← hw2]; exact (Drew.mk _ _).below _
  rw [hw2]
  have hb2H := Lib.hid hb2
  clear hw2 hb2 qa qb
  go_wp2_with fail
  (with_reducible refine (cAH.out w2 hb2H.out).mono ?_)
  rintro e w3 ⟨vP, rfl, hoP, hbP⟩
  obtain ⟨aP, cP, rfl, hIP⟩ := OwnI.ints hoP
  have hb3 := bcall hb2H.out hbP
  have hb3H := Lib.hid hb3
  have hIPH := Lib.hid (hIP.weak (S' := Nx xb) (fun b hb e => by
    have hb' : w2.heap.size ≤ b := hb
    have h2 : w.heap.size ≤ w2.heap.size := hb2H.out.size
    have := hxltH.out
    omega))
  clear hoP hIP hb3 hbP
  go_wp2_with fail
  (with_reducible refine (cBH.out w3 hb3H.out).mono ?_)
  rintro e w4 ⟨vQ, rfl, hoQ, hbQ⟩
  obtain ⟨aQ, cQ, rfl, hIQ⟩ := OwnI.ints hoQ
  have hb4 := bcall hb3H.out hbQ
  have hIP4H := Lib.hid (hIPH.out.below hbQ)
  have hIQ4H := Lib.hid (hIQ.weak (S' := Nx xb) (fun b hb e => by
    have hb' : w3.heap.size ≤ b := hb
    have h2 : w.heap.size ≤ w3.heap.size := hb3H.out.size
    have := hxltH.out
    omega))
  have hB4H := Lib.hid (hBH.out.below hb4)
  have h14H := Lib.hid (h1H.out.below hb4)
  have ta4H := Lib.hid (taH.out.below hb4)
  have tb4H := Lib.hid (tbH.out.below hb4)
  have hb4H := Lib.hid hb4
  obtain ⟨m, hm⟩ : ∃ m, ar s x = m := ⟨_, rfl⟩
  rw [hm] at hIP4H hIQ4H hsaH hsbH
  have hlP : (posK s a.length m (a.drop (i + 1))).length = m := posK_len _ _
  have hlQ : (posK s b.length m (b.drop (j + 1))).length = m := posK_len _ _
  have hm3 : m ≤ 1000 := by
    have := skip_len s m _ _ hsaH.out
    rw [List.length_drop] at this
    omega
  have hyes' : MRel s a b (a.length - (a.drop (i + 1)).length) (b.length - (b.drop (j + 1)).length) B := by rw [hMlH.out.1, hMlH.out.2]; exact hyes
  have hyH := Lib.hid hyes'
  rw [hm]
  have hm0 : m ≤ m := Nat.le_refl m
  clear hm hoQ hIQ hbQ hb4 hIPH hb3H hb2H hBH h1H taH tbH cAH cBH hyes hyes' hyesH hnoH hne
  go_wp2_with fail
  go_loopw [17] (fun z wr => mloopRel w4 xb s a b i j m z wr) (fun z _ => m - (intOf z).toNat)
  case atStart => exact ⟨0, B, _, _, rfl, Nat.zero_le _, skip_zero _ _, skip_zero _ _, hyH.out, hB4H.out, gby_refl _ _⟩
  case round =>
    obtain ⟨k, B1, pa, pb, rfl, hk, ka, kb, hM1, hB1, hg⟩ := hrel
    by_cases hkm : k < m
    · obtain ⟨pa2, n1, n2⟩ := skip_next ka hsaH.out hkm
      obtain ⟨pb2, o1, o2⟩ := skip_next kb hsbH.out hkm
      obtain ⟨e1, e2⟩ := skip_at ka (by omega)
      obtain ⟨f1, f2⟩ := skip_at kb (by omega)
      have n1' : skip s 1 (a.drop (a.length - pa.length)) = some pa2 := by rw [← e1]; exact n1
      have o1' : skip s 1 (b.drop (b.length - pb.length)) = some pb2 := by rw [← f1]; exact o1
      have hcall := hrecH.out _ _ B1 pa2 pb2 (by omega) n1' o1' hM1
      have hA : Agree (Nx xb) w4 wr := .of_grown hg (fun b hb e => hb (by cases e; rfl))
      obtain ⟨bi, oi, rfl, hbi, qi, -⟩ := (hIP4H.out.same hA).int k (by rw [hlP]; exact hkm)
      obtain ⟨bj, oj, rfl, hbj, qj, -⟩ := (hIQ4H.out.same hA).int k (by rw [hlQ]; exact hkm)
      rw [posK_val ka hkm] at qi
      rw [posK_val kb hkm] at qj
      obtain ⟨gi, hgi⟩ : ∃ g, a.length - pa.length = g := ⟨_, rfl⟩
      obtain ⟨gj, hgj⟩ : ∃ g, b.length - pb.length = g := ⟨_, rfl⟩
      rw [hgi] at qi hcall
      rw [hgj] at qj hcall
      have hbd : Below wr.heap.size wr wr.drew := Below.drew (.refl wr.heap.size _)
      have hc := hcall wr.drew _ _ c2 c3 (hB1.below hbd) ((h14H.out.same hA).below hbd) ((ta4H.out.same hA).below hbd) ((tb4H.out.same hA).below hbd)
      have hcH := Lib.hid hc
      have hk0 : wr.grownBy wr.drew (some xb) ∧ wr.drew.cell? ⟨bi, oi + k, none⟩ = some (.int .i64 (gi : Int)) ∧ wr.drew.cell? ⟨bj, oj + k, none⟩ = some (.int .i64 (gj : Int)) := ⟨gby_below hbd, cell_later hbd qi, cell_later hbd qj⟩
      have hgH := Lib.hid hg
      have n2H := Lib.hid n2
      have o2H := Lib.hid o2
      clear n1 o1 n1' o1' e1 e2 f1 f2 hcall hA hgi hgj hbd hc hg hM1 hB1 ka kb n2 o2
      go_wp2_with fail
      go_region_held3 (fun w' => wr.grownBy w' (some xb) ∧ w'.cell? ⟨bi, oi + k, none⟩ = some (.int .i64 (gi : Int)) ∧ w'.cell? ⟨bj, oj + k, none⟩ = some (.int .i64 (gj : Int)))
        ((first | exact hk0 | exact keepM ‹_› hbi hbj hgS))
        ((go_at_call 107; (with_reducible refine hcH.out.mono ?_); rintro e w' ⟨r, B', rfl, hgS, hBS, hf, ht⟩))
      have hgW := And.left (‹wr.grownBy w' (some xb) ∧ _›)
      have hgWH := Lib.hid (gby_trans (gby_below hb4H.out) (gby_trans hgH.out hgW))
      have hg4H := Lib.hid (gby_trans hgH.out hgW)
      have hBSH := Lib.hid hBS
      have hfH := Lib.hid hf
      have htH := Lib.hid ht
      clear hgW hBS hf ht hgS hk0 hcH hgH
      cases r with
      | false =>
        go_wp2_with fail
        go_ret
        exact ⟨false, B', rfl, hgWH.out, hBSH.out, fun _ => hfH.out (by simp), fun e => (by cases e)⟩
      | true =>
        go_wp2_with fail
        go_roundw
        case rel => exact ⟨k + 1, B', pa2, pb2, by go_num, by omega, n2H.out, o2H.out, htH.out (by simp), hBSH.out, hg4H.out⟩
        case measure => simp [intOf]; omega
    · have hkm' : k = m := by omega
      subst hkm'
      have ea : pa = ra := Option.some.inj (ka.symm.trans hsaH.out)
      have eb : pb = rb := Option.some.inj (kb.symm.trans hsbH.out)
      subst ea
      subst eb
      have hMH := Lib.hid hM1
      have hBH := Lib.hid hB1
      have hgF := Lib.hid (gby_trans (gby_below hb4H.out) hg)
      clear hM1 hB1 hg ka kb
      go_wp2_with fail
      go_ret
      exact ⟨true, B1, rfl, hgF.out, hBH.out, fun e => (by cases e), fun _ => hMH.out⟩
theorem rmatched_any {xb : Nat} {a1 : Option Addr} {c1 : Nat} {s : Sg} {a b : List Int} (hok : okSign s = true) (la : a.length ≤ 60) (lb : b.length ≤ 60) : ∀ (N i j : Nat) (B : Bd) (ra rb : List Int), a.length - i ≤ N →
    skip s 1 (a.drop i) = some ra → skip s 1 (b.drop j) = some rb → MRel s a b i j B → MatchAt xb a1 c1 s a b i j B ra rb := by
  intro N
  induction N with
  | zero =>
    intro i j B ra rb hN hra hrb hM
    obtain ⟨hi, -, -⟩ := skip_drop (k := 0) hra
    omega
  | succ N ih =>
    intro i j B ra rb hN hra hrb hM
    obtain ⟨hi, -, -⟩ := skip_drop (k := 0) hra
    by_cases hn : a[i] < 0
    · exact match_var hok la lb hra hrb hM hi hn
    · exact match_sym hok la lb hra hrb hM hi hn (fun i' j' B' ra' rb' h1 h2 h3 h4 => ih i' j' B' ra' rb' (by omega) h2 h3 h4)
end Go.Proofs.YthkamffmpejckaaGreatDoor

/- Walks of the reference's solver: whole. -/
namespace Go.Proofs.YthkamffmpejckaaGreatDoor
open Go Go.RowKit Go.Maps

def whoRel (w : World) (θ : Int → List Int) (t : List Int) (out i : Value) (wr : World) : Prop :=
  ∃ k : Nat, i = .int .i64 k ∧ k ≤ t.length ∧ OwnI wr w.heap.size out (ap θ (t.take k)) ∧ Below w.heap.size w wr
theorem keepW {w w' : World} {p1 p2 : Addr} {v1 v2 : Value} (h1 : w.cell? p1 = some v1) (h2 : w.cell? p2 = some v2) (hb : Below w.heap.size w w') : w'.cell? p1 = some v1 ∧ w'.cell? p2 = some v2 := ⟨cell_later hb h1, cell_later hb h2⟩
theorem ap_take_len {θ : Int → List Int} {t : List Int} (k : Nat) : (ap θ (t.take k)).length ≤ (ap θ t).length := by
  conv => rhs; rw [← List.take_append_drop k t, ap_append, List.length_append]
  omega
theorem OwnI.pushT {w wr W : World} {out : Value} {l l' : List Int} (ho : OwnI wr w.heap.size out l) (hB : Below w.heap.size w wr) (hb : Below wr.heap.size wr W) {x : Int} (hx : inRange x) (hl' : l' = l ++ [x]) (hl : l.length ≤ 1000) :
    ∃ v' w', RowKit.Hid ((Builtin.append_ #[34, 34] 34 #[out, .slice (some ⟨W.heap.size, 0, none⟩) 1 1]).run Tryz.prog (W.alloc (.cells #[.int .i64 x] 3)) = .ok v' w') ∧ RowKit.Hid (OwnI w' w.heap.size v' l') ∧ RowKit.Hid (Below w.heap.size w w') := by
  have hB2 := bcall hB hb
  have ho1 := OwnL.call ho hb
  obtain ⟨v', w', hrun, ho', hg, -⟩ := ho1.push (P := Tryz.prog) (t := 34) (ty := 34) Tryz.underlying34 infoInt rfl (vs := [.int .i64 x]) (x := x) ⟨rfl, hx⟩ (by omega) (by unfold big; omega) hB2.size
  exact ⟨v', w', Lib.hid hrun, Lib.hid (by rw [hl']; exact ho'), Lib.hid (hB2.grown hg hB2.size (fun k e => (ho1.lt k e).1))⟩
theorem OwnI.appT {T : Nat → Prop} {w wr W : World} {out : Value} {l l2 l' : List Int} (ho : OwnI wr w.heap.size out l) (hB : Below w.heap.size w wr) (hb : Below wr.heap.size wr W) {a : Option Addr} {c : Nat} (hx : Ints T W a c l2) (hl' : l' = l ++ l2) (hl : l.length ≤ 1000) (hl2 : l2.length ≤ 1000) :
    ∃ v' w', RowKit.Hid ((Builtin.append_ #[34, 34] 34 #[out, .slice a l2.length c]).run Tryz.prog W = .ok v' w') ∧ RowKit.Hid (OwnI w' w.heap.size v' l') ∧ RowKit.Hid (Below w.heap.size w w') := by
  have hB2 := bcall hB hb
  have ho1 := OwnL.call ho hb
  obtain ⟨v', w', hrun, ho', hg, -⟩ := ho1.append_run (P := Tryz.prog) (t := 34) (ty := 34) Tryz.underlying34 infoInt rfl hx (fun _ _ _ h => h) (by omega) (by unfold big; omega) hB2.size
  exact ⟨v', w', Lib.hid hrun, Lib.hid (by rw [hl']; exact ho'), Lib.hid (hB2.grown hg hB2.size (fun k e => (ho1.lt k e).1))⟩
set_option maxRecDepth 20000 in
set_option maxHeartbeats 4000000 in
theorem rwhole_any {S : Nat → Prop} {xb : Nat} {a1 : Option Addr} {c1 : Nat} {s : Sg} {B : Bd} {θ : Int → List Int} {ρ : Int → Nat} (h : Slv s B θ ρ) (hr : RgB B) :
    ∀ (K : Nat) (t : List Int) (a : Option Addr) (c : Nat) (w : World), SolX S w xb a1 c1 s B → Ints S w a c t → Rg t → (∀ n ∈ t, n < 0 → ρ n < K) → (ap θ t).length ≤ 60 → t.length ≤ 60 →
      Calls Tryz.prog 127 #[.pointer (some ⟨xb, 0, none⟩), .slice a t.length c] w (retOwn w (ap θ t)) := by
  intro K
  induction K using Nat.strongRecOn with
  | ind K ih =>
  intro t a c w hS ht rt hK h60 hl
  have m2 := ht.le
  have hH := Lib.hid h
  have hrH := Lib.hid hr
  have hSH := Lib.hid hS
  have htH := Lib.hid ht
  have rtH := Lib.hid rt
  have hKH := Lib.hid hK
  have h60H := Lib.hid h60
  have ihH := Lib.hid ih
  clear h hr hS ht rt hK h60 ih
  go_enter Tryz.func127, Tryz.ntmps127
  go_wp2_with fail
  go_loopw [5, 6] (fun out i wr => whoRel w θ t out i wr) (fun _ i _ => t.length - (intOf i).toNat)
  case atStart => exact ⟨0, rfl, Nat.zero_le _, .nil _ _ _ _ _, .refl _ _⟩
  case round =>
    obtain ⟨k, rfl, hk, ho, hB⟩ := hrel
    by_cases hlt : k < t.length
    · have ht' := htH.out.below hB
      obtain ⟨b, o, rfl, hbS, q0, hrg⟩ := htH.out.int k hlt
      have hS' := hSH.out.below hB
      have hmem := List.getElem_mem hlt
      have hts := ap_take_succ (θ := θ) hlt
      have hl1 := Nat.le_trans (ap_take_len (θ := θ) (t := t) k) h60H.out
      have hl2 := Nat.le_trans (ap_take_len (θ := θ) (t := t) (k + 1)) h60H.out
      obtain ⟨x, hx⟩ : ∃ x, t[k] = x := ⟨_, rfl⟩
      rw [hx] at q0 hrg hmem hts
      have q := cell_later hB q0
      by_cases h0 : 0 ≤ x
      · rw [ap_pos (by omega), ap_nil] at hts
        have hdv : decide (x < 0) = false := by simpa using h0
        have htsH := Lib.hid hts
        have hoH := Lib.hid ho
        clear hts ho hS' hmem ht' hx hl2
        go_wp2_with fail
        go_quiet (fail)
        go_upto_region 7 with fail
        obtain ⟨W3, hW3⟩ : ∃ W3, wr.drewN nq = W3 := ⟨_, rfl⟩
        have hb3 : Below wr.heap.size wr W3 := by rw [← hW3]; exact (Drew.mk _ _).below _
        rw [hW3]
        have q3 := cell_later hb3 q
        obtain ⟨v', w', hrun, ho', hB'⟩ := OwnI.pushT hoH.out hB hb3 hrg htsH.out (by omega)
        clear hW3 q
        go_wp2_with (at_builtin; refine wpList_append_run rfl _ _ _ rfl rfl rfl hrun.out ?_)
        go_roundw
        case rel => exact ⟨k + 1, by go_num, by omega, ho'.out, hB'.out⟩
        case measure => simp [intOf]; omega
      · have hx0 : x < 0 := by omega
        have hx24 := rtH.out x hmem hx0
        have hxK := hKH.out x hmem hx0
        obtain ⟨n, hn⟩ : ∃ n : Nat, x = -(n : Int) - 1 := ⟨(-x - 1).toNat, by omega⟩
        have hn24 : n < 24 := by omega
        obtain ⟨vl, qs0, hsl⟩ := hSH.out.slot hx0 hx24
        have hnx : (-x - 1).toNat = n := by omega
        rw [hnx] at qs0
        have hxn : -x - 1 = (n : Int) := by omega
        have hw1 : IntKind.i64.wrap (-x) = -x := IntWalk.i64_in _ (by omega)
        have hw2 : IntKind.i64.wrap (n : Int) = (n : Int) := IntWalk.i64_in _ (by omega)
        have hdv : decide (x < 0) = true := by simpa using hx0
        have hap1 : ap θ [x] = θ x := ap_one hx0
        rw [hap1] at hts
        clear hnx hn
        cases hBx : B x with
        | none =>
          rw [hBx] at hsl
          rw [show vl = .slice none 0 0 from hsl] at qs0
          have qs := cell_later hB qs0
          rw [hH.out.free x hx0 hBx] at hts
          have hnl := fun W => Lib.run_eql_slice_nil (P := Tryz.prog) W 34 3 none 0 0 0 0 Tryz.underlying34
          have htsH := Lib.hid hts
          have hoH := Lib.hid ho
          clear hts ho hS' hmem ht' hx hl2 hsl hBx hap1
          go_wp2_with fail
          go_quiet (fail)
          go_upto_region 7 with fail
          obtain ⟨W3, hW3⟩ : ∃ W3, wr.drewN nq = W3 := ⟨_, rfl⟩
          have hb3 : Below wr.heap.size wr W3 := by rw [← hW3]; exact (Drew.mk _ _).below _
          rw [hW3]
          have q3 := cell_later hb3 q
          obtain ⟨v', w', hrun, ho', hB'⟩ := OwnI.pushT hoH.out hB hb3 hrg htsH.out (by omega)
          clear hW3 q
          go_wp2_with (at_builtin; refine wpList_append_run rfl _ _ _ rfl rfl rfl hrun.out ?_)
          go_roundw
          case rel => exact ⟨k + 1, by go_num, by omega, ho'.out, hB'.out⟩
          case measure => simp [intOf]; omega
        | some u =>
          rw [hBx] at hsl
          obtain ⟨a3, c3, rfl, hu0⟩ := hsl
          have hu := hu0.below hB
          have qs := cell_later hB qs0
          have hbnd := hH.out.bnd x u hBx
          have hwu := (hH.out.wf x u hBx).1
          have hul := hwu.len
          have hu60 := hS'.len x u hBx
          obtain ⟨b3, o3, rfl, -, -, -⟩ := hu.int 0 (by omega)
          have hnl := fun W => Lib.run_eql_slice_nil (P := Tryz.prog) W 34 3 (some ⟨b3, o3, none⟩) u.length c3 0 0 Tryz.underlying34
          rw [hbnd] at hts
          have hl3 : (ap θ u).length ≤ 60 := by rw [hts, List.length_append] at hl2; omega
          have hcall := fun W (hb : Below wr.heap.size wr W) => ihH.out (ρ x) hxK u _ c3 W (hS'.below hb) (hu.below hb) (hrH.out x u hBx).1 (fun m hm hm0 => hH.out.rk x u hBx m hm hm0) hl3 hu60
          have happ := fun W (hb : Below wr.heap.size wr W) (T : Nat → Prop) a4 c4 (hi : Ints T W a4 c4 (ap θ u)) => OwnI.appT ho hB hb hi hts (by omega) (by omega)
          have hcallH := Lib.hid hcall
          have happH := Lib.hid happ
          clear hts ho hS' hmem ht' hx hl2 hBx hap1 hu0 hu hbnd hwu hul hcall happ hu60
          go_wp2_with fail
          go_quiet (fail)
          go_upto_region 6 with fail
          obtain ⟨W3, hW3⟩ : ∃ W3, wr.drewN nq = W3 := ⟨_, rfl⟩
          have hb3 : Below wr.heap.size wr W3 := by rw [← hW3]; exact (Drew.mk _ _).below _
          have hb3d : Below wr.heap.size wr W3.drew := Below.drew hb3
          rw [hW3]
          have q3 := cell_later hb3 q
          have qs3 := cell_later hb3 qs
          have hn24i : ((n : Nat) : Int) < 24 := by omega
          clear hW3 q qs
          have hbd : Below w.heap.size w W3.drew := bcall hB hb3d
          have hk0 := keepW q0 qs0 hbd
          go_region_held3 (fun w' => w'.cell? ⟨b, o + k, none⟩ = some (.int .i64 x) ∧ w'.cell? ⟨xb, 1 + n, none⟩ = some (.slice (some ⟨b3, o3, none⟩) u.length c3))
            ((first | exact hk0 | exact keepW q0 qs0 (bcall hbd hb2) | exact keepW q0 qs0 hB'.out))
            ((first
              | (go_at_call 127; (with_reducible refine (hcallH.out _ hb3d).mono ?_); rintro e w2 ⟨v2, rfl, ho2, hb2⟩; obtain ⟨a4, c4, rfl, hI2⟩ := OwnI.ints ho2; obtain ⟨v', w', hrun, ho', hB'⟩ := happH.out w2 (bcall hb3d hb2) _ a4 c4 hI2)
              | (refine oper_append_run (.tmp 32) (.tmp 45) _ rfl rfl rfl hrun.out ?_)))
          all_goals go_wp2_with fail
          all_goals go_roundw
          case rel => exact ⟨k + 1, by go_num, by omega, ho'.out, hB'.out⟩
          case measure => simp [intOf]; omega
    · rw [List.take_of_length_le (by omega)] at ho
      have hoH := Lib.hid ho
      clear ho
      go_wp2_with fail
      go_ret
      exact ⟨_, rfl, hoH.out, hB⟩
end Go.Proofs.YthkamffmpejckaaGreatDoor

/- Walks: lemmaryref02.Variable, Match, Instance. -/
namespace Go.Proofs.YthkamffmpejckaaGreatDoor
open Go Go.RowKit Go.Maps

/-- elements of two cells of which nothing is told -/
def twoE : Enc Unit where
  size := 2
  pos := by decide
  R := fun _ _ vs _ => vs.length = 2 ∧ ∀ u ∈ vs, u.oneCell' = true
  len := fun h => h.1
  one := fun h => h.2
  mono := fun h _ _ => h
theorem rVariable_any (v : Nat) (hv : v ≤ 1000) (w : World) :
    Calls Tryz.prog 108 #[.int .i64 v] w fun e w' => ∃ a c, e = .returned (.slice a 1 c) ∧ Ints (fun b => w.heap.size ≤ b) w' a c [-(v : Int) - 1] ∧ Below w.heap.size w w' := by
  have hw1 : IntKind.i64.wrap (-(v : Int)) = -(v : Int) := IntWalk.i64_in _ (by omega)
  have hw2 : IntKind.i64.wrap (-(v : Int) - 1) = -(v : Int) - 1 := IntWalk.i64_in _ (by omega)
  have hV := Lib.hid (fun W : World => Ints.new W [-(v : Int) - 1] 3 (by simp [big]) (by unfold inRange; simp; omega))
  go_enter Tryz.func108, Tryz.ntmps108
  go_wp2_with fail
  go_ret
  exact ⟨_, _, rfl, (hV.out w).weak (fun b hb => by have hb' : b = w.heap.size := hb; omega), below1 w _⟩
theorem infoBind : (Tryz.prog.info? 138).map (fun i => (i.zero, i.size, i.bytes)) = some (some (.agg #[.int .i64 0, .slice none 0 0]), 2, 32) := by kernel_rfl
set_option maxRecDepth 20000 in
theorem two_push {w wr w1 : World} {out : Value} {l : List Unit} (ho : OwnL twoE (fun _ => False) wr w.heap.size 138 out l) (hB : Below w.heap.size w wr) (hB1 : Below wr.heap.size wr w1) {v1 v2 : Value} (h1 : v1.oneCell' = true) (h2 : v2.oneCell' = true) (hl : l.length + 1 ≤ 1000) :
    ∃ v' w', RowKit.Hid ((Builtin.append_ #[105, 105] 105 #[out, .slice (some ⟨w1.heap.size, 0, none⟩) 1 1]).run Tryz.prog (w1.alloc (.cells #[v1, v2] 138)) = .ok v' w') ∧ RowKit.Hid (OwnL twoE (fun _ => False) w' w.heap.size 138 v' (l ++ [()])) ∧ RowKit.Hid (Below w.heap.size w w') := by
  have ho1 := ho.call hB1
  obtain ⟨v', w', g1, g2, g3, -⟩ := ho1.push (P := Tryz.prog) (t := 105) (ty := 105) rfl infoBind rfl (vs := [v1, v2]) (x := ()) ⟨rfl, fun u hu => by
    simp only [List.mem_cons, List.not_mem_nil, or_false] at hu
    rcases hu with rfl | rfl <;> assumption⟩ (by omega) (by unfold big; omega) (Nat.le_trans hB.size hB1.size)
  exact ⟨v', w', Lib.hid g1, Lib.hid g2, Lib.hid ((bcall hB hB1).grown g3 (Nat.le_trans hB.size hB1.size) (fun j e => (ho1.lt j e).1))⟩
def mtRel (w : World) (out i : Value) (wr : World) : Prop :=
  ∃ (k : Nat) (l : List Unit), i = .int .i64 k ∧ k ≤ 12 ∧ l.length ≤ k ∧ OwnL twoE (fun _ => False) wr w.heap.size 138 out l ∧ Below w.heap.size w wr
def mtRet (r : Bool) (w : World) (e : Ending) (w' : World) : Prop := ∃ v E, e = .returned (.tuple #[v, .int .i64 E]) ∧ (E == 0) = r ∧ Below w.heap.size w w'
set_option maxRecDepth 20000 in
set_option maxHeartbeats 4000000 in
theorem rMatch_any {S1 S2 S3 : Nat → Prop} (a1 a2 a3 : Option Addr) (c1 c2 c3 : Nat) (s : Sg) (a b : List Int) (w : World) (h1 : Sign S1 w a1 c1 s) (h2 : Ints S2 w a2 c2 a) (h3 : Ints S3 w a3 c3 b) :
    Calls Tryz.prog 79 #[.slice a1 s.length c1, .slice a2 a.length c2, .slice a3 b.length c3] w (mtRet (okT s a && okT s b && instB s a b) w) := by
  have m1 := h1.le
  have m2 := h2.le
  have m3 := h3.le
  have v1 := Lib.hid (rValid_any a1 a2 c1 c2 s a w h1 h2)
  have v2 := Lib.hid (fun W (hd : Drew w W) => rValid_any a1 a3 c1 c3 s b W (h1.drew hd) (h3.drew hd))
  cases ha : okT s a with
  | false =>
    rw [ha] at v1
    clear v2 h1 h2 h3
    go_enter Tryz.func79, Tryz.ntmps79
    go_wp2_with fail
    refine v1.out.mono ?_
    rintro e w1 ⟨rfl, hd1⟩
    go_wp2_with fail
    go_ret2
    exact ⟨_, _, rfl, by simp, hd1.below _⟩
  | true =>
  rw [ha] at v1
  cases hb : okT s b with
  | false =>
    rw [hb] at v2
    clear h1 h2 h3
    go_enter Tryz.func79, Tryz.ntmps79
    go_wp2_with fail
    refine v1.out.mono ?_
    rintro e w1 ⟨rfl, hd1⟩
    go_wp2_with fail
    refine (v2.out _ hd1).mono ?_
    rintro e w2 ⟨rfl, hd2⟩
    go_wp2_with fail
    go_ret2
    exact ⟨_, _, rfl, by simp, (drew_trans hd1 hd2).below _⟩
  | true =>
  rw [hb] at v2
  obtain ⟨hok, -, la, ka⟩ := okT_parts ha
  obtain ⟨-, -, lb, kb⟩ := okT_parts hb
  have hstart := MRel.start (okT_w1 ha) (okT_w1 hb)
  have cm : ∀ W, Drew w W → ∀ W3, Below W.heap.size W W3 → BoxM W3 W.heap.size (fun _ => none) → Calls Tryz.prog 107 #[.slice a1 s.length c1, .slice a2 a.length c2, .slice a3 b.length c3, .int .i64 0, .int .i64 0, .pointer (some ⟨W.heap.size, 0, none⟩)] W3 (matchRet W3 W.heap.size s a b [] []) := by
    rintro W ⟨n, rfl⟩ W3 hb3 hM
    exact rmatched_any hok la lb a.length 0 0 (fun _ => none) [] [] (Nat.sub_le _ _) ka kb hstart W3 a2 a3 c2 c3 hM (((h1.lt.drewN n).below hb3).weak (fun b hb e => by have := hb.2; rw [e] at this; exact Nat.lt_irrefl _ this)) (((h2.lt.drewN n).below hb3).weak (fun b hb e => by have := hb.2; rw [e] at this; exact Nat.lt_irrefl _ this)) (((h3.lt.drewN n).below hb3).weak (fun b hb e => by have := hb.2; rw [e] at this; exact Nat.lt_irrefl _ this))
  have cmH := Lib.hid cm
  clear h1 h2 h3 hok ka kb hstart cm
  go_enter Tryz.func79, Tryz.ntmps79
  go_wp2_with fail
  refine v1.out.mono ?_
  rintro e w1 ⟨rfl, hd1⟩
  go_wp2_with fail
  refine (v2.out _ hd1).mono ?_
  rintro e w2 ⟨rfl, hd2⟩
  have hd := drew_trans hd1 hd2
  obtain ⟨W3, hW3⟩ : ∃ W3, w2.alloc (.cells #[.slice none 0 0, .slice none 0 0, .slice none 0 0, .slice none 0 0, .slice none 0 0, .slice none 0 0, .slice none 0 0, .slice none 0 0, .slice none 0 0, .slice none 0 0, .slice none 0 0, .slice none 0 0] 133) = W3 := ⟨_, rfl⟩
  have hM3 : BoxM W3 w2.heap.size (fun _ => none) := by rw [← hW3]; exact BoxM.new w2
  have hb3 : Below w2.heap.size w2 W3 := by rw [← hW3]; exact below1 _ _
  have cc := Lib.hid (cmH.out w2 hd W3 hb3 hM3)
  have hbW := Lib.hid (bcall (hd.below w.heap.size) hb3)
  have hsz : w.heap.size ≤ w2.heap.size := (hd.below w.heap.size).size
  clear cmH hd hd1 hd2 v1 v2
  go_upto_region 4 with fail
  try rw [hW3]
  clear hW3 hM3 hb3
  go_wp2_with fail
  (with_reducible refine cc.out.mono ?_)
  rintro e w4 ⟨r, B', rfl, hg, hM4, hf, ht⟩
  have hb4 := below_of_gby hbW.out hg hbW.out.size hsz
  have hb4H := Lib.hid hb4
  have hM4H := Lib.hid hM4
  clear hbW hsz cc hg hb4 hM4
  cases r with
  | false =>
    have hi := Lib.hid (hf rfl)
    clear hf ht
    go_wp2_with fail
    go_ret2
    exact ⟨_, _, rfl, by rw [hi.out]; rfl, hb4H.out⟩
  | true =>
    have hi : instB s a b = true := MRel.done (ht rfl)
    have hiH := Lib.hid hi
    have hwfH := Lib.hid (fun n u (h : B' n = some u) => ((ht rfl).wf n u h).len)
    clear hf ht hi
    go_wp2_with fail
    go_loopw [9, 10] (fun out i wr => mtRel w4 out i wr) (fun _ i _ => 12 - (intOf i).toNat)
    case atStart => exact ⟨0, [], rfl, Nat.zero_le _, Nat.le_refl _, .nil _ _ _ _ _, .refl _ _⟩
    case round =>
      obtain ⟨k, l, rfl, hk, hlk, ho, hB⟩ := hrel
      by_cases hkm : k < 12
      · have hk12 : (k : Int) < 12 := by omega
        obtain ⟨v, qv, hv⟩ := (hM4H.out.below hB).slot hkm
        cases hBn : B' (-(k : Int) - 1) with
        | none =>
          rw [hBn] at hv
          change v = .slice none 0 0 at hv
          subst hv
          have hoH := Lib.hid (fun W (hb : Below wr.heap.size wr W) => ho.call hb)
          have hBH := Lib.hid hB
          clear ho hB hBn
          go_wp2_with fail
          go_quiet (fail)
          all_goals go_wp2_with fail
          go_roundw
          case rel => exact ⟨k + 1, l, by go_num, by omega, by omega, hoH.out _ ((Drew.mk _ _).below _), bcall hBH.out ((Drew.mk _ _).below _)⟩
          case measure => simp [intOf]; omega
        | some u =>
          rw [hBn] at hv
          obtain ⟨aQ, cQ, rfl, IQ⟩ := hv
          have hu1 := hwfH.out _ _ hBn
          obtain ⟨bQ, oQ, rfl, -, -, -⟩ := IQ.int 0 (by omega)
          obtain ⟨d, hd⟩ : ∃ d, decide (u = [-(k : Int) - 1]) = d := ⟨_, rfl⟩
          have mq := IQ.le
          have cv := Lib.hid (fun W (_ : Below wr.heap.size wr W) => rVariable_any k (by omega) W)
          have cs : ∀ (S : Nat → Prop) (W : World) (a : Option Addr) (c : Nat), Below wr.heap.size wr W → Ints S W a c [-(k : Int) - 1] → Calls Tryz.prog 17 #[.slice (some ⟨bQ, oQ, none⟩) u.length cQ, .slice a 1 c] W fun e w' => e = .returned (.bool d) ∧ Drew W w' := fun S W a c hb hi => by
            rw [← hd]; exact Same_any _ a cQ c u [-(k : Int) - 1] W (IQ.below hb) hi
          have csH := Lib.hid cs
          have hpush := fun W (hb : Below wr.heap.size wr W) => two_push ho hB hb (v1 := .int .i64 k) (v2 := .slice (some ⟨bQ, oQ, none⟩) u.length cQ) rfl rfl (by omega)
          have hpushH := Lib.hid hpush
          have hoH := Lib.hid (fun W (hb : Below wr.heap.size wr W) => ho.call hb)
          have hBH := Lib.hid hB
          obtain ⟨a', c', rfl, -⟩ := ho.sl
          have hbd : Below wr.heap.size wr wr.drew := Below.drew (.refl wr.heap.size _)
          have hk0 : Below wr.heap.size wr wr.drew ∧ wr.drew.cell? ⟨w2.heap.size, k, none⟩ = some (.slice (some ⟨bQ, oQ, none⟩) u.length cQ) := ⟨hbd, cell_later hbd qv⟩
          clear ho hB hBn IQ hd cs hpush hbd
          go_wp2_with fail
          go_region_held3 (fun w' => Below wr.heap.size wr w' ∧ w'.cell? ⟨w2.heap.size, k, none⟩ = some (.slice (some ⟨bQ, oQ, none⟩) u.length cQ))
            ((first | exact hk0 | exact keep1 ‹_› (hdS.below _) | exact keep1 ‹_› hbV))
            ((first
              | (go_at_call 108; (with_reducible refine (cv.out _ ?_).mono ?_); exact (And.left ‹_›); rintro e wV ⟨aV, cV, rfl, hIV, hbV⟩)
              | (go_at_call 17; (with_reducible refine (csH.out _ _ _ _ ?_ hIV).mono ?_); exact (And.left ‹_›); rintro e wS ⟨rfl, hdS⟩)))
          have hBS := And.left (‹Below wr.heap.size wr wS ∧ _›)
          have hqS : wS.cell? ⟨w2.heap.size, k, none⟩ = some (.slice (some ⟨bQ, oQ, none⟩) u.length cQ) := And.right (‹Below wr.heap.size wr wS ∧ _›)
          have hBSH := Lib.hid hBS
          cases d with
          | true =>
            clear hBS hpushH
            go_wp2_with fail
            go_roundw
            case rel => exact ⟨k + 1, l, by go_num, by omega, by omega, hoH.out _ hBSH.out, bcall hBH.out hBSH.out⟩
            case measure => simp [intOf]; omega
          | false =>
            obtain ⟨v', w', hrun', ho', hB'⟩ := hpushH.out wS hBS
            clear hBS hpushH hoH
            go_wp2_with (at_builtin; refine wpList_append_run rfl _ _ _ rfl rfl rfl hrun'.out ?_)
            go_roundw
            case rel => exact ⟨k + 1, l ++ [()], by go_num, by omega, by rw [List.length_append, List.length_singleton]; omega, ho'.out, hB'.out⟩
            case measure => simp [intOf]; omega
      · have hkm' : k = 12 := by omega
        subst hkm'
        have hBF := Lib.hid (bcall hb4H.out hB)
        obtain ⟨a', c', rfl, -⟩ := ho.sl
        clear ho hB
        go_wp2_with fail
        go_ret2
        exact ⟨_, _, rfl, by rw [hiH.out]; rfl, hBF.out⟩
theorem rInstance_any {S1 S2 S3 : Nat → Prop} (a1 a2 a3 : Option Addr) (c1 c2 c3 : Nat) (s : Sg) (a b : List Int) (w : World) (h1 : Sign S1 w a1 c1 s) (h2 : Ints S2 w a2 c2 a) (h3 : Ints S3 w a3 c3 b) :
    Calls Tryz.prog 48 #[.slice a1 s.length c1, .slice a2 a.length c2, .slice a3 b.length c3] w fun e w' => e = .returned (.bool (okT s a && okT s b && instB s a b)) ∧ Below w.heap.size w w' := by
  have m1 := h1.le
  have m2 := h2.le
  have m3 := h3.le
  have cm := Lib.hid (rMatch_any a1 a2 a3 c1 c2 c3 s a b w h1 h2 h3)
  clear h1 h2 h3
  go_enter Tryz.func48, Tryz.ntmps48
  go_wp2_with fail
  refine cm.out.mono ?_
  rintro e w1 ⟨v, E, rfl, hE, hb1⟩
  go_wp2_with fail
  go_ret
  exact ⟨by rw [← hE]; rfl, hb1⟩
end Go.Proofs.YthkamffmpejckaaGreatDoor

/- Walks of the reference's solver: Whole, Few. -/
namespace Go.Proofs.YthkamffmpejckaaGreatDoor
open Go Go.RowKit Go.Maps

theorem skw_lt {s : Sg} : ∀ (t : List Int) (k : Nat), skw s k t = some [] → ∀ x ∈ t, x < s.length
  | [], _, _, x, hx => by simp at hx
  | n :: r, 0, h, _, _ => by rw [skw_zero] at h; simp at h
  | n :: r, k + 1, h, x, hx => by
    rw [skw_cons] at h
    split at h
    · rename_i hc
      rcases List.mem_cons.1 hx with e | e
      · subst e; simpa [cw] using hc
      · exact skw_lt r _ h x e
    · cases h
theorem ap_rgT {s : Sg} {B : Bd} {θ : Int → List Int} {ρ : Int → Nat} (h : Slv s B θ ρ) (hr : RgB B) : ∀ (K : Nat) (t : List Int), Rg t → (∀ n ∈ t, n < 0 → ρ n < K) → Rg (ap θ t) := by
  intro K
  induction K using Nat.strongRecOn with
  | ind K ih =>
  intro t rt hK m hm hm0
  rcases mem_ap.1 hm with ⟨h1, -⟩ | ⟨n, hn, hn0, hmn⟩
  · exact rt m h1 hm0
  · cases hB : B n with
    | none =>
      rw [h.free n hn0 hB, List.mem_singleton] at hmn
      subst hmn
      exact rt m hn hm0
    | some u =>
      rw [h.bnd n u hB] at hmn
      exact ih (ρ n) (hK n hn hn0) u (hr n u hB).1 (h.rk n u hB) m hmn hm0
theorem ap_tame {s : Sg} {B : Bd} {θ : Int → List Int} {ρ : Int → Nat} (hok : okSign s = true) (h : Slv s B θ ρ) (hr : RgB B) {t : List Int} (ht : W1 s t) (rt : Rg t) : tame (ap θ t) := by
  obtain ⟨K, hK⟩ := rank_bd ρ t
  have hrg := ap_rgT h hr K t rt hK
  intro x hx
  have h1 := skw_lt _ _ (ht.ap h.th) x hx
  have h2 := (okSign_len hok).2
  by_cases h0 : x < 0
  · have := hrg x hx h0; omega
  · omega
theorem known_new (W : World) : MarkW (W.alloc (.cells #[.int .i64 0, .int .i64 0, .int .i64 0, .int .i64 0, .int .i64 0, .int .i64 0, .int .i64 0, .int .i64 0, .int .i64 0, .int .i64 0, .int .i64 0, .int .i64 0, .int .i64 0, .int .i64 0, .int .i64 0, .int .i64 0, .int .i64 0, .int .i64 0, .int .i64 0, .int .i64 0, .int .i64 0, .int .i64 0, .int .i64 0, .int .i64 0] 158)) W.heap.size 158 (fun j => .int .i64 ((fun _ => 0 : Nat → Nat) j)) := by
  unfold MarkW
  rw [heap_alloc_new]
  rfl
def whRet (w : World) (θ : Int → List Int) (t : List Int) (e : Ending) (w' : World) : Prop :=
  ∃ v, e = .returned (.tuple #[v, .bool (decide ((ap θ t).length ≤ 60))]) ∧ OwnI w' w.heap.size v (if (ap θ t).length ≤ 60 then ap θ t else []) ∧ Below w.heap.size w w'
set_option maxRecDepth 20000 in
set_option maxHeartbeats 4000000 in
theorem rWhole_any {S : Nat → Prop} {xb : Nat} {a1 : Option Addr} {c1 : Nat} {s : Sg} {B : Bd} {θ : Int → List Int} {ρ : Int → Nat} (h : Slv s B θ ρ) (hr : RgB B) (t : List Int) (a : Option Addr) (c : Nat) (w : World) (hS : SolX S w xb a1 c1 s B) (ht : Ints S w a c t) (rt : Rg t) (hl : t.length ≤ 60) :
    Calls Tryz.prog 105 #[.pointer (some ⟨xb, 0, none⟩), .slice a t.length c] w (whRet w θ t) := by
  have m2 := ht.le
  obtain ⟨K, hK⟩ := rank_bd ρ t
  obtain ⟨W, hW⟩ : ∃ W, w.alloc (.cells #[.int .i64 0, .int .i64 0, .int .i64 0, .int .i64 0, .int .i64 0, .int .i64 0, .int .i64 0, .int .i64 0, .int .i64 0, .int .i64 0, .int .i64 0, .int .i64 0, .int .i64 0, .int .i64 0, .int .i64 0, .int .i64 0, .int .i64 0, .int .i64 0, .int .i64 0, .int .i64 0, .int .i64 0, .int .i64 0, .int .i64 0, .int .i64 0] 158) = W := ⟨_, rfl⟩
  have hM : MarkW W w.heap.size 158 (fun j => .int .i64 ((fun _ => 0 : Nat → Nat) j)) := by rw [← hW]; exact known_new w
  have hbW : Below w.heap.size w W := by rw [← hW]; exact below1 _ _
  have hx := hS.lt
  have cs := rsize_any (S := fun b => S b ∧ b < w.heap.size) h hr (fun e => by have := e.2; omega) (show xb ≠ w.heap.size by omega) K t a c (fun _ => 0) W (hS.lts.below hbW) hM (ht.lt.below hbW) rt hK (fun _ _ h => absurd rfl h) hl
  have cw := fun W (hb : Below w.heap.size w W) h60 => rwhole_any h hr K t a c W (hS.below hb) (ht.below hb) rt hK h60 hl
  have csH := Lib.hid cs
  have cwH := Lib.hid cw
  have hWH := Lib.hid hW
  have hbWH := Lib.hid hbW
  have hle : w.heap.size ≤ W.heap.size := hbW.size
  clear cs cw hW hbW hM hS ht hK rt h hr
  go_enter Tryz.func105, Tryz.ntmps105
  go_wp2_with fail
  rw [hWH.out]
  (with_reducible refine csH.out.mono ?_)
  rintro e w2 ⟨f, rfl, hg, -, -⟩
  have hb2 := below_of_gby hbWH.out hg hle (Nat.le_refl _)
  have cw2 := cwH.out w2 hb2
  by_cases h60 : (ap θ t).length ≤ 60
  · have cw3 := Lib.hid (cw2 h60)
    have hc : capL (ap θ t).length = (ap θ t).length := if_pos h60
    rw [hc]
    have hn60 : ((ap θ t).length : Int) ≤ 60 := by omega
    have hbH := Lib.hid hb2
    clear hg hb2 cw2 hc
    go_wp2_with fail
    (with_reducible refine cw3.out.mono ?_)
    rintro e w3 ⟨v, rfl, ho, hb3⟩
    have hoH := Lib.hid (OwnL.baseMono (base' := w.heap.size) ho hbH.out.size)
    clear ho
    go_wp2_with fail
    go_ret2
    exact ⟨v, by rw [decide_eq_true h60]; rfl, by rw [if_pos h60]; exact hoH.out, bcall hbH.out hb3⟩
  · have hc : capL (ap θ t).length = 61 := if_neg h60
    rw [hc]
    have hbH := Lib.hid hb2
    clear hg hb2 cw2 hc
    go_wp2_with fail
    go_ret2
    exact ⟨.slice none 0 0, by rw [decide_eq_false h60]; rfl, by rw [if_neg h60]; exact .nil _ _ _ _ _, hbH.out⟩
set_option maxHeartbeats 2000000 in
theorem rFew_any {S : Nat → Prop} {xb : Nat} {a1 : Option Addr} {c1 : Nat} {s : Sg} {B : Bd} {θ : Int → List Int} {ρ : Int → Nat} (hok : okSign s = true) (h : Slv s B θ ρ) (hr : RgB B) (t : List Int) (a : Option Addr) (c : Nat) (w : World) (hS : SolX S w xb a1 c1 s B) (ht : Ints S w a c t) (wt : W1 s t) (rt : Rg t) (hl : t.length ≤ 60) :
    Calls Tryz.prog 76 #[.pointer (some ⟨xb, 0, none⟩), .slice a t.length c] w (retE (madeE θ t) w) := by
  have m2 := ht.le
  have cw := rWhole_any h hr t a c w hS ht rt hl
  have htm := ap_tame hok h hr wt rt
  have hne := (wt.ap h.th).ne
  obtain ⟨o, hod⟩ : ∃ o, ap θ t = o := ⟨_, rfl⟩
  have hmd : madeE θ t = if o.length ≤ 60 ∧ (varsC o).length ≤ 12 then (canon o, 0) else ([], 4) := by unfold madeE; rw [hod]
  unfold whRet at cw
  rw [hod] at cw htm hne
  have hmdH := Lib.hid hmd
  have cwH := Lib.hid cw
  have htmH := Lib.hid htm
  have hneH := Lib.hid hne
  clear cw hS ht wt rt h hr hod hmd htm hne
  go_enter Tryz.func76, Tryz.ntmps76
  go_wp2_with fail
  (with_reducible refine cwH.out.mono ?_)
  rintro e w1 ⟨v, rfl, ho, hb1⟩
  clear cwH
  by_cases h60 : o.length ≤ 60
  · rw [if_pos h60] at ho
    rw [decide_eq_true h60]
    obtain ⟨a4, c4, rfl, hI⟩ := OwnI.ints ho
    have mI := hI.le
    have cv := Variables_any a4 c4 o w1 hI (by unfold lim; omega) htmH.out
    have cr := fun W (hb : Below w1.heap.size w1 W) => Renamed_any a4 c4 o W (hI.below hb) (by unfold lim; omega) htmH.out hneH.out
    have cvH := Lib.hid cv
    have crH := Lib.hid cr
    have hvl : (varsV o).length = (varsC o).length := by simp [varsV]
    clear cv cr ho hI
    go_wp2_with fail
    (with_reducible refine cvH.out.mono ?_)
    rintro e w2 ⟨v2, rfl, ho2, hb2⟩
    obtain ⟨a5, c5, rfl, hI5⟩ := OwnI.ints ho2
    have mI5 := hI5.le
    have cr2 := Lib.hid (crH.out w2 hb2)
    have hB2 := bcall hb1 hb2
    rw [hvl] at mI5 ⊢
    clear ho2 hI5 crH cvH hb1 hb2
    by_cases h12 : (varsC o).length ≤ 12
    · have hm1 := Lib.hid (hmdH.out.trans (if_pos ⟨h60, h12⟩))
      have hn12 : ((varsC o).length : Int) ≤ 12 := by omega
      go_wp2_with fail
      (with_reducible refine cr2.out.mono ?_)
      rintro e w3 ⟨v3, rfl, ho3, hb3⟩
      have hoH := Lib.hid (OwnL.baseMono (base' := w.heap.size) ho3 hB2.size)
      clear ho3
      go_wp2_with fail
      go_ret2
      rw [hm1.out]
      exact ⟨_, rfl, hoH.out, bcall hB2 hb3⟩
    · have hm1 := Lib.hid (hmdH.out.trans (if_neg (fun h => h12 h.2)))
      have hn12 : (12 : Int) < ((varsC o).length : Int) := by omega
      go_wp2_with fail
      go_ret2
      rw [hm1.out]
      exact ⟨_, rfl, .nil _ _ _ _ _, hB2⟩
  · rw [if_neg h60] at ho
    rw [decide_eq_false h60]
    have hm1 := Lib.hid (hmdH.out.trans (if_neg (fun h => h60 h.1)))
    clear ho
    go_wp2_with fail
    go_ret2
    rw [hm1.out]
    exact ⟨_, rfl, .nil _ _ _ _ _, hb1⟩
end Go.Proofs.YthkamffmpejckaaGreatDoor

/- Walks: kernel.Detaches. -/
namespace Go.Proofs.YthkamffmpejckaaGreatDoor
open Go Go.RowKit Go.Maps

noncomputable def detsB (s : Sg) (m n : List Int) : Bool := okT s m && (okT s n && (decide (m.headD 0 = 0) && uniB s ((argsT s m).headD []) (apartT n)))
set_option maxHeartbeats 2000000 in
theorem Detaches_any {S1 S2 S3 : Nat → Prop} (a1 a2 a3 : Option Addr) (c1 c2 c3 : Nat) (s : Sg) (m n : List Int) (w : World) (h1 : Sign S1 w a1 c1 s) (h2 : Ints S2 w a2 c2 m) (h3 : Ints S3 w a3 c3 n) :
    Calls Tryz.prog 21 #[.slice a1 s.length c1, .slice a2 m.length c2, .slice a3 n.length c3] w fun e w' => e = .returned (.bool (detsB s m n)) ∧ Below w.heap.size w w' := by
  have m2 := h2.le
  have m3 := h3.le
  have v1 := Valid_any a1 a2 c1 c2 s m w h1 h2
  have v2 := fun W (hb : Below w.heap.size w W) => Valid_any a1 a3 c1 c3 s n W (h1.below hb) (h3.below hb)
  obtain ⟨x, hx⟩ : ∃ x, okT s m = x := ⟨_, rfl⟩
  obtain ⟨y, hy⟩ : ∃ x, okT s n = x := ⟨_, rfl⟩
  rw [hx] at v1
  rw [hy] at v2
  have v1H := Lib.hid v1
  have v2H := Lib.hid v2
  clear v1 v2
  cases x with
  | false =>
    have hmH := Lib.hid (show detsB s m n = false by unfold detsB; rw [hx]; rfl)
    clear hx hy h1 h2 h3
    go_enter Tryz.func21, Tryz.ntmps21
    go_wp2_with fail
    refine v1H.out.mono ?_
    rintro e w1 ⟨rfl, hb1⟩
    go_wp2_with fail
    go_ret
    exact ⟨ret_bool hmH.out.symm, hb1⟩
  | true =>
  cases y with
  | false =>
    have hmH := Lib.hid (show detsB s m n = false by unfold detsB; rw [hx, hy]; rfl)
    clear hx hy h1 h2 h3
    go_enter Tryz.func21, Tryz.ntmps21
    go_wp2_with fail
    refine v1H.out.mono ?_
    rintro e w1 ⟨rfl, hb1⟩
    go_wp2_with fail
    refine (v2H.out _ hb1).mono ?_
    rintro e w2 ⟨rfl, hb2⟩
    go_wp2_with fail
    go_ret
    exact ⟨ret_bool hmH.out.symm, bcall hb1 hb2⟩
  | true =>
    by_cases h0 : m.headD 0 = 0
    · obtain ⟨A, B, e1, e2, oA, oB⟩ := halves hx h0
      have hmH := Lib.hid (show detsB s m n = meetB s A n by unfold detsB meetB; rw [hx, hy, decide_eq_true h0, e1, oA]; rfl)
      have ch := fun W (hb : Below w.heap.size w W) => halves_yes a1 a2 c1 c2 s m A B W (h1.below hb) (h2.below hb) hx e1 h0
      have cd := fun W (hb : Below w.heap.size w W) a4 c4 (hA : Ints (fun _ => True) W a4 c4 A) => Meets_any a1 a4 a3 c1 c4 c3 s A n W (h1.below hb) hA (h3.below hb)
      have chH := Lib.hid ch
      have cdH := Lib.hid cd
      clear ch cd hx hy h1 h2 h3 e1 e2 oA oB h0
      go_enter Tryz.func21, Tryz.ntmps21
      go_wp2_with fail
      refine v1H.out.mono ?_
      rintro e w1 ⟨rfl, hb1⟩
      go_wp2_with fail
      refine (v2H.out _ hb1).mono ?_
      rintro e w2 ⟨rfl, hb2⟩
      have hb2 := bcall hb1 hb2
      clear hb1
      go_wp2_with fail
      refine (chH.out _ hb2).mono ?_
      rintro e w3 ⟨a4, c4, a5, c5, rfl, hA, hB, hb3⟩
      have hb3 := bcall hb2 hb3
      clear hb2
      have cd := cdH.out _ hb3 _ _ hA
      have cdK := Lib.hid cd
      have lA := hA.le
      have lB := hB.le
      clear cd hA hB
      go_wp2_with fail
      refine cdK.out.mono ?_
      rintro e w4 ⟨rfl, hb4⟩
      go_wp2_with fail
      go_ret
      exact ⟨ret_bool hmH.out.symm, bcall hb3 hb4⟩
    · have hmH := Lib.hid (show detsB s m n = false by unfold detsB; rw [hx, hy, decide_eq_false h0]; rfl)
      have ch := fun W (hb : Below w.heap.size w W) => halves_no (.slice a1 s.length c1) a2 c2 m W (h2.below hb) (okT_parts hx).2.1 h0
      have chH := Lib.hid ch
      clear ch hx hy h1 h2 h3 h0
      go_enter Tryz.func21, Tryz.ntmps21
      go_wp2_with fail
      refine v1H.out.mono ?_
      rintro e w1 ⟨rfl, hb1⟩
      go_wp2_with fail
      refine (v2H.out _ hb1).mono ?_
      rintro e w2 ⟨rfl, hb2⟩
      have hb2 := bcall hb1 hb2
      clear hb1
      go_wp2_with fail
      refine (chH.out _ hb2).mono ?_
      rintro e w3 ⟨rfl, rfl⟩
      go_wp2_with fail
      go_ret
      exact ⟨ret_bool hmH.out.symm, hb2⟩
end Go.Proofs.YthkamffmpejckaaGreatDoor

/- Facts of the program's types that the rows over the kernel want; the start of a row that lists variables. -/
namespace Go.Proofs.YthkamffmpejckaaGreatDoor
open Go Go.RowKit Go.ChangeShapes Go.WideShapes Go.ChangeAt Go.Deep

theorem gives3 {P : Program} {t : TypeId} {α β γ : Type} {E : Enc α} {F : Enc β} {G : Enc γ} {f0 f1 f2 : Field} (ht : P.underlying t = some (.struct #[f0, f1, f2])) (h0 : f0.offset = 0) (h1 : f1.offset = E.size) (h2 : f2.offset = E.size + F.size) (hc : P.cellsOf t = E.size + (F.size + G.size))
    (hc0 : P.cellsOf f0.type = E.size) (hc1 : P.cellsOf f1.type = F.size) (hc2 : P.cellsOf f2.type = G.size) (g0 : Gives P f0.type E) (g1 : Gives P f1.type F) (g2 : Gives P f2.type G) : Gives P t (pairE E (pairE F G)) := by
  intro H enc w base spare held n cs x h
  obtain ⟨y0, y1, y2, n', _, hl, r0, r1, r2⟩ := trod_struct3 ht h
  obtain ⟨a, ha⟩ := g0 H enc w base spare held n' _ _ r0
  obtain ⟨b, hb⟩ := g1 H enc w base spare held n' _ _ r1
  obtain ⟨c, hcc⟩ := g2 H enc w base spare held n' _ _ r2
  refine ⟨(a, b, c), _, _, ?_, ha, _, _, rfl, hb, hcc⟩
  rw [h0, h1, h2, hc0, hc1, hc2, List.drop_zero]
  have e1 : (cs.drop (E.size + F.size)).take G.size = cs.drop (E.size + F.size) := List.take_of_length_le (by simp; omega)
  rw [e1, ← List.drop_drop, List.take_append_drop, List.take_append_drop]
theorem gStp : Gives Tryz.prog 71 stpE := gives3 Tryz.underlying71 rfl rfl rfl (by kernel_rfl) (by kernel_rfl) (by kernel_rfl) (by kernel_rfl) gInt gInt gInt
theorem gSteps : Gives Tryz.prog 25 (slE stpE) := gives_slice Tryz.underlying25 (by kernel_rfl) gStp
theorem gives_array2 {P : Program} {t e : TypeId} {α : Type} {E : Enc α} (ht : P.underlying t = some (.array 2 e)) (hc : P.cellsOf t = E.size + E.size) (he : P.cellsOf e = E.size) (g : Gives P e E) : Gives P t (pairE E E) := by
  intro H enc w base spare held n cs x h
  obtain ⟨xs, m, _, _, hl, hx, hf⟩ := DataW.trod_array ht h
  match xs, hx with
  | [x0, x1], _ =>
    obtain ⟨a, ha⟩ := g H enc w base spare held m _ _ (hf 0 (by omega))
    obtain ⟨b, hb⟩ := g H enc w base spare held m _ _ (hf 1 (by omega))
    refine ⟨(a, b), _, _, ?_, ha, hb⟩
    rw [he, Nat.zero_mul, Nat.one_mul, List.drop_zero]
    have e1 : (cs.drop E.size).take E.size = cs.drop E.size := List.take_of_length_le (by simp; omega)
    rw [e1, List.take_append_drop]
theorem gClaim : Gives Tryz.prog 44 (pairE (slE (slE intE)) (pairE (slE stpE) (slE intE))) := gives3 Tryz.underlying44 rfl rfl rfl (by kernel_rfl) (by kernel_rfl) (by kernel_rfl) (by kernel_rfl) gTerms gSteps gTerm
end Go.Proofs.YthkamffmpejckaaGreatDoor

/- Walks: ValidGivens of the reference. -/
namespace Go.Proofs.YthkamffmpejckaaGreatDoor
open Go Go.RowKit Go.Maps

set_option maxHeartbeats 1000000 in
theorem rValidGivens_any {S1 S2 : Nat → Prop} (a1 a2 : Option Addr) (c1 c2 : Nat) (s : Sg) (L : List (List Int)) (w : World) (h1 : Sign S1 w a1 c1 s) (h2 : Terms S2 w a2 c2 L) :
    Calls Tryz.prog 14 #[.slice a1 s.length c1, .slice a2 L.length c2] w fun e w' => e = .returned (.bool (givensB s L)) ∧ Below w.heap.size w w' := by
  have m2 := h2.le
  have v1 := rValidSign_any a1 c1 s w h1
  have v2 := fun W => isCount_any (L.length : Int) W
  have v3 := fun W (hd : Drew w W) => rAllValid_any a1 a2 c1 c2 s L W (h1.drew hd) (h2.drew hd)
  have hg : givensB s L = (okSign s && decide (L.length ≤ 60) && L.all (okT s)) := rfl
  have hc : (decide ((0 : Int) ≤ (L.length : Int)) && decide ((L.length : Int) ≤ 60)) = decide (L.length ≤ 60) := by
    rw [Bool.eq_iff_iff]; simp only [Bool.and_eq_true, decide_eq_true_eq]; omega
  rw [hc] at v2
  obtain ⟨x, hx⟩ : ∃ x, okSign s = x := ⟨_, rfl⟩
  obtain ⟨y, hy⟩ : ∃ x, decide (L.length ≤ 60) = x := ⟨_, rfl⟩
  obtain ⟨z, hz⟩ : ∃ x, L.all (okT s) = x := ⟨_, rfl⟩
  rw [hx, hy, hz] at hg
  rw [hx] at v1
  rw [hy] at v2
  rw [hz] at v3
  have v1H := Lib.hid v1
  have v2H := Lib.hid v2
  have v3H := Lib.hid v3
  have hgH := Lib.hid hg
  clear v1 v2 v3 h1 h2 hx hy hz hg hc
  cases x with
  | false =>
    go_enter Tryz.func14, Tryz.ntmps14
    go_wp2_with fail
    refine v1H.out.mono ?_
    rintro e w1 ⟨rfl, hd1⟩
    go_wp2_with fail
    go_ret
    exact ⟨by rw [hgH.out]; rfl, hd1.below _⟩
  | true =>
    cases y with
    | false =>
      go_enter Tryz.func14, Tryz.ntmps14
      go_wp2_with fail
      refine v1H.out.mono ?_
      rintro e w1 ⟨rfl, hd1⟩
      go_wp2_with fail
      refine (v2H.out _).mono ?_
      rintro e w2 ⟨rfl, rfl⟩
      go_wp2_with fail
      go_ret
      exact ⟨by rw [hgH.out]; rfl, hd1.below _⟩
    | true =>
      go_enter Tryz.func14, Tryz.ntmps14
      go_wp2_with fail
      refine v1H.out.mono ?_
      rintro e w1 ⟨rfl, hd1⟩
      go_wp2_with fail
      refine (v2H.out _).mono ?_
      rintro e w2 ⟨rfl, rfl⟩
      go_wp2_with fail
      refine (v3H.out _ hd1).mono ?_
      rintro e w2 ⟨rfl, hd2⟩
      go_wp2_with fail
      go_ret
      exact ⟨by rw [hgH.out]; rfl, bcall (hd1.below _) (hd2.below _)⟩
end Go.Proofs.YthkamffmpejckaaGreatDoor

/- Walks: lemmaryref04.detach, Detach, Detaches. -/
namespace Go.Proofs.YthkamffmpejckaaGreatDoor
open Go Go.RowKit Go.Maps

theorem argsW_two {s : Sg} {m A B : List Int} (hm : W1 s m) (e : m = 0 :: (A ++ B)) (hA : W1 s A) (har : arW s 0 = 2) : argsW s m = [A, B] := by
  subst e
  obtain ⟨h1, h2, h3, -⟩ := hm.args
  obtain ⟨L, hL⟩ : ∃ L, argsW s (0 :: (A ++ B)) = L := ⟨_, rfl⟩
  rw [hL] at h1 h2 h3 ⊢
  rw [har] at h1
  match L, h1 with
  | [x, y], _ =>
    have h4 : x ++ (y ++ []) = A ++ B := by simpa using h2
    obtain ⟨e1, e2⟩ := W1.uniq (h3 x (by simp)) hA h4
    rw [e1]
    rw [List.append_nil] at e2
    rw [e2]
theorem arW_zero {s : Sg} (hok : okSign s = true) : arW s 0 = 2 := by
  have h := ar_zero hok
  have hl := (okSign_len hok).1
  unfold okSign at hok
  simp only [Bool.and_eq_true, decide_eq_true_eq] at hok
  unfold arW
  rw [if_neg (by omega)]
  have := hok.2
  simp only [Int.toNat_zero] at *
  rw [this]; rfl
theorem solx_new {w : World} {a1 : Option Addr} {c1 : Nat} {s : Sg} {S1 : Nat → Prop} (h1 : Sign S1 w a1 c1 s) :
    SolX (Nx w.heap.size) (w.alloc (.cells #[.slice a1 s.length c1, .slice none 0 0, .slice none 0 0, .slice none 0 0, .slice none 0 0, .slice none 0 0, .slice none 0 0, .slice none 0 0, .slice none 0 0, .slice none 0 0, .slice none 0 0, .slice none 0 0, .slice none 0 0, .slice none 0 0, .slice none 0 0, .slice none 0 0, .slice none 0 0, .slice none 0 0, .slice none 0 0, .slice none 0 0, .slice none 0 0, .slice none 0 0, .slice none 0 0, .slice none 0 0, .slice none 0 0] 99)) w.heap.size a1 c1 s (fun _ => none) := by
  refine ⟨⟨List.replicate 24 (.slice none 0 0), by rw [heap_alloc_new]; rfl, rfl, fun i hi => ?_⟩, ?_, fun _ _ h => by cases h⟩
  · rw [List.getElem_replicate]; rfl
  · exact (h1.lt.below (below1 _ _)).weak (fun b hb e => by have := hb.2; omega)
theorem wpList_box {P : Program} {ops : Array Oper} {Q : Exit → Act → World → Prop} {a : Act} {w : World} {o1 o2 o3 o4 : Oper} (ty : TypeId) (x0 xs xp xv : Operand) (v zv : Value) (cs : Array Value)
    (g1 : o1.guard = none) (g2 : o2.guard = none) (g3 : o3.guard = none) (g4 : o4.guard = none)
    (h1 : o1.op = .move x0) (h2 : o2.op = .build ty #[(0, xs)]) (h3 : o3.op = .alloc ty) (h4 : o4.op = .store ty xp xv)
    (e1 : a.eval x0 = v) (e2 : (a.put o1.dst v).eval xs = v) (e3 : (((a.put o1.dst v).put o2.dst (.agg cs)).put o3.dst (.pointer (some ⟨w.heap.size, 0, none⟩))).eval xp = .pointer (some ⟨w.heap.size, 0, none⟩))
    (e4 : (((a.put o1.dst v).put o2.dst (.agg cs)).put o3.dst (.pointer (some ⟨w.heap.size, 0, none⟩))).eval xv = .agg cs)
    (hb : (Instr.build ty #[(0, v)]).run P w = .ok (.agg cs) w) (hz : (zeroValue ty).run P w = .ok zv w) (hzs : zv.cells.size = cs.size) (hi : (P.info? ty).map (·.size) = some cs.size) (hc : cs.all (·.oneCell') = true)
    (h : wpList P ops Q [] ((((a.put o1.dst v).put o2.dst (.agg cs)).put o3.dst (.pointer (some ⟨w.heap.size, 0, none⟩))).put o4.dst undef) (w.alloc (.cells cs ty))) : wpList P ops Q [o1, o2, o3, o4] a w := by
  refine wpList_plain g1 fun _ hK => ?_
  unfold Oper.wp execOp
  simp only [h1, e1, Sem.run_pure]
  refine hK _ _ (wpList_plain g2 fun _ hK2 => ?_)
  unfold Oper.wp execOp
  simp only [h2, List.map_toArray, List.map_cons, List.map_nil, e2, Sem.run_bind, hb, Result.andThen_ok, Sem.run_pure]
  refine hK2 _ _ (wpList_plain g3 fun _ hK3 => ?_)
  unfold Oper.wp execOp
  simp only [h3, Instr.alloc, Sem.run_bind, hz, Result.andThen_ok, Sem.run_pure, newVar, newRow, newObj]
  refine hK3 _ _ (wpList_plain g4 fun _ hK4 => ?_)
  unfold Oper.wp execOp
  simp only [h4, e3, e4, Sem.run_bind]
  rw [show (Instr.storeAt ty (.pointer (some ⟨w.heap.size, 0, none⟩)) (.agg cs)).run P { heap := w.heap.push (.cells zv.cells ty), tape := w.tape, drawn := w.drawn, os := w.os, output := w.output } = _ from run_storeAt_new w ty zv.cells cs hi hzs hc]
  exact hK4 _ _ h
theorem solver_zero : (Tryz.prog.info? 99).map (fun i => (i.zero, i.size)) = some (some (.agg #[.slice none 0 0, .slice none 0 0, .slice none 0 0, .slice none 0 0, .slice none 0 0, .slice none 0 0, .slice none 0 0, .slice none 0 0, .slice none 0 0, .slice none 0 0, .slice none 0 0, .slice none 0 0, .slice none 0 0, .slice none 0 0, .slice none 0 0, .slice none 0 0, .slice none 0 0, .slice none 0 0, .slice none 0 0, .slice none 0 0, .slice none 0 0, .slice none 0 0, .slice none 0 0, .slice none 0 0, .slice none 0 0]), 25) := by kernel_rfl
theorem solver_build (w : World) (a : Option Addr) (n c : Nat) : (Instr.build 99 #[(0, .slice a n c)]).run Tryz.prog w = .ok (.agg #[.slice a n c, .slice none 0 0, .slice none 0 0, .slice none 0 0, .slice none 0 0, .slice none 0 0, .slice none 0 0, .slice none 0 0, .slice none 0 0, .slice none 0 0, .slice none 0 0, .slice none 0 0, .slice none 0 0, .slice none 0 0, .slice none 0 0, .slice none 0 0, .slice none 0 0, .slice none 0 0, .slice none 0 0, .slice none 0 0, .slice none 0 0, .slice none 0 0, .slice none 0 0, .slice none 0 0, .slice none 0 0]) w := by kernel_rfl
set_option maxHeartbeats 1000000 in
theorem rdetach_no {S2 : Nat → Prop} (v v3 : Value) (a2 : Option Addr) (c2 : Nat) (s : Sg) (m n : List Int) (w : World) (h2 : Ints S2 w a2 c2 m) (hm : okT s m = true) (hn : okT s n = true) (h0 : m.headD 0 ≠ 0) :
    Calls Tryz.prog 44 #[v, .slice a2 m.length c2, v3] w (retE (detE s m n) w) := by
  have m2 := h2.le
  have lm := (okT_parts hm).2.1
  obtain ⟨b, o, rfl, -, q, -⟩ := h2.int 0 (by omega)
  have hg : m[0] = m.headD 0 := by cases m with | nil => simp at lm | cons _ _ => rfl
  rw [hg, Nat.add_zero] at q
  have hne : (m.headD 0 != 0) = true := by simpa using h0
  rw [detE_state hm hn h0]
  obtain ⟨x, hx⟩ : ∃ x, m.headD 0 = x := ⟨_, rfl⟩
  rw [hx] at q hne
  clear h2 hg h0 hx hm hn
  go_enter Tryz.func44, Tryz.ntmps44
  go_wp2_with fail
  go_ret2
  exact ⟨_, rfl, .nil _ _ _ _ _, .refl _ _⟩
set_option maxRecDepth 20000 in
set_option maxHeartbeats 4000000 in
theorem rdetach_any {S1 S2 S3 : Nat → Prop} (a1 a2 a3 : Option Addr) (c1 c2 c3 : Nat) (s : Sg) (m n : List Int) (w : World) (h1 : Sign S1 w a1 c1 s) (h2 : Ints S2 w a2 c2 m) (h3 : Ints S3 w a3 c3 n) (hm : okT s m = true) (hn : okT s n = true) :
    Calls Tryz.prog 44 #[.slice a1 s.length c1, .slice a2 m.length c2, .slice a3 n.length c3] w (retE (detE s m n) w) := by
  by_cases h0 : m.headD 0 = 0
  case neg => exact rdetach_no _ _ a2 c2 s m n w h2 hm hn h0
  have m1 := h1.le
  have m2 := h2.le
  have m3 := h3.le
  obtain ⟨A, B, e1, e2, oA, oB⟩ := halves hm h0
  have hok := (okT_parts hm).1
  have wA := okT_w1 oA
  have wB := okT_w1 oB
  have wm := okT_w1 hm
  have hd := detE_at hm hn e2 wA
  have hlm := (okT_parts hm).2.2.1
  have hln := (okT_parts hn).2.2.1
  have hlA := (okT_parts oA).2.2.1
  have hlB := (okT_parts oB).2.2.1
  have hL := argsW_two wm e2 wA (arW_zero hok)
  obtain ⟨A1, A2, A3⟩ := args_all wm rfl
  have lm := wm.len
  obtain ⟨b, o, rfl, -, q, -⟩ := h2.int 0 lm
  have hg : m[0] = 0 := by rw [← h0]; cases m with | nil => simp at lm | cons _ _ => rfl
  rw [hg, Nat.add_zero] at q
  have hll : (argsW s m).length = 2 := by rw [hL]; rfl
  have hap : (aposL s m).length = 2 := by rw [aposL_len, hll]
  obtain ⟨f1, f2, f3, f4⟩ := A3 0 (by omega)
  obtain ⟨g1, g2, g3, g4⟩ := A3 1 (by omega)
  simp only [hL, List.getElem_cons_zero, List.getElem_cons_succ] at f4 g4 g1 f1
  have ca := wArguments_any a1 (some ⟨b, o, none⟩) c1 c2 s m w h1 h2 hok wm (by omega)
  have cP1 := fun W (hb : Below w.heap.size w W) => wPart_any a1 (some ⟨b, o, none⟩) c1 c2 s m _ _ A W (h1.below hb) (h2.below hb) hok f1 f2 f3 f4 (by omega)
  have cP2 := fun W (hb : Below w.heap.size w W) => wPart_any a1 (some ⟨b, o, none⟩) c1 c2 s m _ _ B W (h1.below hb) (h2.below hb) hok g1 g2 g3 g4 (by omega)
  have cA := fun W (hb : Below w.heap.size w W) => rApart_any a3 c3 n W (h3.below hb) (by unfold lim; omega) (okT_ne hn) (okT_rg hn)
  have hnew := fun W (hb : Below w.heap.size w W) => solx_new (h1.below hb)
  have cS := fun xb => rsolve_any (xb := xb) (a1 := a1) (c1 := c1) hok _ _ (fun _ => none) (fun n => [n]) (fun _ => 0) A (apartT n) (Slv.empty s) (fun _ _ h => by cases h) wA (apartT_w (okT_w1 hn)) (okT_Rg oA) (apartT_rg hn) hlA (by rw [apartT_len]; exact hln) (fun _ _ h => by cases h) (Nat.le_refl _) (Nat.le_refl _)
  have cF := fun xb B' θ' ρ' (h : Slv s B' θ' ρ') (hr : RgB B') aB cB W (hS : SolX (Nx xb) W xb a1 c1 s B') (hB : Ints (Nx xb) W aB cB B) => rFew_any hok h hr B aB cB W hS hB wB (okT_Rg oB) hlB
  have hno : (∀ η, Wsub s η → Sat (fun _ => none) η → ap η A ≠ ap η (apartT n)) → detE s m n = ([], 8) := fun h => by rw [hd]; exact uniE_none (fun η hw => h η hw (fun _ _ h => by cases h)) B
  have hyes : ∀ B' θ' ρ', Slv2 s (fun _ => none) (fun n => [n]) (fun _ => 0) A (apartT n) B' θ' ρ' → detE s m n = madeE θ' B := fun B' θ' ρ' h => by rw [hd]; exact uniE_some (IsMgu.of2 h) B
  have qz := World.block_lt_of_cell? w _ q
  have aL0 := aposL_at (s := s) (t := m) (k := 0) (by omega)
  have aL1 := aposL_at (s := s) (t := m) (k := 1) (by omega)
  obtain ⟨p0, hp0⟩ : ∃ p0, apos s m 0 = p0 := ⟨_, rfl⟩
  obtain ⟨p1, hp1⟩ : ∃ p1, apos s m 1 = p1 := ⟨_, rfl⟩
  rw [hp0] at aL0 cP1
  rw [hp1] at aL1
  simp only [hp1] at cP2
  have caH := Lib.hid ca
  have cP1H := Lib.hid cP1
  have cP2H := Lib.hid cP2
  have cAH := Lib.hid cA
  have hnewH := Lib.hid hnew
  have cSH := Lib.hid cS
  have cFH := Lib.hid cF
  have hnoH := Lib.hid hno
  have hyesH := Lib.hid hyes
  clear ca cP1 cP2 cA hnew cS cF hno hyes h1 h2 h3 hm hn e1 e2 oA oB hok wA wB wm hd hlm hln hlA hlB hL A1 A2 A3 hg hll f1 f2 f3 f4 g1 g2 g3 g4 hp0 hp1 h0
  go_enter Tryz.func44, Tryz.ntmps44
  go_wp2_with fail
  (with_reducible refine caH.out.mono ?_)
  rintro e w1 ⟨vL, rfl, hoL, hb1⟩
  obtain ⟨aL, cL, rfl, hIL⟩ := OwnI.ints hoL
  obtain ⟨bL, oL, rfl, hbL, qL0, -⟩ := hIL.int 0 (by omega)
  obtain ⟨bL', oL', e', -, qL1, -⟩ := hIL.int 1 (by omega)
  simp only [Option.some.injEq, Addr.mk.injEq, and_true] at e'
  obtain ⟨rfl, rfl⟩ := e'
  rw [aL0, Nat.add_zero] at qL0
  rw [aL1] at qL1
  have mL := hIL.le
  rw [hap] at mL ⊢
  have hltL : bL < w1.heap.size := World.block_lt_of_cell? _ _ qL0
  clear hoL hIL caH aL0 aL1 hap
  go_upto_region 4 with fail
  refine wp_region_lit (wpList_box 99 (.tmp 0) (.tmp 17) (.tmp 9) (.tmp 18) (.slice a1 s.length c1) _ _ rfl rfl rfl rfl rfl rfl rfl rfl rfl rfl rfl rfl (solver_build w1 a1 s.length c1) ((zero_of_info solver_zero).1 w1) rfl (zero_of_info solver_zero).2 (by kernel_rfl) ?_)
  have hS2 := hnewH.out w1 hb1
  obtain ⟨W2, hW2⟩ : ∃ W2, w1.alloc (.cells #[.slice a1 s.length c1, .slice none 0 0, .slice none 0 0, .slice none 0 0, .slice none 0 0, .slice none 0 0, .slice none 0 0, .slice none 0 0, .slice none 0 0, .slice none 0 0, .slice none 0 0, .slice none 0 0, .slice none 0 0, .slice none 0 0, .slice none 0 0, .slice none 0 0, .slice none 0 0, .slice none 0 0, .slice none 0 0, .slice none 0 0, .slice none 0 0, .slice none 0 0, .slice none 0 0, .slice none 0 0, .slice none 0 0] 99) = W2 := ⟨_, rfl⟩
  rw [hW2] at hS2 ⊢
  have hb2 : Below w1.heap.size w1 W2 := by rw [← hW2]; exact below1 _ _
  have qL0' := cell_later hb2 qL0
  have qL1' := cell_later hb2 qL1
  have hB2 := bcall hb1 hb2
  have hz1 := hb1.size
  have hz2 := hb2.size
  have hx2 := hS2.lt
  have cp := Lib.hid (cP1H.out W2 hB2)
  have hS2H := Lib.hid hS2
  clear hS2 hW2 qL0 qL1 cP1H hnewH
  go_wp2_with fail
  (with_reducible refine cp.out.mono ?_)
  rintro e w3 ⟨vA, rfl, hoA, hb3⟩
  obtain ⟨aA, cA, rfl, hIA⟩ := OwnI.ints hoA
  have hB3 := bcall hB2 hb3
  have ca2 := Lib.hid (cAH.out w3 hB3)
  clear hoA cp cAH
  go_wp2_with fail
  (with_reducible refine ca2.out.mono ?_)
  rintro e w4 ⟨vN, rfl, hoN, hb4⟩
  obtain ⟨aN, cN, rfl, hIN⟩ := OwnI.ints hoN
  have hB4 := bcall hB3 hb4
  have hb24 := bcall hb3 hb4
  have hz3 := hb3.size
  have hz4 := hb4.size
  have cc := Lib.hid (cSH.out w1.heap.size w4 aA aN cA cN (hS2H.out.below hb24) ((hIA.below hb4).weak (fun b hb e => by have hb' : W2.heap.size ≤ b := hb; omega)) (hIN.weak (fun b hb e => by have hb' : w3.heap.size ≤ b := hb; omega)))
  have qL1'' := cell_later hb24 qL1'
  clear hoN ca2 cSH hIA hIN hS2H qL0' qL1'
  go_wp2_with fail
  (with_reducible refine cc.out.mono ?_)
  rintro e w5 ⟨r, B', rfl, hg5, hS5, hf, ht⟩
  have hB5 := below_of_gby hB4 hg5 (by omega) hz1
  clear cc
  cases r with
  | false =>
    have hd := Lib.hid (hnoH.out (hf rfl))
    clear hf ht hS5 hnoH hyesH hg5 qL1''
    go_wp2_with fail
    go_ret2
    rw [hd.out]
    exact ⟨_, rfl, .nil _ _ _ _ _, hB5⟩
  | true =>
    obtain ⟨θ', ρ', h2⟩ := ht rfl
    have hd := Lib.hid (hyesH.out _ _ _ h2)
    have qL5 := (World.cell?_of_block (hg5.block bL (World.block_lt_of_cell? _ _ qL1'') (fun e => by cases e; omega))).trans qL1''
    have cp := Lib.hid (cP2H.out w5 hB5)
    have hS5H := Lib.hid hS5
    have h2H := Lib.hid h2
    have hx5 := hS5.lt
    clear hf ht hnoH hyesH hg5 qL1'' cP2H h2 hS5
    go_wp2_with fail
    (with_reducible refine cp.out.mono ?_)
    rintro e w6 ⟨vB, rfl, hoB, hb6⟩
    obtain ⟨aB, cB, rfl, hIB⟩ := OwnI.ints hoB
    have hB6 := bcall hB5 hb6
    have cf := Lib.hid (cFH.out w1.heap.size B' θ' ρ' h2H.out.slv h2H.out.rg aB cB w6 (hS5H.out.below hb6) (hIB.weak (fun b hb e => by have hb' : w5.heap.size ≤ b := hb; omega)))
    clear hoB hIB cp cFH hS5H h2H
    go_wp2_with fail
    (with_reducible refine cf.out.mono ?_)
    rintro e w7 ⟨v7, rfl, ho7, hb7⟩
    have ho7H := Lib.hid (OwnL.baseMono (base' := w.heap.size) ho7 hB6.size)
    clear ho7 cf
    go_wp2_with fail
    go_ret2
    rw [hd.out]
    exact ⟨_, rfl, ho7H.out, bcall hB6 hb7⟩
set_option maxHeartbeats 2000000 in
theorem rDetach_any {S1 S2 S3 : Nat → Prop} (a1 a2 a3 : Option Addr) (c1 c2 c3 : Nat) (s : Sg) (m n : List Int) (w : World) (h1 : Sign S1 w a1 c1 s) (h2 : Ints S2 w a2 c2 m) (h3 : Ints S3 w a3 c3 n) :
    Calls Tryz.prog 20 #[.slice a1 s.length c1, .slice a2 m.length c2, .slice a3 n.length c3] w (retE (detE s m n) w) := by
  have m2 := h2.le
  have m3 := h3.le
  have v1 := rValid_any a1 a2 c1 c2 s m w h1 h2
  have v2 := fun W (hd : Drew w W) => rValid_any a1 a3 c1 c3 s n W (h1.drew hd) (h3.drew hd)
  have v3 := fun W (hb : Below w.heap.size w W) => rdetach_any a1 a2 a3 c1 c2 c3 s m n W (h1.below hb) (h2.below hb) (h3.below hb)
  obtain ⟨x, hx⟩ : ∃ x, okT s m = x := ⟨_, rfl⟩
  obtain ⟨y, hy⟩ : ∃ x, okT s n = x := ⟨_, rfl⟩
  rw [hx] at v1
  rw [hy] at v2
  have v1H := Lib.hid v1
  have v2H := Lib.hid v2
  have v3H := Lib.hid v3
  clear v1 v2 v3 h1 h2 h3
  cases x with
  | false =>
    have hmH := Lib.hid (show detE s m n = ([], 1) by unfold detE; rw [if_neg (by rw [hx]; simp)])
    clear hx hy
    go_enter Tryz.func20, Tryz.ntmps20
    go_wp2_with (go_at_call 43; refine v1H.out.mono ?_; rintro e w1 ⟨rfl, hd1⟩)
    go_ret2
    exact ⟨_, by rw [hmH.out]; rfl, by rw [hmH.out]; exact .nil _ _ _ _ _, hd1.below _⟩
  | true =>
  cases y with
  | false =>
    have hmH := Lib.hid (show detE s m n = ([], 1) by unfold detE; rw [if_neg (by rw [hy]; simp)])
    clear hx hy
    go_enter Tryz.func20, Tryz.ntmps20
    go_wp2_with fail
    refine v1H.out.mono ?_
    rintro e w1 ⟨rfl, hd1⟩
    go_wp2_with fail
    refine (v2H.out _ hd1).mono ?_
    rintro e w2 ⟨rfl, hd2⟩
    go_wp2_with fail
    go_ret2
    exact ⟨_, by rw [hmH.out]; rfl, by rw [hmH.out]; exact .nil _ _ _ _ _, (drew_trans hd1 hd2).below _⟩
  | true =>
    have cd := fun W hb => v3H.out W hb hx hy
    have cdH := Lib.hid cd
    clear cd v3H hx hy
    go_enter Tryz.func20, Tryz.ntmps20
    go_wp2_with fail
    refine v1H.out.mono ?_
    rintro e w1 ⟨rfl, hd1⟩
    go_wp2_with fail
    refine (v2H.out _ hd1).mono ?_
    rintro e w2 ⟨rfl, hd2⟩
    have hb2 := (drew_trans hd1 hd2).below w.heap.size
    go_wp2_with fail
    refine (cdH.out _ hb2).mono ?_
    rintro e w4 ⟨v, rfl, ho, hb4⟩
    have hoH := Lib.hid (OwnL.baseMono (base' := w.heap.size) ho hb2.size)
    clear ho cdH
    go_wp2_with fail
    go_ret2
    exact ⟨_, rfl, hoH.out, bcall hb2 hb4⟩
theorem detsB_eq (s : Sg) (m n : List Int) : (decide ((detE s m n).2 = 0) || decide ((detE s m n).2 = 4)) = detsB s m n := by
  by_cases hm : okT s m = true
  · by_cases hn : okT s n = true
    · rcases det_cases hm hn with ⟨h0, e⟩ | ⟨A, B, e1, e2, oA, oB, (⟨θ, hθ, e, hu⟩ | ⟨-, e, hu⟩)⟩
      · rw [e]; unfold detsB; rw [decide_eq_false h0]; simp
      · have hh : m.headD 0 = 0 := by rw [e2]; rfl
        rw [e]; unfold detsB; rw [hm, hn, decide_eq_true hh, e1]
        simp only [List.headD_cons, hu, Bool.and_true]
        unfold madeE; split <;> simp
      · have hh : m.headD 0 = 0 := by rw [e2]; rfl
        rw [e]; unfold detsB; rw [hm, hn, decide_eq_true hh, e1]
        simp only [List.headD_cons, hu, Bool.and_false]
        decide
    · have : detE s m n = ([], 1) := by unfold detE; rw [if_neg (fun h => hn h.2)]
      rw [this]; unfold detsB; rw [Bool.eq_false_iff.2 hn]; simp
  · have : detE s m n = ([], 1) := by unfold detE; rw [if_neg (fun h => hm h.1)]
    rw [this]; unfold detsB; rw [Bool.eq_false_iff.2 hm]; simp
set_option maxHeartbeats 2000000 in
theorem rDetaches_any {S1 S2 S3 : Nat → Prop} (a1 a2 a3 : Option Addr) (c1 c2 c3 : Nat) (s : Sg) (m n : List Int) (w : World) (h1 : Sign S1 w a1 c1 s) (h2 : Ints S2 w a2 c2 m) (h3 : Ints S3 w a3 c3 n) :
    Calls Tryz.prog 22 #[.slice a1 s.length c1, .slice a2 m.length c2, .slice a3 n.length c3] w fun e w' => e = .returned (.bool (detsB s m n)) ∧ Below w.heap.size w w' := by
  have m2 := h2.le
  have m3 := h3.le
  have v1 := rDetach_any a1 a2 a3 c1 c2 c3 s m n w h1 h2 h3
  have hq := detsB_eq s m n
  obtain ⟨T, E, hT⟩ : ∃ T E, detE s m n = (T, E) := ⟨_, _, rfl⟩
  rw [hT] at v1 hq
  dsimp only at hq
  have v1H := Lib.hid v1
  have hqH := Lib.hid hq
  clear v1 h1 h2 h3 hT hq
  by_cases h0 : E = 0
  · subst h0
    go_enter Tryz.func22, Tryz.ntmps22
    go_wp2_with fail
    refine v1H.out.mono ?_
    rintro e w1 ⟨v, rfl, ho, hb1⟩
    clear ho
    go_wp2_with fail
    go_ret
    exact ⟨ret_bool (by rw [← hqH.out]; rfl), hb1⟩
  · have hz : (E == 0) = false := by simpa using h0
    by_cases h4 : E = 4
    · subst h4
      go_enter Tryz.func22, Tryz.ntmps22
      go_wp2_with fail
      refine v1H.out.mono ?_
      rintro e w1 ⟨v, rfl, ho, hb1⟩
      clear ho
      go_wp2_with fail
      go_ret
      exact ⟨ret_bool (by rw [← hqH.out]; rfl), hb1⟩
    · have hz4 : (E == 4) = false := by simpa using h4
      go_enter Tryz.func22, Tryz.ntmps22
      go_wp2_with fail
      refine v1H.out.mono ?_
      rintro e w1 ⟨v, rfl, ho, hb1⟩
      clear ho
      go_wp2_with fail
      go_ret
      exact ⟨ret_bool (by rw [← hqH.out, decide_eq_false h0, decide_eq_false h4]; rfl), hb1⟩
end Go.Proofs.YthkamffmpejckaaGreatDoor

/- Walks that the laws on kernel share: shelf, Light; awake behind what came before it. -/
namespace Go.Proofs.YthkamffmpejckaaGreatDoor
open Go Go.RowKit Go.Maps

theorem Light_any {S : Nat → Prop} (a : Option Addr) (c : Nat) (p : List Stp) (w : World) (h : Steps S w a c p) :
    Calls Tryz.prog 8 #[.slice a p.length c] w fun e w' => e = .returned (.bool (decide (p.length ≤ 100))) ∧ w = w' := by
  have m := h.le
  go_enter Tryz.func8, Tryz.ntmps8
  go_wp2_with fail
  go_ret
  exact ⟨ret_bool (by rw [Bool.eq_iff_iff]; simp only [decide_eq_true_eq]; omega), rfl⟩
def shelfT (s : Sg) (g : List (List Int)) : Bool := decide (g.length ≤ 80) && smallT s g
theorem shelf_any {S1 S2 : Nat → Prop} (a1 ag : Option Addr) (c1 cg : Nat) (s : Sg) (g : List (List Int)) (w : World) (h1 : Sign S1 w a1 c1 s) (h2 : Terms S2 w ag cg g) :
    Calls Tryz.prog 7 #[.slice a1 s.length c1, .slice ag g.length cg] w fun e w' => e = .returned (.bool (shelfT s g)) ∧ w = w' := by
  have m1 := h1.le
  have m2 := h2.le
  have csH := Lib.hid (Small_any a1 ag c1 cg s g w h1 h2)
  clear h1 h2
  unfold shelfT
  by_cases h80 : g.length ≤ 80
  · have hd : decide ((g.length : Int) ≤ 80) = true := by simp; omega
    rw [decide_eq_true h80]
    go_enter Tryz.func7, Tryz.ntmps7
    go_wp2_with fail
    refine csH.out.mono ?_
    rintro e w1 ⟨rfl, rfl⟩
    go_wp2_with fail
    go_ret
    exact ⟨rfl, rfl⟩
  · have hd : decide ((g.length : Int) ≤ 80) = false := by simp; omega
    rw [decide_eq_false h80]
    go_enter Tryz.func7, Tryz.ntmps7
    go_wp2_with fail
    go_ret
    exact ⟨rfl, rfl⟩
theorem aw4_from {B : Nat} {W W' : World} (hb : Below B W W') (hB : B ≤ W.heap.size) : Calls Tryz.prog 9 #[] W' fun e w' => e = .returned (.bool true) ∧ Below B W w' :=
  (awake4_any W').mono fun _ _ h => ⟨h.1, hb.trans (h.2.mono (Nat.le_trans hB hb.size))⟩
end Go.Proofs.YthkamffmpejckaaGreatDoor

/- Walks: lemmaryref04.run, right, Run, Says. -/
namespace Go.Proofs.YthkamffmpejckaaGreatDoor
open Go Go.RowKit Go.Maps

theorem runL_drop {s : Sg} {g : List (List Int)} {p : List Stp} {k : Nat} (hk : k < p.length) (L : List (List Int)) :
    runL s g (p.drop k) L = if (stepE s g L p[k]).2 = 0 then runL s g (p.drop (k + 1)) (L ++ [(stepE s g L p[k]).1]) else (L, (stepE s g L p[k]).2) := by
  rw [List.drop_eq_getElem_cons hk, runL]
theorem keep4 {W0 w1 w2 : World} {p1 p2 p3 p4 : Addr} {v1 v2 v3 v4 : Value} (h : Below W0.heap.size W0 w1 ∧ w1.cell? p1 = some v1 ∧ w1.cell? p2 = some v2 ∧ w1.cell? p3 = some v3 ∧ w1.cell? p4 = some v4) (hb : Below w1.heap.size w1 w2) :
    Below W0.heap.size W0 w2 ∧ w2.cell? p1 = some v1 ∧ w2.cell? p2 = some v2 ∧ w2.cell? p3 = some v3 ∧ w2.cell? p4 = some v4 :=
  ⟨bcall h.1 hb, cell_later hb h.2.1, cell_later hb h.2.2.1, cell_later hb h.2.2.2.1, cell_later hb h.2.2.2.2⟩
theorem Ts_pushF {w wr w1 : World} {out : Value} {l : List (List Int)} (ho : OwnTs (fun _ => True) wr w.heap.size out l) (hB : Below w.heap.size w wr) (hB1 : Below wr.heap.size wr w1) {a : Option Addr} {c : Nat} {u : List Int} (hu : Ints (fun b => wr.heap.size ≤ b) w1 a c u) (hl : l.length + 1 ≤ 1000000) :
    ∃ v' w', RowKit.Hid ((Builtin.append_ #[24, 24] 24 #[out, .slice (some ⟨w1.heap.size, 0, none⟩) 1 1]).run Tryz.prog (w1.alloc (.cells #[.slice a u.length c] 34)) = .ok v' w') ∧ RowKit.Hid (OwnTs (fun _ => True) w' w.heap.size v' (l ++ [u])) ∧ RowKit.Hid (Below w.heap.size w w') :=
  Ts_push ho hB hB1 (hu.weak (fun b hb => ⟨trivial, fun e => by have h1 := (OwnL.lt ho b e.symm).2; have h2 : wr.heap.size ≤ b := hb; omega⟩)) hl
def rrunRel (s : Sg) (g : List (List Int)) (p : List Stp) (w : World) (out i : Value) (wr : World) : Prop :=
  ∃ (k : Nat) (L : List (List Int)), i = .int .i64 k ∧ k ≤ p.length ∧ L.length = k ∧ (∀ t ∈ L, okT s t = true) ∧ runL s g (p.drop k) L = runL s g p [] ∧ OwnTs (fun _ => True) wr w.heap.size out L ∧ Below w.heap.size w wr
set_option maxRecDepth 20000 in
set_option maxHeartbeats 4000000 in
theorem rrun_any {S1 S2 S3 : Nat → Prop} (a1 ag ap : Option Addr) (c1 cg cp : Nat) (s : Sg) (g : List (List Int)) (p : List Stp) (w : World) (h1 : Sign S1 w a1 c1 s) (h2 : Terms S2 w ag cg g) (h3 : Steps S3 w ap cp p)
    (hg : ∀ t ∈ g, okT s t = true) (hp : okSteps g.length 0 p = true) (hlp : p.length ≤ 60) :
    Calls Tryz.prog 33 #[.slice a1 s.length c1, .slice ag g.length cg, .slice ap p.length cp] w (retTE (runL s g p []) w) := by
  have m1 := h1.le
  have m2 := h2.le
  have m3 := h3.le
  have hgH := Lib.hid hg
  have hpH := Lib.hid hp
  have h1H := Lib.hid h1
  have h2H := Lib.hid h2
  have h3H := Lib.hid h3
  clear hg hp h1 h2 h3
  go_enter Tryz.func33, Tryz.ntmps33
  go_wp2_with fail
  go_loopw [8, 9] (fun out i wr => rrunRel s g p w out i wr) (fun _ i _ => p.length - (intOf i).toNat)
  case atStart => exact ⟨0, [], rfl, Nat.zero_le _, rfl, fun t h => (by cases h), rfl, .nil _ _ _ _ _, .refl _ _⟩
  case round =>
    obtain ⟨k, L, rfl, hk, hLk, hLo, hrun, ho, hB⟩ := hrel
    by_cases hlt : k < p.length
    · rw [runL_drop hlt] at hrun
      have hrb := okSteps_at hpH.out k hlt
      have hs3 := h3H.out.below hB
      obtain ⟨bp, op, rfl, -, q1, q2, q3, -⟩ := hs3.stp k hlt
      obtain ⟨⟨x1, x2, x3⟩, hx⟩ : ∃ x, p[k] = x := ⟨_, rfl⟩
      rw [hx] at hrun hrb q1 q2 q3
      dsimp only at q1 q2 q3
      by_cases hx1 : x1 = 1
      · -- a citation
        obtain ⟨r1, r2, -⟩ := rightB_cite hrb hx1
        dsimp only at r1 r2
        obtain ⟨j, rfl⟩ : ∃ j : Nat, x2 = (j : Int) := ⟨x2.toNat, by omega⟩
        have hj : j < g.length := by omega
        obtain ⟨bg, og, ag2, cg2, rfl, -, qg, hG⟩ := (h2H.out.below hB).sub j hj
        have hgo := hgH.out _ (List.getElem_mem hj)
        have hst : stepE s g L (x1, (j : Int), x3) = (canon g[j], 0) := by unfold stepE; rw [if_pos hx1]; simp [hj]
        rw [hst, if_pos rfl] at hrun
        obtain ⟨u, hu⟩ : ∃ u, g[j] = u := ⟨_, rfl⟩
        rw [hu] at hrun hgo qg hG
        have hcl := okT_canon hgo
        have cr := fun W (hb : Below wr.heap.size wr W) => Renamed_any ag2 cg2 u W (hG.below hb) (by have := (okT_parts hgo).2.2.1; unfold lim; omega) (okT_tame hgo) (okT_ne hgo)
        have hpush := fun W (hb : Below wr.heap.size wr W) a4 c4 (hi : Ints (fun b => wr.heap.size ≤ b) W a4 c4 (canon u)) => Ts_pushF ho hB hb hi (by omega)
        have hLo' : ∀ t ∈ L ++ [canon u], okT s t = true := fun t ht => by
          rcases List.mem_append.1 ht with h | h
          · exact hLo t h
          · rw [List.mem_singleton] at h; rw [h]; exact hcl
        have hLk' : (L ++ [canon u]).length = k + 1 := by rw [List.length_append, List.length_singleton, hLk]
        have crH := Lib.hid (cr wr (.refl _ _))
        have hpushH := Lib.hid hpush
        have hrunH := Lib.hid hrun
        have hLoH := Lib.hid hLo'
        have hLkH := Lib.hid hLk'
        subst hx1
        clear cr hpush hrun hLo hLo' hLk' hcl hgo hG hu hst hx hrb ho hs3 hLk
        go_wp2_with (first
          | (go_at_call 54; (with_reducible refine crH.out.mono ?_); rintro e w2 ⟨v2, rfl, ho2, hb2⟩; obtain ⟨a4, c4, rfl, hI2⟩ := OwnI.ints ho2; obtain ⟨v', w', hrun', ho', hB'⟩ := hpushH.out w2 hb2 a4 c4 hI2)
          | (at_builtin; refine wpList_append_run rfl _ _ _ rfl rfl rfl hrun'.out ?_))
        go_roundw
        case rel => exact ⟨k + 1, _, by go_num, by omega, hLkH.out, hLoH.out, hrunH.out, ho'.out, hB'.out⟩
        case measure => simp [intOf]; omega
      · -- a detachment
        obtain ⟨r0, r1, r2, r3, r4⟩ := rightB_detach hrb hx1
        dsimp only at r0 r1 r2 r3 r4
        obtain ⟨i, rfl⟩ : ∃ j : Nat, x2 = (j : Int) := ⟨x2.toNat, by omega⟩
        obtain ⟨j, rfl⟩ : ∃ j : Nat, x3 = (j : Int) := ⟨x3.toNat, by omega⟩
        have hi : i < L.length := by omega
        have hj : j < L.length := by omega
        have hst : stepE s g L (x1, (i : Int), (j : Int)) = detE s L[i] L[j] := by unfold stepE; rw [if_neg hx1]; simp [hi, hj]
        rw [hst] at hrun
        have oi := hLo _ (List.getElem_mem hi)
        have oj := hLo _ (List.getElem_mem hj)
        obtain ⟨aL, cL, rfl, hT⟩ := OwnL.sl ho
        obtain ⟨bL, oL, ai, ci, rfl, -, qi, hIi⟩ := hT.sub i hi
        obtain ⟨bL', oL', aj, cj, e', -, qj, hIj⟩ := hT.sub j hj
        simp only [Option.some.injEq, Addr.mk.injEq, and_true] at e'
        obtain ⟨rfl, rfl⟩ := e'
        obtain ⟨u, hu⟩ : ∃ u, L[i] = u := ⟨_, rfl⟩
        obtain ⟨y, hy⟩ : ∃ u, L[j] = u := ⟨_, rfl⟩
        rw [hu] at hrun oi qi hIi
        rw [hy] at hrun oj qj hIj
        have mT := hT.le
        have hs1 := h1H.out.below hB
        have cd := fun W (hb : Below wr.heap.size wr W) => rdetach_any a1 ai aj c1 ci cj s u y W (hs1.below hb) (hIi.below hb) (hIj.below hb) oi oj
        have hok : (detE s u y).2 = 0 → okT s (detE s u y).1 = true := fun h => (det_ok h).2.2
        obtain ⟨T, E, hTE⟩ : ∃ T E, detE s u y = (T, E) := ⟨_, _, rfl⟩
        rw [hTE] at hrun hok
        simp only [hTE] at cd
        dsimp only at hrun hok
        have hpush := fun W (hb : Below wr.heap.size wr W) a4 c4 (hi : Ints (fun b => wr.heap.size ≤ b) W a4 c4 T) => Ts_pushF ho hB hb hi (by omega)
        have q2d := cell_later (Below.drew (.refl wr.heap.size _)) q2
        have q3d := cell_later (Below.drew (.refl wr.heap.size _)) q3
        have qid := cell_later (Below.drew (.refl wr.heap.size _)) qi
        have qjd := cell_later (Below.drew (.refl wr.heap.size _)) qj
        have hk0 : Below wr.heap.size wr wr.drew ∧ wr.drew.cell? ⟨bp, op + k * 3 + 1, none⟩ = some (.int .i64 (i : Int)) ∧ wr.drew.cell? ⟨bp, op + k * 3 + 2, none⟩ = some (.int .i64 (j : Int)) ∧ wr.drew.cell? ⟨bL, oL + i, none⟩ = some (.slice ai u.length ci) ∧ wr.drew.cell? ⟨bL, oL + j, none⟩ = some (.slice aj y.length cj) := ⟨Below.drew (.refl wr.heap.size _), q2d, q3d, qid, qjd⟩
        have cdH := Lib.hid cd
        have hpushH := Lib.hid hpush
        have hrunH := Lib.hid hrun
        have hokH := Lib.hid hok
        have hLoH := Lib.hid hLo
        have hoH := Lib.hid ho
        subst r0
        have hLkO := Lib.hid hLk
        clear cd hpush hrun hok hLo oi oj hIi hIj hT hTE hu hy hst hx hrb ho hs3 hs1 q2 q3 qi qj q2d q3d qid qjd hx1 hLk
        go_wp2_with fail
        go_region_held3 (fun w' => Below wr.heap.size wr w' ∧ w'.cell? ⟨bp, op + k * 3 + 1, none⟩ = some (.int .i64 (i : Int)) ∧ w'.cell? ⟨bp, op + k * 3 + 2, none⟩ = some (.int .i64 (j : Int)) ∧ w'.cell? ⟨bL, oL + i, none⟩ = some (.slice ai u.length ci) ∧ w'.cell? ⟨bL, oL + j, none⟩ = some (.slice aj y.length cj))
          ((first | exact hk0 | exact keep4 ‹_› hbD))
          ((go_at_call 44; (with_reducible refine (cdH.out _ ?_).mono ?_); exact (And.left ‹_›); rintro e w2 ⟨vD, rfl, hoD, hbD⟩; obtain ⟨a4, c4, rfl, hI4⟩ := OwnI.ints hoD))
        have hB2 := And.left (‹Below wr.heap.size wr w2 ∧ _›)
        have hrun := hrunH.out
        by_cases hE : E = 0
        · rw [if_pos hE] at hrun
          have hoT := hokH.out hE
          subst hE
          obtain ⟨v', w', hrun', ho', hB'⟩ := hpushH.out w2 hB2 a4 c4 (hI4.weak (fun b hb => hb))
          have hLo' : ∀ t ∈ L ++ [T], okT s t = true := fun t ht => by
            rcases List.mem_append.1 ht with h | h
            · exact hLoH.out t h
            · rw [List.mem_singleton] at h; rw [h]; exact hoT
          have hLk' : (L ++ [T]).length = k + 1 := by rw [List.length_append, List.length_singleton, hLkO.out]
          have hrunH := Lib.hid hrun
          have hLoH := Lib.hid hLo'
          have hLkH := Lib.hid hLk'
          clear hrun hLo' hLk' hpushH hokH hoT hB2 hI4 hoD hbD hk0 cdH hoH
          go_wp2_with (at_builtin; refine wpList_append_run rfl _ _ _ rfl rfl rfl hrun'.out ?_)
          go_roundw
          case rel => exact ⟨k + 1, _, by go_num, by omega, hLkH.out, hLoH.out, hrunH.out, ho'.out, hB'.out⟩
          case measure => simp [intOf]; omega
        · rw [if_neg hE] at hrun
          have hne : (E != 0) = true := by simpa using hE
          have hrunH := Lib.hid hrun
          have hoH := Lib.hid (OwnL.call hoH.out hB2)
          have hBH := Lib.hid (bcall hB hB2)
          clear hrun hpushH hokH hB2 hI4 hoD hbD hk0 cdH
          go_wp2_with fail
          go_ret2
          rw [← hrunH.out]
          exact ⟨_, rfl, hoH.out, hBH.out⟩
    · rw [List.drop_eq_nil_of_le (by omega), runL] at hrun
      have hrunH := Lib.hid hrun
      have hoH := Lib.hid ho
      clear hrun ho
      go_wp2_with fail
      go_ret2
      rw [← hrunH.out]
      exact ⟨_, rfl, hoH.out, hB⟩
end Go.Proofs.YthkamffmpejckaaGreatDoor

/- Walks: lemmaryref04.right, Run, Says. -/
namespace Go.Proofs.YthkamffmpejckaaGreatDoor
open Go Go.RowKit Go.Maps

theorem rright_any {S1 S2 S3 : Nat → Prop} (a1 a2 a3 : Option Addr) (c1 c2 c3 : Nat) (s : Sg) (L : List (List Int)) (p : List Stp) (w : World) (h1 : Sign S1 w a1 c1 s) (h2 : Terms S2 w a2 c2 L) (h3 : Steps S3 w a3 c3 p) :
    Calls Tryz.prog 32 #[.slice a1 s.length c1, .slice a2 L.length c2, .slice a3 p.length c3] w fun e w' => e = .returned (.bool (askedB s L p)) ∧ Below w.heap.size w w' := by
  have m2 := h2.le
  have m3 := h3.le
  have v1 := rValidGivens_any a1 a2 c1 c2 s L w h1 h2
  have v2 := fun W (hb : Below w.heap.size w W) => rValidProof_any (L.length : Int) a3 c3 p W (h3.below hb)
  have hg : askedB s L p = (givensB s L && validP L.length p) := rfl
  have hl : givensB s L = true → proofB L.length p = validP L.length p := fun h => by
    have := (givensB_parts h).2.1
    unfold proofB
    rw [decide_eq_true (by omega), decide_eq_true (by omega)]; rfl
  obtain ⟨x, hx⟩ : ∃ x, givensB s L = x := ⟨_, rfl⟩
  rw [hx] at v1 hg hl
  have v1H := Lib.hid v1
  have hgH := Lib.hid hg
  cases x with
  | false =>
    clear v1 v2 h1 h2 h3 hx hg hl
    go_enter Tryz.func32, Tryz.ntmps32
    go_wp2_with fail
    refine v1H.out.mono ?_
    rintro e w1 ⟨rfl, hb1⟩
    go_wp2_with fail
    go_ret
    exact ⟨by rw [hgH.out]; rfl, hb1⟩
  | true =>
    simp only [hl rfl] at v2
    have v2H := Lib.hid v2
    clear v1 v2 h1 h2 h3 hx hg hl
    go_enter Tryz.func32, Tryz.ntmps32
    go_wp2_with fail
    refine v1H.out.mono ?_
    rintro e w1 ⟨rfl, hb1⟩
    go_wp2_with fail
    refine (v2H.out _ hb1).mono ?_
    rintro e w2 ⟨rfl, hb2⟩
    go_wp2_with fail
    go_ret
    exact ⟨by rw [hgH.out]; simp, bcall hb1 hb2⟩
set_option maxHeartbeats 1000000 in
theorem rRun_any {S1 S2 S3 : Nat → Prop} (a1 ag ap : Option Addr) (c1 cg cp : Nat) (s : Sg) (g : List (List Int)) (p : List Stp) (w : World) (h1 : Sign S1 w a1 c1 s) (h2 : Terms S2 w ag cg g) (h3 : Steps S3 w ap cp p) :
    Calls Tryz.prog 11 #[.slice a1 s.length c1, .slice ag g.length cg, .slice ap p.length cp] w (retR (runR s g p) w) := by
  have m1 := h1.le
  have m2 := h2.le
  have m3 := h3.le
  have v1 := rright_any a1 ag ap c1 cg cp s g p w h1 h2 h3
  cases hx : askedB s g p with
  | false =>
    rw [hx] at v1
    have hrH := Lib.hid (show runR s g p = ([], 0, 1) by rw [runR, hx]; rfl)
    have v1H := Lib.hid v1
    clear v1 h1 h2 h3 hx
    go_enter Tryz.func11, Tryz.ntmps11
    go_wp2_with fail
    refine v1H.out.mono ?_
    rintro e w1 ⟨rfl, hb1⟩
    go_wp2_with fail
    go_ret3
    rw [hrH.out]
    exact ⟨_, rfl, .nil _ _ _ _ _, hb1⟩
  | true =>
    rw [hx] at v1
    obtain ⟨q1, q2, -, q3⟩ := askedB_full hx
    have v2 := fun W (hb : Below w.heap.size w W) => rrun_any a1 ag ap c1 cg cp s g p W (h1.below hb) (h2.below hb) (h3.below hb) q1 q2 q3
    obtain ⟨L, E, hLE⟩ : ∃ L E, runL s g p [] = (L, E) := ⟨_, _, rfl⟩
    rw [hLE] at v2
    have hr : runR s g p = if E = 0 then (L, -1, 0) else (L, (L.length : Int), E) := by rw [runR, if_pos hx, hLE]
    have v1H := Lib.hid v1
    have v2H := Lib.hid v2
    clear v1 v2 h1 h2 h3 hx q1 q2 q3 hLE
    by_cases hE : E = 0
    · rw [if_pos hE] at hr
      subst hE
      have hrH := Lib.hid hr
      clear hr
      go_enter Tryz.func11, Tryz.ntmps11
      go_wp2_with fail
      refine v1H.out.mono ?_
      rintro e w1 ⟨rfl, hb1⟩
      go_wp2_with fail
      refine (v2H.out _ hb1).mono ?_
      rintro e w2 ⟨v, rfl, ho, hb2⟩
      have hoH := Lib.hid (OwnL.baseMono (base' := w.heap.size) ho hb1.size)
      clear ho
      go_wp2_with fail
      go_ret3
      rw [hrH.out]
      exact ⟨_, rfl, hoH.out, bcall hb1 hb2⟩
    · rw [if_neg hE] at hr
      have hne : (E != 0) = true := by simpa using hE
      have hrH := Lib.hid hr
      clear hr hE
      go_enter Tryz.func11, Tryz.ntmps11
      go_wp2_with fail
      refine v1H.out.mono ?_
      rintro e w1 ⟨rfl, hb1⟩
      go_wp2_with fail
      refine (v2H.out _ hb1).mono ?_
      rintro e w2 ⟨v, rfl, ho, hb2⟩
      obtain ⟨aL, cL, rfl, -⟩ := OwnL.sl ho
      have hoH := Lib.hid (OwnL.baseMono (base' := w.heap.size) ho hb1.size)
      clear ho
      go_wp2_with fail
      go_ret3
      rw [hrH.out]
      exact ⟨_, rfl, hoH.out, bcall hb1 hb2⟩
theorem runL_ok0 {s : Sg} {g : List (List Int)} {p : List Stp} (h : askedB s g p = true) (h0 : (runL s g p []).2 = 0) : (runL s g p []).1.length = p.length := by
  obtain ⟨q1, q2, q4, q3⟩ := askedB_full h
  have := (runL_okT q1 p [] (fun t h => by cases h) q2).2.1 h0
  simpa using this
set_option maxHeartbeats 1000000 in
theorem rSays_any {S1 S2 S3 : Nat → Prop} (a1 ag ap : Option Addr) (c1 cg cp : Nat) (s : Sg) (g : List (List Int)) (p : List Stp) (w : World) (h1 : Sign S1 w a1 c1 s) (h2 : Terms S2 w ag cg g) (h3 : Steps S3 w ap cp p) :
    Calls Tryz.prog 16 #[.slice a1 s.length c1, .slice ag g.length cg, .slice ap p.length cp] w (retS (saysE s g p) w) := by
  have m1 := h1.le
  have m2 := h2.le
  have m3 := h3.le
  have v1 := rright_any a1 ag ap c1 cg cp s g p w h1 h2 h3
  cases hx : askedB s g p with
  | false =>
    rw [hx] at v1
    have hrH := Lib.hid (show saysE s g p = ([], 1) by rw [saysE, hx]; rfl)
    have v1H := Lib.hid v1
    clear v1 h1 h2 h3 hx
    go_enter Tryz.func16, Tryz.ntmps16
    go_wp2_with fail
    refine v1H.out.mono ?_
    rintro e w1 ⟨rfl, hb1⟩
    go_wp2_with fail
    go_ret2
    rw [hrH.out]
    exact ⟨_, _, rfl, Sl.empty, hb1⟩
  | true =>
    rw [hx] at v1
    obtain ⟨q1, q2, q4, q3⟩ := askedB_full hx
    have hok := runL_ok0 hx
    have v2 := fun W (hb : Below w.heap.size w W) => rrun_any a1 ag ap c1 cg cp s g p W (h1.below hb) (h2.below hb) (h3.below hb) q1 q2 q3
    have hs : saysE s g p = if (runL s g p []).2 = 0 then ((runL s g p []).1.getLastD [], 0) else ([], (runL s g p []).2) := by rw [saysE, if_pos hx]
    obtain ⟨L, E, hLE⟩ : ∃ L E, runL s g p [] = (L, E) := ⟨_, _, rfl⟩
    rw [hLE] at v2 hs hok
    dsimp only at hs hok
    have v1H := Lib.hid v1
    have v2H := Lib.hid v2
    clear v1 v2 h1 h2 h3 hx q1 q2 hLE
    by_cases hE : E = 0
    · rw [if_pos hE] at hs
      have hl := hok hE
      have hl1 : 1 ≤ L.length := by omega
      have hl2 : L.length ≤ 60 := by omega
      subst hE
      have hSH := Lib.hid hs
      have e1 : IntKind.i64.wrap ((L.length : Int) - 1) = ((L.length - 1 : Nat) : Int) := by rw [IntWalk.i64_in _ (by omega)]; omega
      clear hs hok hl q3 q4
      go_enter Tryz.func16, Tryz.ntmps16
      go_wp2_with fail
      refine v1H.out.mono ?_
      rintro e w1 ⟨rfl, hb1⟩
      go_wp2_with fail
      refine (v2H.out _ hb1).mono ?_
      rintro e w2 ⟨v, rfl, ho, hb2⟩
      obtain ⟨a, c, rfl, hT⟩ := OwnL.sl ho
      obtain ⟨b1, o1, a4, c4, rfl, -, r1, hA⟩ := hT.sub (L.length - 1) (by simp only; omega)
      dsimp only at r1 hA
      have hq : L[L.length - 1] = L.getLastD [] := by
        rw [List.getLastD_eq_getLast?, List.getLast?_eq_getElem?, List.getElem?_eq_getElem (by omega)]; rfl
      obtain ⟨z, hz⟩ : ∃ z, L.getLastD [] = z := ⟨_, rfl⟩
      rw [hq, hz] at r1 hA
      have hS := hSH.out
      rw [hz] at hS
      have hSK := Lib.hid hS
      have hAH := Lib.hid hA.any
      clear ho hT hA hq hS hSH hz
      go_wp2_with fail
      all_goals go_ret2
      all_goals rw [hSK.out]
      all_goals exact ⟨_, _, rfl, hAH.out, bcall hb1 hb2⟩
    · rw [if_neg hE] at hs
      have hne : (E != 0) = true := by simpa using hE
      have hSH := Lib.hid hs
      clear hs hE hok q3 q4
      go_enter Tryz.func16, Tryz.ntmps16
      go_wp2_with fail
      refine v1H.out.mono ?_
      rintro e w1 ⟨rfl, hb1⟩
      go_wp2_with fail
      refine (v2H.out _ hb1).mono ?_
      rintro e w2 ⟨v, rfl, ho, hb2⟩
      obtain ⟨aL, cL, rfl, -⟩ := OwnL.sl ho
      clear ho
      go_wp2_with fail
      go_ret2
      rw [hSH.out]
      exact ⟨_, _, rfl, Sl.empty, bcall hb1 hb2⟩
end Go.Proofs.YthkamffmpejckaaGreatDoor

/- Walks: Check and Proves, of package kernel and of the reference. -/
namespace Go.Proofs.YthkamffmpejckaaGreatDoor
open Go Go.RowKit Go.Maps

noncomputable def checkE (s : Sg) (g : List (List Int)) (p : List Stp) (t : List Int) : Int × Int :=
  if askedB s g p = true then (if okT s t = true then (if (runL s g p []).2 = 0 then (if (okT s ((runL s g p []).1.getLastD []) && okT s t && instB s ((runL s g p []).1.getLastD []) t) = true then (-1, 0) else (((runL s g p []).1.length : Int) - 1, 11)) else (((runL s g p []).1.length : Int), (runL s g p []).2)) else (0, 1)) else (0, 1)
set_option maxHeartbeats 2000000 in
theorem Check_any {S1 S2 S3 S4 : Nat → Prop} (a1 ag ap at_ : Option Addr) (c1 cg cp ct : Nat) (s : Sg) (g : List (List Int)) (p : List Stp) (t : List Int) (w : World) (h1 : Sign S1 w a1 c1 s) (h2 : Terms S2 w ag cg g) (h3 : Steps S3 w ap cp p) (h4 : Ints S4 w at_ ct t) :
    Calls Tryz.prog 24 #[.slice a1 s.length c1, .slice ag g.length cg, .slice ap p.length cp, .slice at_ t.length ct] w fun e w' => e = .returned (.tuple #[.int .i64 (checkE s g p t).1, .int .i64 (checkE s g p t).2]) ∧ Below w.heap.size w w' := by
  have m1 := h1.le
  have m2 := h2.le
  have m3 := h3.le
  have m4 := h4.le
  have v1 := asked_any a1 ag ap c1 cg cp s g p w h1 h2 h3
  cases hx : askedB s g p with
  | false =>
    rw [hx] at v1
    have hrH := Lib.hid (show checkE s g p t = (0, 1) by rw [checkE, hx]; rfl)
    have v1H := Lib.hid v1
    clear v1 h1 h2 h3 h4 hx
    go_enter Tryz.func24, Tryz.ntmps24
    go_wp2_with fail
    refine v1H.out.mono ?_
    rintro e w1 ⟨rfl, hb1⟩
    go_wp2_with fail
    go_ret2
    rw [hrH.out]
    exact ⟨rfl, hb1⟩
  | true =>
  rw [hx] at v1
  have v2 := fun W (hb : Below w.heap.size w W) => Valid_any a1 at_ c1 ct s t W (h1.below hb) (h4.below hb)
  cases hy : okT s t with
  | false =>
    simp only [hy] at v2
    have hrH := Lib.hid (show checkE s g p t = (0, 1) by rw [checkE, hx, hy]; rfl)
    have v1H := Lib.hid v1
    have v2H := Lib.hid v2
    clear v1 v2 h1 h2 h3 h4 hx hy
    go_enter Tryz.func24, Tryz.ntmps24
    go_wp2_with fail
    refine v1H.out.mono ?_
    rintro e w1 ⟨rfl, hb1⟩
    go_wp2_with fail
    refine (v2H.out _ hb1).mono ?_
    rintro e w2 ⟨rfl, hb2⟩
    have hb2 : Below w1.heap.size w1 w2 := hb2
    go_wp2_with fail
    go_ret2
    rw [hrH.out]
    exact ⟨rfl, bcall hb1 hb2⟩
  | true =>
  simp only [hy] at v2
  obtain ⟨q1, q2, q4, q3⟩ := askedB_full hx
  have hok := runL_ok0 hx
  have v3 := fun W (hb : Below w.heap.size w W) => krun_any a1 ag ap c1 cg cp s g p W (h1.below hb) (h2.below hb) (h3.below hb) q1 q2 q3
  have hs : checkE s g p t = if (runL s g p []).2 = 0 then (if (okT s ((runL s g p []).1.getLastD []) && okT s t && instB s ((runL s g p []).1.getLastD []) t) = true then (-1, 0) else (((runL s g p []).1.length : Int) - 1, 11)) else (((runL s g p []).1.length : Int), (runL s g p []).2) := by rw [checkE, if_pos hx, if_pos hy]
  obtain ⟨L, E, hLE⟩ : ∃ L E, runL s g p [] = (L, E) := ⟨_, _, rfl⟩
  rw [hLE] at v3 hs hok
  dsimp only at hs hok
  have v1H := Lib.hid v1
  have v2H := Lib.hid v2
  have v3H := Lib.hid v3
  by_cases hE : E = 0
  · rw [if_pos hE] at hs
    have hl := hok hE
    have hl1 : 1 ≤ L.length := by omega
    have hl2 : L.length ≤ 60 := by omega
    subst hE
    have e1 : IntKind.i64.wrap ((L.length : Int) - 1) = ((L.length - 1 : Nat) : Int) := by rw [IntWalk.i64_in _ (by omega)]; omega
    obtain ⟨z, hz⟩ : ∃ z, L.getLastD [] = z := ⟨_, rfl⟩
    rw [hz] at hs
    have cI := fun (S : Nat → Prop) W (hb : Below w.heap.size w W) az cz (hi : Ints S W az cz z) => Instance_any a1 az at_ c1 cz ct s z t W (h1.below hb) hi (h4.below hb)
    obtain ⟨d, hd⟩ : ∃ d, (okT s z && okT s t && instB s z t) = d := ⟨_, rfl⟩
    rw [hd] at hs
    simp only [hd] at cI
    have cIH := Lib.hid cI
    have hq : ∀ h : L.length - 1 < L.length, L[L.length - 1]'h = z := fun h => by
      rw [← hz, List.getLastD_eq_getLast?, List.getLast?_eq_getElem?, List.getElem?_eq_getElem h]; rfl
    have hqH := Lib.hid hq
    have hSH := Lib.hid hs
    clear v1 v2 v3 hs hok hl q1 q2 q3 q4 h1 h2 h3 h4 hd hx hy hLE cI hz hq
    go_enter Tryz.func24, Tryz.ntmps24
    go_wp2_with fail
    refine v1H.out.mono ?_
    rintro e w1 ⟨rfl, hb1⟩
    go_wp2_with fail
    refine (v2H.out _ hb1).mono ?_
    rintro e w2 ⟨rfl, hb2⟩
    have hb2 : Below w1.heap.size w1 w2 := hb2
    have hb2' := bcall hb1 hb2
    clear hb1 hb2
    go_wp2_with fail
    refine (v3H.out _ hb2').mono ?_
    rintro e w3 ⟨v, rfl, ho, hb3⟩
    have hb3' := bcall hb2' hb3
    obtain ⟨a, c, rfl, hT⟩ := OwnL.sl ho
    obtain ⟨b1, o1, a4, c4, rfl, -, r1, hA⟩ := hT.sub (L.length - 1) (by simp only; omega)
    dsimp only at r1 hA
    simp only [hqH.out] at r1 hA
    have cc := Lib.hid (cIH.out _ _ hb3' _ _ hA)
    clear ho hT hA hqH hb2' hb3 cIH v1H v2H v3H
    go_wp2_with fail
    refine cc.out.mono ?_
    rintro e w4 ⟨rfl, hb4⟩
    have hb4' := Lib.hid (bcall hb3' hb4)
    clear hb3' hb4 cc
    have hS := hSH.out
    cases d with
    | false =>
      rw [if_neg (by decide)] at hS
      have hSK := Lib.hid hS
      clear hS hSH
      go_wp2_with fail
      go_ret2
      rw [hSK.out]
      exact ⟨by simp only [← e1]; rw [IntWalk.i64_in _ (by omega)]; rfl, hb4'.out⟩
    | true =>
      rw [if_pos rfl] at hS
      have hSK := Lib.hid hS
      clear hS hSH
      go_wp2_with fail
      go_ret2
      rw [hSK.out]
      exact ⟨rfl, hb4'.out⟩
  · rw [if_neg hE] at hs
    have hne : (E != 0) = true := by simpa using hE
    have hSH := Lib.hid hs
    clear v1 v2 v3 hs hE hok q1 q2 q3 q4 h1 h2 h3 h4 hx hy hLE
    go_enter Tryz.func24, Tryz.ntmps24
    go_wp2_with fail
    refine v1H.out.mono ?_
    rintro e w1 ⟨rfl, hb1⟩
    go_wp2_with fail
    refine (v2H.out _ hb1).mono ?_
    rintro e w2 ⟨rfl, hb2⟩
    have hb2 : Below w1.heap.size w1 w2 := hb2
    have hb2' := bcall hb1 hb2
    go_wp2_with fail
    refine (v3H.out _ hb2').mono ?_
    rintro e w3 ⟨v, rfl, ho, hb3⟩
    obtain ⟨aL, cL, rfl, -⟩ := OwnL.sl ho
    have hb3' := Lib.hid (bcall hb2' hb3)
    clear ho hb1 hb2 hb2' hb3
    go_wp2_with fail
    go_ret2
    rw [hSH.out]
    exact ⟨rfl, hb3'.out⟩
theorem Proves_any {S1 S2 S3 S4 : Nat → Prop} (a1 ag ap at_ : Option Addr) (c1 cg cp ct : Nat) (s : Sg) (g : List (List Int)) (p : List Stp) (t : List Int) (w : World) (h1 : Sign S1 w a1 c1 s) (h2 : Terms S2 w ag cg g) (h3 : Steps S3 w ap cp p) (h4 : Ints S4 w at_ ct t) :
    Calls Tryz.prog 26 #[.slice a1 s.length c1, .slice ag g.length cg, .slice ap p.length cp, .slice at_ t.length ct] w fun e w' => e = .returned (.bool ((checkE s g p t).2 == 0)) ∧ Below w.heap.size w w' := by
  have m1 := h1.le
  have m2 := h2.le
  have m3 := h3.le
  have m4 := h4.le
  have cc := Lib.hid (Check_any a1 ag ap at_ c1 cg cp ct s g p t w h1 h2 h3 h4)
  obtain ⟨⟨i, E⟩, hc⟩ : ∃ x, checkE s g p t = x := ⟨_, rfl⟩
  rw [hc] at cc
  rw [hc]
  clear h1 h2 h3 h4 hc
  go_enter Tryz.func26, Tryz.ntmps26
  go_wp2_with fail
  refine cc.out.mono ?_
  rintro e w1 ⟨rfl, hb1⟩
  go_wp2_with fail
  go_ret
  exact ⟨rfl, hb1⟩
set_option maxHeartbeats 2000000 in
theorem rCheck_any {S1 S2 S3 S4 : Nat → Prop} (a1 ag ap at_ : Option Addr) (c1 cg cp ct : Nat) (s : Sg) (g : List (List Int)) (p : List Stp) (t : List Int) (w : World) (h1 : Sign S1 w a1 c1 s) (h2 : Terms S2 w ag cg g) (h3 : Steps S3 w ap cp p) (h4 : Ints S4 w at_ ct t) :
    Calls Tryz.prog 25 #[.slice a1 s.length c1, .slice ag g.length cg, .slice ap p.length cp, .slice at_ t.length ct] w fun e w' => e = .returned (.tuple #[.int .i64 (checkE s g p t).1, .int .i64 (checkE s g p t).2]) ∧ Below w.heap.size w w' := by
  have m1 := h1.le
  have m2 := h2.le
  have m3 := h3.le
  have m4 := h4.le
  have v1 := rright_any a1 ag ap c1 cg cp s g p w h1 h2 h3
  cases hx : askedB s g p with
  | false =>
    rw [hx] at v1
    have hrH := Lib.hid (show checkE s g p t = (0, 1) by rw [checkE, hx]; rfl)
    have v1H := Lib.hid v1
    clear v1 h1 h2 h3 h4 hx
    go_enter Tryz.func25, Tryz.ntmps25
    go_wp2_with fail
    refine v1H.out.mono ?_
    rintro e w1 ⟨rfl, hb1⟩
    go_wp2_with fail
    go_ret2
    rw [hrH.out]
    exact ⟨rfl, hb1⟩
  | true =>
  rw [hx] at v1
  have v2 := fun W (hb : Below w.heap.size w W) => rValid_any a1 at_ c1 ct s t W (h1.below hb) (h4.below hb)
  cases hy : okT s t with
  | false =>
    simp only [hy] at v2
    have hrH := Lib.hid (show checkE s g p t = (0, 1) by rw [checkE, hx, hy]; rfl)
    have v1H := Lib.hid v1
    have v2H := Lib.hid v2
    clear v1 v2 h1 h2 h3 h4 hx hy
    go_enter Tryz.func25, Tryz.ntmps25
    go_wp2_with fail
    refine v1H.out.mono ?_
    rintro e w1 ⟨rfl, hb1⟩
    go_wp2_with fail
    refine (v2H.out _ hb1).mono ?_
    rintro e w2 ⟨rfl, hb2⟩
    have hb2 : Below w1.heap.size w1 w2 := hb2.below _
    go_wp2_with fail
    go_ret2
    rw [hrH.out]
    exact ⟨rfl, bcall hb1 hb2⟩
  | true =>
  simp only [hy] at v2
  obtain ⟨q1, q2, q4, q3⟩ := askedB_full hx
  have hok := runL_ok0 hx
  have v3 := fun W (hb : Below w.heap.size w W) => rrun_any a1 ag ap c1 cg cp s g p W (h1.below hb) (h2.below hb) (h3.below hb) q1 q2 q3
  have hs : checkE s g p t = if (runL s g p []).2 = 0 then (if (okT s ((runL s g p []).1.getLastD []) && okT s t && instB s ((runL s g p []).1.getLastD []) t) = true then (-1, 0) else (((runL s g p []).1.length : Int) - 1, 11)) else (((runL s g p []).1.length : Int), (runL s g p []).2) := by rw [checkE, if_pos hx, if_pos hy]
  obtain ⟨L, E, hLE⟩ : ∃ L E, runL s g p [] = (L, E) := ⟨_, _, rfl⟩
  rw [hLE] at v3 hs hok
  dsimp only at hs hok
  have v1H := Lib.hid v1
  have v2H := Lib.hid v2
  have v3H := Lib.hid v3
  by_cases hE : E = 0
  · rw [if_pos hE] at hs
    have hl := hok hE
    have hl1 : 1 ≤ L.length := by omega
    have hl2 : L.length ≤ 60 := by omega
    subst hE
    have e1 : IntKind.i64.wrap ((L.length : Int) - 1) = ((L.length - 1 : Nat) : Int) := by rw [IntWalk.i64_in _ (by omega)]; omega
    obtain ⟨z, hz⟩ : ∃ z, L.getLastD [] = z := ⟨_, rfl⟩
    rw [hz] at hs
    have cI := fun (S : Nat → Prop) W (hb : Below w.heap.size w W) az cz (hi : Ints S W az cz z) => rInstance_any a1 az at_ c1 cz ct s z t W (h1.below hb) hi (h4.below hb)
    obtain ⟨d, hd⟩ : ∃ d, (okT s z && okT s t && instB s z t) = d := ⟨_, rfl⟩
    rw [hd] at hs
    simp only [hd] at cI
    have cIH := Lib.hid cI
    have hq : ∀ h : L.length - 1 < L.length, L[L.length - 1]'h = z := fun h => by
      rw [← hz, List.getLastD_eq_getLast?, List.getLast?_eq_getElem?, List.getElem?_eq_getElem h]; rfl
    have hqH := Lib.hid hq
    have hSH := Lib.hid hs
    clear v1 v2 v3 hs hok hl q1 q2 q3 q4 h1 h2 h3 h4 hd hx hy hLE cI hz hq
    go_enter Tryz.func25, Tryz.ntmps25
    go_wp2_with fail
    refine v1H.out.mono ?_
    rintro e w1 ⟨rfl, hb1⟩
    go_wp2_with fail
    refine (v2H.out _ hb1).mono ?_
    rintro e w2 ⟨rfl, hb2⟩
    have hb2 : Below w1.heap.size w1 w2 := hb2.below _
    have hb2' := bcall hb1 hb2
    clear hb1 hb2
    go_wp2_with fail
    refine (v3H.out _ hb2').mono ?_
    rintro e w3 ⟨v, rfl, ho, hb3⟩
    have hb3' := bcall hb2' hb3
    obtain ⟨a, c, rfl, hT⟩ := OwnL.sl ho
    obtain ⟨b1, o1, a4, c4, rfl, -, r1, hA⟩ := hT.sub (L.length - 1) (by simp only; omega)
    dsimp only at r1 hA
    simp only [hqH.out] at r1 hA
    have cc := Lib.hid (cIH.out _ _ hb3' _ _ hA)
    clear ho hT hA hqH hb2' hb3 cIH v1H v2H v3H
    go_wp2_with fail
    refine cc.out.mono ?_
    rintro e w4 ⟨rfl, hb4⟩
    have hb4' := Lib.hid (bcall hb3' hb4)
    clear hb3' hb4 cc
    have hS := hSH.out
    cases d with
    | false =>
      rw [if_neg (by decide)] at hS
      have hSK := Lib.hid hS
      clear hS hSH
      go_wp2_with fail
      go_ret2
      rw [hSK.out]
      exact ⟨by simp only [← e1]; rw [IntWalk.i64_in _ (by omega)]; rfl, hb4'.out⟩
    | true =>
      rw [if_pos rfl] at hS
      have hSK := Lib.hid hS
      clear hS hSH
      go_wp2_with fail
      go_ret2
      rw [hSK.out]
      exact ⟨rfl, hb4'.out⟩
  · rw [if_neg hE] at hs
    have hne : (E != 0) = true := by simpa using hE
    have hSH := Lib.hid hs
    clear v1 v2 v3 hs hE hok q1 q2 q3 q4 h1 h2 h3 h4 hx hy hLE
    go_enter Tryz.func25, Tryz.ntmps25
    go_wp2_with fail
    refine v1H.out.mono ?_
    rintro e w1 ⟨rfl, hb1⟩
    go_wp2_with fail
    refine (v2H.out _ hb1).mono ?_
    rintro e w2 ⟨rfl, hb2⟩
    have hb2 : Below w1.heap.size w1 w2 := hb2.below _
    have hb2' := bcall hb1 hb2
    go_wp2_with fail
    refine (v3H.out _ hb2').mono ?_
    rintro e w3 ⟨v, rfl, ho, hb3⟩
    obtain ⟨aL, cL, rfl, -⟩ := OwnL.sl ho
    have hb3' := Lib.hid (bcall hb2' hb3)
    clear ho hb1 hb2 hb2' hb3
    go_wp2_with fail
    go_ret2
    rw [hSH.out]
    exact ⟨rfl, hb3'.out⟩
end Go.Proofs.YthkamffmpejckaaGreatDoor

/- The law KernelChecks, walked. -/
namespace Go.Proofs.YthkamffmpejckaaGreatDoor
open Go Go.RowKit Go.Maps

set_option maxRecDepth 100000 in
set_option maxHeartbeats 8000000 in
theorem KernelChecks_walk {S1 S2 S3 S4 : Nat → Prop} (a1 : Option Addr) (k1 : Nat) (s : Sg) (ag : Option Addr) (cg : Nat) (g : List (List Int)) (a0 : Option Addr) (c0 : Nat) (p : List Stp) (at_ : Option Addr) (ct : Nat) (t : List Int) (w : World) (h1 : Sign S1 w a1 k1 s) (h2 : Terms S2 w ag cg g) (h3 : Steps S3 w a0 c0 p) (h4 : Ints S4 w at_ ct t) :
    Calls Tryz.prog 5 #[.slice a1 s.length k1, .agg #[.slice ag g.length cg, .slice a0 p.length c0, .slice at_ t.length ct]] w fun e w' => e = .returned (.bool true) ∧ Below w.heap.size w w' := by
  have m1 := h1.le
  have m2 := h2.le
  have m3 := h3.le
  have m4 := h4.le
  obtain ⟨W, hW⟩ : ∃ W, w.alloc (.cells #[.slice ag g.length cg, .slice a0 p.length c0, .slice at_ t.length ct] 44) = W := ⟨_, rfl⟩
  have hB : Below w.heap.size w W := by rw [← hW]; exact below1 w _
  have q0 : W.cell? ⟨w.heap.size, 0, none⟩ = some (.slice ag g.length cg) := by rw [← hW]; clear hW; go_simp
  have q1 : W.cell? ⟨w.heap.size, 1, none⟩ = some (.slice a0 p.length c0) := by rw [← hW]; clear hW; go_simp
  have q2 : W.cell? ⟨w.heap.size, 2, none⟩ = some (.slice at_ t.length ct) := by rw [← hW]; clear hW; go_simp
  have cl := Lib.hid (shelf_any a1 ag k1 cg s g W (h1.below hB) (h2.below hB))
  have ci := Lib.hid (Light_any a0 c0 p W (h3.below hB))
  obtain ⟨W2, hW2⟩ : ∃ W2, W.alloc (.cells #[.slice at_ t.length ct] 34) = W2 := ⟨_, rfl⟩
  have hb2 : Below W.heap.size W W2 := by rw [← hW2]; exact below1 W _
  have hB2 : Below w.heap.size w W2 := bcall hB hb2
  have hTs := Sl.new (E := slE intE) (S := fun _ => True) W [[.slice at_ t.length ct]] [t] 34 rfl (by unfold big; simp) (fun i g1 g2 => by
      match i, g1 with
      | 0, _ => exact ⟨_, _, rfl, (h4.below hB).any⟩)
  have csH := Lib.hid (Small_any a1 (some ⟨W.heap.size, 0, none⟩) k1 1 s [t] W2 (h1.below hB2) (by rw [← hW2]; exact hTs.any))
  have awH := Lib.hid (fun W' (hb : Below w.heap.size w W') => aw4_from hb (Nat.le_refl _))
  have kc := Lib.hid (fun W (hb : Below w.heap.size w W) => Check_any a1 ag a0 at_ k1 cg c0 ct s g p t W (h1.below hb) (h2.below hb) (h3.below hb) (h4.below hb))
  have rc := Lib.hid (fun W (hb : Below w.heap.size w W) => rCheck_any a1 ag a0 at_ k1 cg c0 ct s g p t W (h1.below hb) (h2.below hb) (h3.below hb) (h4.below hb))
  have kp := Lib.hid (fun W (hb : Below w.heap.size w W) => Proves_any a1 ag a0 at_ k1 cg c0 ct s g p t W (h1.below hb) (h2.below hb) (h3.below hb) (h4.below hb))
  have qb0 := cell_later hb2 q0
  have qb1 := cell_later hb2 q1
  have qb2 := cell_later hb2 q2
  have hBH := Lib.hid hB
  have hB2H := Lib.hid hB2
  clear h1 h2 h3 h4 hTs hB hB2 hb2
  cases hsh : shelfT s g with
  | false =>
    rw [hsh] at cl
    go_enter Tryz.func5, Tryz.ntmps5
    go_upto_region 1 with fail
    try rw [hW]
    go_wp2_with fail
    refine cl.out.mono ?_
    rintro e w1 ⟨rfl, rfl⟩
    go_wp2_with fail
    refine (awH.out _ hBH.out).mono ?_
    rintro e w2 ⟨rfl, hb2⟩
    go_wp2_with fail
    go_ret
    exact ⟨rfl, hb2⟩
  | true =>
  rw [hsh] at cl
  cases hp : decide (p.length ≤ 100) with
  | false =>
    rw [hp] at ci
    go_enter Tryz.func5, Tryz.ntmps5
    go_upto_region 1 with fail
    try rw [hW]
    go_wp2_with fail
    refine cl.out.mono ?_
    rintro e w1 ⟨rfl, rfl⟩
    go_wp2_with fail
    refine ci.out.mono ?_
    rintro e w1 ⟨rfl, rfl⟩
    go_wp2_with fail
    refine (awH.out _ hBH.out).mono ?_
    rintro e w2 ⟨rfl, hb2⟩
    go_wp2_with fail
    go_ret
    exact ⟨rfl, hb2⟩
  | true =>
  rw [hp] at ci
  cases hsm : smallT s [t] with
  | false =>
    rw [hsm] at csH
    go_enter Tryz.func5, Tryz.ntmps5
    go_upto_region 1 with fail
    try rw [hW]
    go_wp2_with fail
    refine cl.out.mono ?_
    rintro e w1 ⟨rfl, rfl⟩
    go_wp2_with fail
    refine ci.out.mono ?_
    rintro e w1 ⟨rfl, rfl⟩
    go_wp2_with fail
    try rw [hW2]
    refine csH.out.mono ?_
    rintro e w1 ⟨rfl, rfl⟩
    go_wp2_with fail
    refine (awH.out _ hB2H.out).mono ?_
    rintro e w2 ⟨rfl, hb2⟩
    go_wp2_with fail
    go_ret
    exact ⟨rfl, hb2⟩
  | true =>
  rw [hsm] at csH
  obtain ⟨⟨i, E⟩, hc⟩ : ∃ x, checkE s g p t = x := ⟨_, rfl⟩
  rw [hc] at kc rc kp
  go_enter Tryz.func5, Tryz.ntmps5
  go_upto_region 1 with fail
  try rw [hW]
  go_wp2_with fail
  refine cl.out.mono ?_
  rintro e w1 ⟨rfl, rfl⟩
  go_wp2_with fail
  refine ci.out.mono ?_
  rintro e w1 ⟨rfl, rfl⟩
  go_wp2_with fail
  try rw [hW2]
  refine csH.out.mono ?_
  rintro e w1 ⟨rfl, rfl⟩
  clear hW hW2 cl ci csH hc hsm hp hsh q0 q1 q2 hBH
  go_wp2_with fail
  refine (kc.out _ hB2H.out).mono ?_
  rintro e w3 ⟨rfl, hb3⟩
  have qc0 := cell_later hb3 qb0
  have qc1 := cell_later hb3 qb1
  have qc2 := cell_later hb3 qb2
  have hb3' := bcall hB2H.out hb3
  clear qb0 qb1 qb2 hb3 kc
  go_wp2_with fail
  refine (rc.out _ hb3').mono ?_
  rintro e w4 ⟨rfl, hb4⟩
  have qd0 := cell_later hb4 qc0
  have qd1 := cell_later hb4 qc1
  have qd2 := cell_later hb4 qc2
  have hb4' := bcall hb3' hb4
  clear qc0 qc1 qc2 hb4 rc hb3'
  go_wp2_with fail
  refine (kp.out _ hb4').mono ?_
  rintro e w5 ⟨rfl, hb5⟩
  have aw := Lib.hid (awH.out _ (bcall hb4' hb5))
  clear qd0 qd1 qd2 hb4' hb5 kp
  go_wp2_with fail
  refine aw.out.mono ?_
  rintro e w6 ⟨rfl, hb6⟩
  go_wp2_with fail
  go_ret
  exact ⟨by simp, hb6⟩
end Go.Proofs.YthkamffmpejckaaGreatDoor

/- The card of KernelChecks: for every input KernelChecks returns true and leaves its arguments as they were; the listed variables are tied to the program's text. No condition. -/
namespace Go.Proofs.YthkamffmpejckaaGreatDoor
open Go Go.RowKit Go.ChangeShapes Go.WideShapes Go.ChangeAt

theorem kernelChecks_door (os : Os) (args : Array Value) : laidMetH Tryz.prog Rows.kernelChecksRow.laid ((World.doorLaid Tryz.prog 400 os).forCall (fun _ _ => 0) ⟨#[], args, []⟩).memory :=
  laidMetH_of_parts3 (fuel := 8) (laidMet_of_run' 8 (by kernel_rfl) (by kernel_rfl)) (by kernel_rfl) (by kernel_rfl)
set_option maxRecDepth 100000 in
theorem kernelChecks_lifted (os : Os) (started : os.Started) (H : Type) (enc : TypeId × Value → H) :
    ReturnsInHanded {} Tryz.checked os 5 .any (fun w args => (Rows.kernelChecksSpec.pre enc Tryz.prog Tryz.f5 [] false w args ∧ laidMetH Tryz.prog Rows.kernelChecksRow.laid w) ∧ sizedMet enc Tryz.prog Tryz.f5 (OpenSpec.ofChange Rows.kernelChecksSpec) false w args)
      (Rows.kernelChecksSpec.post enc Tryz.prog Tryz.f5 false true false false) := by
  refine returnsInHanded_of_change_and (C := Tryz.checked) (X := fun w _ => laidMetH Tryz.prog Rows.kernelChecksRow.laid w) (fun _ _ _ hh h => h.of_heap hh) Tryz.own started (by kernel_rfl) Tryz.func5
    (ChangeSpec.witness_shaped (enc := enc) (C := Tryz.checked) (os := os) (X := fun w _ => laidMetH Tryz.prog Rows.kernelChecksRow.laid w) false (World.doorLaid Tryz.prog 400 os) #[.slice none 0 0, .agg #[.slice none 0 0, .slice none 0 0, .slice none 0 0]] 8 rfl (World.shaped_of_RefB (by kernel_rfl) (by kernel_rfl)) (by kernel_rfl) (by kernel_rfl) (by kernel_rfl) (kernelChecks_door os _)) ?_
  intro W base args ds gs before hval0 hW _ _ hL _
  clear hL
  have hval : ∀ (j : Nat) t v, Tryz.f5.params[j]? = some t → args[j]? = some v → Value.okWide Tryz.prog W .any base t v := hval0
  have hW' := hW
  obtain ⟨p, q, hA0, hV, rfl, hfz, hnd⟩ := hW
  have hA : DataW.TrodAll enc Tryz.prog W 0 (fun _ => true) true Tryz.f5.params.toList args.toList ds p := hA0
  rw [Tryz.params5] at hA hval
  obtain ⟨v0, v1, d0, d1, p0, p1, rfl, rfl, rfl, h0, h1⟩ := trodAll_two hA
  obtain ⟨rfl, rfl⟩ := trodVars_none hV
  clear hA0 hval0
  simp only [List.append_nil] at hW'
  have hlt : ∀ x ∈ p0 ++ p1, x.block < W.heap.size := fun x hx => hW'.lt x (by simpa using hx)
  have keep0 := fun (W' : World) (hn : Below W.heap.size W W') => Below.trod Tryz.laidOut (by kernel_rfl) (of_decide_eq_true (by kernel_rfl)) h0 hn (fun x hx => hlt x (by simp [hx]))
  have keep1 := fun (W' : World) (hn : Below W.heap.size W W') => Below.trod Tryz.laidOut (by kernel_rfl) (of_decide_eq_true (by kernel_rfl)) h1 hn (fun x hx => hlt x (by simp [hx]))
  obtain ⟨l0, a0, c0, rfl, r0⟩ := gSign.arg h0 (okWide_slice Tryz.underlying23 (hval 0 23 v0 rfl rfl))
  obtain ⟨⟨t0, t1, t2⟩, vs, rfl, us, ts, rfl, ⟨a10, c10, rfl, r10⟩, us1, ts1, rfl, ⟨a11, c11, rfl, r11⟩, ⟨a12, c12, rfl, r12⟩⟩ := gClaim.argAgg h1 (let ⟨cs, h, _⟩ := okWide_struct Tryz.underlying44 (hval 1 44 v1 rfl rfl); ⟨cs, h⟩)
  refine (KernelChecks_walk _ _ _ _ _ _ _ _ _ _ _ _ W r0 r10 r11 r12).mono fun e W' ⟨he, hB⟩ => ?_
  subst he
  exact ⟨_, rfl, _, _, _, [], p0 ++ p1, [], hW', trodAll_mk1 (shut_bool Tryz.underlying4 true), trodAll_mk2 (keep0 _ hB) (keep1 _ hB), rfl, hB.frame _, fun h => by cases h⟩

/-- KernelChecks: for every input it returns true, and each argument reads as it did. -/
theorem kernelChecks_holds : Rows.KernelChecksSaid :=
  OpenClaim.holds_of_wide 5 Tryz.f5 rfl rfl rfl rfl rfl rfl rfl ⟨rfl, rfl, rfl, rfl, rfl⟩ rfl rfl rfl rfl rfl (by kernel_rfl) Tryz.func5 (by kernel_rfl)
    (of_decide_eq_true (by kernel_rfl)) (by unfold Func.isWrapper; first | (rw [if_pos (by decide +kernel)]; kernel_rfl) | (rw [if_neg (by decide +kernel)]; exact ⟨rfl, rfl⟩))
    (fun os started H enc _ => kernelChecks_lifted os started H enc)
/-- the card of KernelChecks -/
theorem kernelChecks_card_holds : Rows.KernelChecksCardSaid :=
  Claim7.holds_tied_plain_at .later [] [.data, .data, .data, .sentinel, .sentinel] true Rows.kernelChecksCard.stood.harness Rows.kernelChecksCard.stood.looks
    kernelChecks_holds (fun _ h => by cases h) (by kernel_rfl) (fun _ h => by cases h) kernelChecks_row_tie rfl ⟨rfl, rfl⟩ (by kernel_rfl) rfl
    (fun f fn hf hfn => by
      obtain rfl : f = 5 := Option.some.inj ((show Tryz.prog.funcNamed Rows.kernelChecksRow.func = some 5 by kernel_rfl).symm.trans hf) |>.symm
      obtain rfl : fn = Tryz.f5 := (Option.some.inj (Tryz.func5.symm.trans hfn)).symm
      exact ⟨by kernel_rfl, fun j t ht => by
        rw [Tryz.params5] at ht
        have hm : t ∈ [23, 44] := by simpa using Array.mem_of_getElem? ht
        have hall : ([23, 44].all fun u => !Tryz.prog.wantsStandIn u) = true := by kernel_rfl
        exact (show Tryz.prog.wantsStandIn t = false by simpa using List.all_eq_true.1 hall t hm)⟩)
    (by kernel_rfl)
end Go.Proofs.YthkamffmpejckaaGreatDoor
