/- The card of KernelGeneral: for every input KernelGeneral returns true and leaves its arguments as they were; the listed variables are tied to the program's text. No condition. -/
import Derived.Test.YtfcbdlfanmddbaaDoorUMatch
import Derived.Test.YtfcbdlfanmddbaaDoorBase
import Derived.Test.YtfcbdlfanmddbaaDoorMsC
import Derived.ProofKit
import Derived.LaidMore
import Derived.OpenShut
import Derived.Stop.Joined
import Derived.Test.YtfcbdlfanmddbaaDoorMsP
import Derived.Lib.SmallJoins
import Derived.Test.YtfcbdlfanmddbaaDoorMsR
import Derived.Test.YtfcbdlfanmddbaaDoorCards
import Derived.Test.YtfcbdlfanmddbaaDoorTie
/- Walks of package unify: match and Instance, walked. -/
namespace Go.Proofs.YtfcbdlfanmddbaaDoor
open Go Go.RowKit Go.Maps

theorem ret_2 {v : Value} {b b' : Bool} (h : b = b') : Ending.returned (.tuple #[v, .bool b]) = .returned (.tuple #[v, .bool b']) := by rw [h]
def matRel (s : Sg) (a b : List Int) (w : World) (iv kv : Value) (wr : World) : Prop :=
  ∃ (i k n : Nat) (B : Bd), iv = .int .i64 i ∧ kv = .int .i64 k ∧ MRel s a b k i B ∧ n ≤ k ∧ BdMap w wr w.heap.size n B ∧ Below w.heap.size w wr
set_option maxRecDepth 20000 in
set_option maxHeartbeats 8000000 in
theorem match_any {S1 S2 S3 : Nat → Prop} (a1 a2 a3 : Option Addr) (c1 c2 c3 : Nat) (s : Sg) (a b : List Int) (w : World) (h1 : Sign S1 w a1 c1 s) (h2 : Ints S2 w a2 c2 a) (h3 : Ints S3 w a3 c3 b) (hok : okSign s = true) (ha : W1 s a) (hb : W1 s b) (la : a.length ≤ 1000) (lb : b.length ≤ 1000) :
    Calls Tryd.prog 24 #[.slice a1 s.length c1, .slice a2 a.length c2, .slice a3 b.length c3] w fun e w' => ∃ v, e = .returned (.tuple #[v, .bool (instB s a b)]) ∧ Below w.heap.size w w' := by
  have m2 := h2.le
  have m3 := h3.le
  have hmm := @run_makeMap Tryd.prog
  have hst := Lib.hid (MRel.start ha hb)
  have hokH := Lib.hid hok
  have h1H := Lib.hid h1.lt
  have h2H := Lib.hid h2.lt
  have h3H := Lib.hid h3.lt
  clear ha hb hok h1 h2 h3
  go_enter Tryd.func24, Tryd.ntmps24
  go_wp2_with fail
  go_loopw [9, 19] (fun iv kv wr => matRel s a b w iv kv wr) (fun iv kv _ => a.length - (intOf kv).toNat)
  case atStart => exact ⟨0, 0, 0, _, rfl, rfl, hst.out, Nat.le_refl _, BdMap.made _ _, below1 _ _⟩
  case round =>
    obtain ⟨i, k, n, B, rfl, rfl, hM, hn, hD, hB⟩ := hrel
    by_cases hk : k < a.length
    · obtain ⟨hi, r, hr, hcw⟩ := hM.part hk
      obtain ⟨ba, oa, rfl, -, q1, r1⟩ := (h2H.out.below hB).int k hk
      obtain ⟨bb, ob, rfl, hbb, q2, -⟩ := (h3H.out.below hB).int i hi
      by_cases hneg : a[k] < 0
      · have hBm := fun v => hM.var_no (u := v) hk hneg hr
        have hBv := hM.var hk hneg hr
        obtain ⟨e1, e2, -, -, e5, e6, e7⟩ := part_ends hi hr
        obtain ⟨u, hu⟩ : ∃ u, partW s (b.drop i) = u := ⟨_, rfl⟩
        obtain ⟨x, hx⟩ : ∃ x, a[k] = x := ⟨_, rfl⟩
        obtain ⟨to, hto⟩ : ∃ to, b.length - r.length = to := ⟨_, rfl⟩
        have caft := after_any a1 (some ⟨bb, ob, none⟩) c1 c3 s b i r wr (h1H.out.below hB) (h3H.out.below hB) hokH.out hr
        have hpart : Ints (fun x => x < w.heap.size) w (some ⟨bb, ob + i, none⟩) (to - i) u := by
          rw [← hu, e1, hto]
          exact (Ints.part h3H.out i to (to - i) (by omega) (by omega) (Nat.le_refl _) (by have := h3H.out.cap; omega)).weak (fun x hx => hx.2)
        rw [hto] at caft e2 e6 e7 hBv
        rw [hu] at hBm hBv e5 e6
        rw [hx] at q1 r1 hneg hBm hBv
        have hcapt : to ≤ c3 := by have := h3H.out.cap; omega
        have caftH := Lib.hid caft
        have hMH := Lib.hid hM
        have hBmH := Lib.hid hBm
        have hBvH := Lib.hid hBv
        have hpartH := Lib.hid hpart
        have hBH := Lib.hid hB
        have hDH := Lib.hid hD
        have e6H := Lib.hid e6
        have r1H := Lib.hid r1
        have htob : to ≤ b.length := by omega
        have hmb := hD.lt
        clear caft hM hBm hBv hpart hr hx hu e1 e6 e5 hcw hto r1
        cases hBx : B x with
        | none =>
          have hl := hDH.out.look_none x r1H.out hBx
          have hbvH := Lib.hid (hBvH.out (.inl hBx))
          clear hBvH hBmH hB hD hBx
          obtain ⟨w', n', hst2, hn', hD', hg, -⟩ := hDH.out.store (by unfold maxLen; omega) x r1H.out hpartH.out
          rw [e6H.out] at hst2
          have hst3 := hst2.out
          go_wp2_with (go_at_call 40; refine caftH.out.mono ?_; rintro e w9 ⟨rfl, rfl⟩)
          go_roundw
          case rel => exact ⟨to, k + 1, n', _, rfl, by go_num, hbvH.out, by have := hn'.out; omega, hD'.out, hBH.out.grown hg.out hBH.out.size (fun j e => by injection e with e; omega)⟩
          case measure => simp [intOf]; omega
        | some v =>
          obtain ⟨av, cv, hl, hIv⟩ := hDH.out.look_some x r1H.out hBx
          have ce := Equal_any av (some ⟨bb, ob + i, none⟩) cv (to - i) v u wr (hIv.below hB) (hpartH.out.below hB)
          rw [e6H.out] at ce
          by_cases hvu : v = u
          · rw [decide_eq_true hvu] at ce
            have hbvH := Lib.hid (hBvH.out (.inr (by rw [hBx, hvu])))
            have hsomeH : RowKit.Hid ((B x).isSome = true) := Lib.hid (by rw [hBx]; rfl)
            have ceH := Lib.hid ce
            clear hBvH hBmH hB hD hBx hvu ce hIv
            go_wp2_with (first | (go_at_call 40; refine caftH.out.mono ?_; rintro e w9 ⟨rfl, rfl⟩) | (go_at_call 34; refine ceH.out.mono ?_; rintro e w9 ⟨rfl, hd9⟩; obtain ⟨w', n', hst2, hn', hD', hg, -⟩ := (hDH.out.below (hd9.below wr.heap.size) hmb).store (by unfold maxLen; omega) x r1H.out hpartH.out; rw [e6H.out] at hst2; have hst3 := hst2.out))
            go_roundw
            case rel =>
              have hB9 := bcall hBH.out (hd9.below _)
              exact ⟨to, k + 1, n', _, rfl, by go_num, hbvH.out, by have := hn'.out; omega, hD'.out, hB9.grown hg.out hB9.size (fun j e => by injection e with e; omega)⟩
            case measure => simp [intOf]; omega
          · rw [decide_eq_false hvu] at ce
            have hfH := Lib.hid (hBmH.out v hBx hvu)
            have ceH := Lib.hid ce
            clear hBvH hBmH hB hD hBx hvu ce hIv
            go_wp2_with (first | (go_at_call 40; refine caftH.out.mono ?_; rintro e w9 ⟨rfl, rfl⟩) | (go_at_call 34; refine ceH.out.mono ?_; rintro e w9 ⟨rfl, hd9⟩))
            go_ret2
            exact ⟨_, ret_2 hfH.out.symm, bcall hBH.out (hd9.below _)⟩
      · by_cases he : b[i] = a[k]
        · have hsH := Lib.hid (hM.sym hk hi hneg he)
          rw [he] at q2
          obtain ⟨x, hx⟩ : ∃ x, a[k] = x := ⟨_, rfl⟩
          rw [hx] at q1 q2 hneg
          have hxx : (x != x) = false := by simp
          have hBH := Lib.hid hB
          have hDH := Lib.hid hD
          clear hM hr hcw he hx hB hD
          go_wp2_with fail
          go_roundw
          case rel => exact ⟨i + 1, k + 1, n, B, by go_num, by go_num, hsH.out, by omega, hDH.out, hBH.out⟩
          case measure => simp [intOf]; omega
        · have hfH := Lib.hid (hM.sym_no hk hi hneg he)
          obtain ⟨x, hx⟩ : ∃ x, a[k] = x := ⟨_, rfl⟩
          obtain ⟨y, hy⟩ : ∃ y, b[i] = y := ⟨_, rfl⟩
          rw [hx] at q1 hneg he
          rw [hy] at q2 he
          have hxx : (y != x) = true := by simpa using he
          have hBH := Lib.hid hB
          clear hM hr hcw he hx hy hB hD
          go_wp2_with fail
          go_ret2
          first | exact ⟨_, ret_2 hfH.out.symm, hBH.out⟩ | exact ⟨⟨_, ret_2 hfH.out.symm⟩, hBH.out⟩
    · obtain rfl : k = a.length := by have := hM.ka; omega
      have hfH := Lib.hid hM.done
      clear hM
      go_wp2_with fail
      go_ret2
      exact ⟨_, ret_2 hfH.out.symm, hB⟩

set_option maxHeartbeats 1000000 in
theorem Instance_any {S1 S2 S3 : Nat → Prop} (a1 a2 a3 : Option Addr) (c1 c2 c3 : Nat) (s : Sg) (a b : List Int) (w : World) (h1 : Sign S1 w a1 c1 s) (h2 : Ints S2 w a2 c2 a) (h3 : Ints S3 w a3 c3 b) :
    Calls Tryd.prog 11 #[.slice a1 s.length c1, .slice a2 a.length c2, .slice a3 b.length c3] w fun e w' => e = .returned (.bool (okT s a && okT s b && instB s a b)) ∧ Below w.heap.size w w' := by
  have m2 := h2.le
  have m3 := h3.le
  have v1 := Valid_any a1 a2 c1 c2 s a w h1 h2
  have v2 := fun W (hb : Below w.heap.size w W) => Valid_any a1 a3 c1 c3 s b W (h1.below hb) (h3.below hb)
  have v3 : okT s a = true → okT s b = true → ∀ W, Below w.heap.size w W → _ := fun e1 e2 W hb => match_any a1 a2 a3 c1 c2 c3 s a b W (h1.below hb) (h2.below hb) (h3.below hb) (okT_parts e1).1 (okT_w1 e1) (okT_w1 e2) (by have := (okT_parts e1).2.2.1; omega) (by have := (okT_parts e2).2.2.1; omega)
  generalize okT s a = x at *
  generalize okT s b = y at *
  generalize instB s a b = z at *
  have v1H := Lib.hid v1
  have v2H := Lib.hid v2
  have v3H := Lib.hid v3
  clear v1 v2 v3 h1 h2 h3
  cases x with
  | false =>
    go_enter Tryd.func11, Tryd.ntmps11
    go_wp2_with (go_at_call 14; refine v1H.out.mono ?_; rintro e w1 ⟨rfl, hb1⟩)
    go_ret
    exact ⟨rfl, hb1⟩
  | true =>
    cases y with
    | false =>
      go_enter Tryd.func11, Tryd.ntmps11
      go_wp2_with fail
      refine v1H.out.mono ?_
      rintro e w1 ⟨rfl, hb1⟩
      go_wp2_with fail
      refine (v2H.out _ hb1).mono ?_
      rintro e w2 ⟨rfl, hb2⟩
      go_wp2_with fail
      go_ret
      exact ⟨rfl, bcall hb1 hb2⟩
    | true =>
      go_enter Tryd.func11, Tryd.ntmps11
      go_wp2_with fail
      refine v1H.out.mono ?_
      rintro e w1 ⟨rfl, hb1⟩
      go_wp2_with fail
      refine (v2H.out _ hb1).mono ?_
      rintro e w2 ⟨rfl, hb2⟩
      have hbb := bcall hb1 hb2
      go_wp2_with fail
      refine (v3H.out trivial trivial _ hbb).mono ?_
      rintro e w3 ⟨v, rfl, hb3⟩
      go_wp2_with fail
      go_ret
      exact ⟨by simp, bcall hbb hb3⟩
end Go.Proofs.YtfcbdlfanmddbaaDoor

/- Facts of the program's types that the rows over the kernel want; the start of a row that lists variables. -/
namespace Go.Proofs.YtfcbdlfanmddbaaDoor
open Go Go.RowKit Go.ChangeShapes Go.WideShapes Go.ChangeAt Go.Deep

theorem gives3 {P : Program} {t : TypeId} {α β γ : Type} {E : Enc α} {F : Enc β} {G : Enc γ} {f0 f1 f2 : Field} (ht : P.underlying t = some (.struct #[f0, f1, f2])) (h0 : f0.offset = 0) (h1 : f1.offset = E.size) (h2 : f2.offset = E.size + F.size) (hc : P.cellsOf t = E.size + (F.size + G.size))
    (hc0 : P.cellsOf f0.type = E.size) (hc1 : P.cellsOf f1.type = F.size) (hc2 : P.cellsOf f2.type = G.size) (g0 : Gives P f0.type E) (g1 : Gives P f1.type F) (g2 : Gives P f2.type G) : Gives P t (pairE E (pairE F G)) := by
  intro H enc w base spare held n cs x h
  obtain ⟨y0, y1, y2, n', _, hl, r0, r1, r2⟩ := trod_struct3 ht h
  obtain ⟨a, ha⟩ := g0 H enc w base spare held n' _ _ r0
  obtain ⟨b, hb⟩ := g1 H enc w base spare held n' _ _ r1
  obtain ⟨c, hcc⟩ := g2 H enc w base spare held n' _ _ r2
  refine ⟨(a, b, c), _, _, ?_, ha, _, _, rfl, hb, hcc⟩
  rw [h0, h1, h2, hc0, hc1, hc2, List.drop_zero]
  have e1 : (cs.drop (E.size + F.size)).take G.size = cs.drop (E.size + F.size) := List.take_of_length_le (by simp; omega)
  rw [e1, ← List.drop_drop, List.take_append_drop, List.take_append_drop]
theorem gStp : Gives Tryd.prog 63 stpE := gives3 Tryd.underlying63 rfl rfl rfl (by kernel_rfl) (by kernel_rfl) (by kernel_rfl) (by kernel_rfl) gInt gInt gInt
theorem gSteps : Gives Tryd.prog 43 (slE stpE) := gives_slice Tryd.underlying43 (by kernel_rfl) gStp
theorem gives_array2 {P : Program} {t e : TypeId} {α : Type} {E : Enc α} (ht : P.underlying t = some (.array 2 e)) (hc : P.cellsOf t = E.size + E.size) (he : P.cellsOf e = E.size) (g : Gives P e E) : Gives P t (pairE E E) := by
  intro H enc w base spare held n cs x h
  obtain ⟨xs, m, _, _, hl, hx, hf⟩ := DataW.trod_array ht h
  match xs, hx with
  | [x0, x1], _ =>
    obtain ⟨a, ha⟩ := g H enc w base spare held m _ _ (hf 0 (by omega))
    obtain ⟨b, hb⟩ := g H enc w base spare held m _ _ (hf 1 (by omega))
    refine ⟨(a, b), _, _, ?_, ha, hb⟩
    rw [he, Nat.zero_mul, Nat.one_mul, List.drop_zero]
    have e1 : (cs.drop E.size).take E.size = cs.drop E.size := List.take_of_length_le (by simp; omega)
    rw [e1, List.take_append_drop]
end Go.Proofs.YtfcbdlfanmddbaaDoor

/- Facts of the program's types that the row of KernelGeneral wants. -/
namespace Go.Proofs.YtfcbdlfanmddbaaDoor
open Go Go.RowKit Go.ChangeShapes Go.WideShapes Go.ChangeAt Go.Deep

theorem gives4 {P : Program} {t : TypeId} {α β γ δ : Type} {E : Enc α} {F : Enc β} {G : Enc γ} {D : Enc δ} {f0 f1 f2 f3 : Field} (ht : P.underlying t = some (.struct #[f0, f1, f2, f3])) (h0 : f0.offset = 0) (h1 : f1.offset = E.size) (h2 : f2.offset = E.size + F.size) (h3 : f3.offset = E.size + F.size + G.size)
    (hc : P.cellsOf t = E.size + F.size + G.size + D.size)
    (hc0 : P.cellsOf f0.type = E.size) (hc1 : P.cellsOf f1.type = F.size) (hc2 : P.cellsOf f2.type = G.size) (hc3 : P.cellsOf f3.type = D.size) (g0 : Gives P f0.type E) (g1 : Gives P f1.type F) (g2 : Gives P f2.type G) (g3 : Gives P f3.type D) : Gives P t (pairE E (pairE F (pairE G D))) := by
  intro H enc w base spare held n cs x h
  obtain ⟨y0, y1, y2, y3, n', _, hl, r0, r1, r2, r3⟩ := Go.Joins.trod_struct4 ht h
  obtain ⟨a, ha⟩ := g0 H enc w base spare held n' _ _ r0
  obtain ⟨b, hb⟩ := g1 H enc w base spare held n' _ _ r1
  obtain ⟨c, hcc⟩ := g2 H enc w base spare held n' _ _ r2
  obtain ⟨d, hd⟩ := g3 H enc w base spare held n' _ _ r3
  refine ⟨(a, b, c, d), _, _, ?_, ha, _, _, rfl, hb, _, _, rfl, hcc, hd⟩
  rw [h0, h1, h2, h3, hc0, hc1, hc2, hc3, List.drop_zero]
  have e1 : (cs.drop (E.size + F.size + G.size)).take D.size = cs.drop (E.size + F.size + G.size) := List.take_of_length_le (by simp; omega)
  rw [e1]
  have e2 : cs.drop (E.size + F.size + G.size) = ((cs.drop E.size).drop F.size).drop G.size := by rw [List.drop_drop, List.drop_drop, Nat.add_assoc]
  have e3 : cs.drop (E.size + F.size) = (cs.drop E.size).drop F.size := by rw [List.drop_drop]
  rw [e2, e3, List.take_append_drop, List.take_append_drop, List.take_append_drop]
theorem gBind : Gives Tryd.prog 77 bindE := gives_pair Tryd.underlying77 rfl rfl (by kernel_rfl) (by kernel_rfl) (by kernel_rfl) gInt gTerm
theorem gBinds : Gives Tryd.prog 26 (slE bindE) := gives_slice Tryd.underlying26 (by kernel_rfl) gBind
theorem gShot : Gives Tryd.prog 28 (pairE (slE intE) (pairE (slE intE) (pairE (slE bindE) (slE bindE)))) := gives4 Tryd.underlying28 rfl rfl rfl rfl (by kernel_rfl) (by kernel_rfl) (by kernel_rfl) (by kernel_rfl) (by kernel_rfl) gTerm gTerm gBinds gBinds
end Go.Proofs.YtfcbdlfanmddbaaDoor

/- Walks that the laws on kernel share: shelf, Light; awake behind what came before it. -/
namespace Go.Proofs.YtfcbdlfanmddbaaDoor
open Go Go.RowKit Go.Maps

def shelfT (s : Sg) (g : List (List Int)) : Bool := decide (g.length ≤ 80) && smallT s g
theorem aw4_from {B : Nat} {W W' : World} (hb : Below B W W') (hB : B ≤ W.heap.size) : Calls Tryd.prog 5 #[] W' fun e w' => e = .returned (.bool true) ∧ Below B W w' :=
  (awake4_any W').mono fun _ _ h => ⟨h.1, hb.trans (h.2.mono (Nat.le_trans hB hb.size))⟩
end Go.Proofs.YtfcbdlfanmddbaaDoor

/- The law KernelGeneral, walked. -/
namespace Go.Proofs.YtfcbdlfanmddbaaDoor
open Go Go.RowKit Go.Maps

set_option maxRecDepth 100000 in
set_option maxHeartbeats 8000000 in
theorem KernelGeneral_walk {S1 S2 : Nat → Prop} (a1 : Option Addr) (kz : Nat) (s : Sg) (aM : Option Addr) (cM : Nat) (M : List Int) (aN : Option Addr) (cN : Nat) (N : List Int) (aL : Option Addr) (cL : Nat) (L : List Bnd) (aK : Option Addr) (cK : Nat) (K : List Bnd) (w : World)
    (h1 : Sign S1 w a1 kz s) (hM : Ints S2 w aM cM M) (hN : Ints S2 w aN cN N) (hL : Binds S2 w aL cL L) (hK : Binds S2 w aK cK K) :
    Calls Tryd.prog 3 #[.slice a1 s.length kz, .agg #[.slice aM M.length cM, .slice aN N.length cN, .slice aL L.length cL, .slice aK K.length cK]] w fun e w' => e = .returned (.bool true) ∧ Below w.heap.size w w' := by
  have mM := hM.le
  have mN := hN.le
  have mL := hL.le
  have mK := hK.le
  obtain ⟨W, hW⟩ : ∃ W, w.alloc (.cells #[.slice aM M.length cM, .slice aN N.length cN, .slice aL L.length cL, .slice aK K.length cK] 28) = W := ⟨_, rfl⟩
  have hB : Below w.heap.size w W := by rw [← hW]; exact below1 w _
  have q0 : W.cell? ⟨w.heap.size, 0, none⟩ = some (.slice aM M.length cM) := by rw [← hW]; clear hW; go_simp
  have q1 : W.cell? ⟨w.heap.size, 1, none⟩ = some (.slice aN N.length cN) := by rw [← hW]; clear hW; go_simp
  have q2 : W.cell? ⟨w.heap.size, 2, none⟩ = some (.slice aL L.length cL) := by rw [← hW]; clear hW; go_simp
  have q3 : W.cell? ⟨w.heap.size, 3, none⟩ = some (.slice aK K.length cK) := by rw [← hW]; clear hW; go_simp
  have h1H := Lib.hid (h1.below hB)
  have hMH := Lib.hid (hM.below hB)
  have hNH := Lib.hid (hN.below hB)
  have hLH := Lib.hid (hL.below hB)
  have hKH := Lib.hid (hK.below hB)
  have hBH := Lib.hid hB
  obtain ⟨W2, hW2⟩ : ∃ W2, W.alloc (.cells #[.slice aM M.length cM, .slice aN N.length cN] 25) = W2 := ⟨_, rfl⟩
  have hB2 : Below W.heap.size W W2 := by rw [← hW2]; exact below1 W _
  have hTs := Sl.new (E := slE intE) (S := fun _ => True) W [[.slice aM M.length cM], [.slice aN N.length cN]] [M, N] 25 rfl (by unfold big; simp) (fun i g1 g2 => by
      match i, g1 with
      | 0, _ => exact ⟨_, _, rfl, (hM.below hB).any⟩
      | 1, _ => exact ⟨_, _, rfl, (hN.below hB).any⟩)
  have q0' := cell_later hB2 q0
  have q1' := cell_later hB2 q1
  have q2' := cell_later hB2 q2
  have q3' := cell_later hB2 q3
  have csH := Lib.hid (Small_any a1 (some ⟨W.heap.size, 0, none⟩) kz 2 s [M, N] W2 (h1H.out.below hB2) (by rw [← hW2]; exact hTs.any))
  have awH := Lib.hid (fun W' (hb : Below W2.heap.size W2 W') => aw4_from hb (Nat.le_refl _))
  have hB2H := Lib.hid (bcall hB hB2)
  have hB2' := Lib.hid hB2
  have cl0 : M.length ≠ 0 → ∃ b o, aM = some ⟨b, o, none⟩ ∧ W2.cell? ⟨b, o, none⟩ = some (.int .i64 (M.headD 0)) := fun h0 => by
    obtain ⟨b, o, e, -, q, -⟩ := ((hMH.out.below hB2)).int 0 (by omega)
    refine ⟨b, o, e, ?_⟩
    rw [Nat.add_zero] at q
    rw [q]
    cases M with
    | nil => exact (h0 rfl).elim
    | cons _ _ => rfl
  clear h1 hM hN hL hK hB hTs hB2
  cases hsm : smallT s [M, N] with
  | false =>
    rw [hsm] at csH
    go_enter Tryd.func3, Tryd.ntmps3
    go_wp2_with fail
    try rw [hW]
    go_wp2_with fail
    try rw [hW2]
    refine csH.out.mono ?_
    rintro e w1 ⟨rfl, rfl⟩
    go_wp2_with fail
    refine (awH.out _ (.refl _ _)).mono ?_
    rintro e w9 ⟨rfl, hb9⟩
    go_wp2_with fail
    go_ret
    exact ⟨rfl, bcall hB2H.out hb9⟩
  | true =>
  rw [hsm] at csH
  by_cases hL30 : 30 < L.length
  · have g1 : (30 < (L.length : Int)) = True := eq_true (by omega)
    go_enter Tryd.func3, Tryd.ntmps3
    go_wp2_with fail
    try rw [hW]
    go_wp2_with fail
    try rw [hW2]
    refine csH.out.mono ?_
    rintro e w1 ⟨rfl, rfl⟩
    go_wp2_with fail
    refine (awH.out _ (.refl _ _)).mono ?_
    rintro e w9 ⟨rfl, hb9⟩
    go_wp2_with fail
    go_ret
    exact ⟨rfl, bcall hB2H.out hb9⟩
  have g1 : (30 < (L.length : Int)) = False := eq_false (by omega)
  by_cases hK30 : 30 < K.length
  · have g2 : (30 < (K.length : Int)) = True := eq_true (by omega)
    go_enter Tryd.func3, Tryd.ntmps3
    go_wp2_with fail
    try rw [hW]
    go_wp2_with fail
    try rw [hW2]
    refine csH.out.mono ?_
    rintro e w1 ⟨rfl, rfl⟩
    go_wp2_with fail
    refine (awH.out _ (.refl _ _)).mono ?_
    rintro e w9 ⟨rfl, hb9⟩
    go_wp2_with fail
    go_ret
    exact ⟨rfl, bcall hB2H.out hb9⟩
  have g2 : (30 < (K.length : Int)) = False := eq_false (by omega)
  by_cases hM0 : M.length = 0
  · have g3 : ((M.length : Int) == 0) = true := by simp only [beq_iff_eq]; omega
    clear hM0
    go_enter Tryd.func3, Tryd.ntmps3
    go_wp2_with fail
    try rw [hW]
    go_wp2_with fail
    try rw [hW2]
    refine csH.out.mono ?_
    rintro e w1 ⟨rfl, rfl⟩
    go_wp2_with fail
    refine (awH.out _ (.refl _ _)).mono ?_
    rintro e w9 ⟨rfl, hb9⟩
    go_wp2_with fail
    go_ret
    exact ⟨rfl, bcall hB2H.out hb9⟩
  obtain ⟨bM, oM, rfl, qM⟩ := cl0 hM0
  have g3 : ((M.length : Int) == 0) = false := by simpa using (fun e => hM0 (by rw [e]; rfl))
  have g3' : ¬ M = [] := fun e => hM0 (by rw [e]; rfl)
  have g4 : ((0 : Int) < (M.length : Int)) = True := eq_true (by omega)
  have g4n : (0 < M.length) = True := eq_true (by omega)
  by_cases hM1 : M.headD 0 = 0
  case neg =>
    have g5 : (M.headD 0 != 0) = true := by simpa using hM1
    obtain ⟨x, hx⟩ : ∃ x, M.headD 0 = x := ⟨_, rfl⟩
    rw [hx] at qM g5
    clear hM1 hx
    go_enter Tryd.func3, Tryd.ntmps3
    go_wp2_with fail
    try rw [hW]
    go_wp2_with fail
    try rw [hW2]
    refine csH.out.mono ?_
    rintro e w1 ⟨rfl, rfl⟩
    go_wp2_with fail
    refine (awH.out _ (.refl _ _)).mono ?_
    rintro e w9 ⟨rfl, hb9⟩
    go_wp2_with fail
    go_ret
    exact ⟨rfl, bcall hB2H.out hb9⟩
  rw [hM1] at qM
  have hM1H := Lib.hid hM1
  have k1 := Apply_any a1 aL (some ⟨bM, oM, none⟩) kz cL cM s L M W2 (h1H.out.below hB2'.out) (hLH.out.below hB2'.out) (hMH.out.below hB2'.out) (by omega)
  have k2 := fun W' (hb : Below W2.heap.size W2 W') => Apply_any a1 aK aN kz cK cN s K N W' ((h1H.out.below hB2'.out).below hb) ((hKH.out.below hB2'.out).below hb) ((hNH.out.below hB2'.out).below hb) (by omega)
  have k4 := fun W' (hb : Below W2.heap.size W2 W') => Detach_any a1 (some ⟨bM, oM, none⟩) aN kz cM cN s M N W' ((h1H.out.below hB2'.out).below hb) ((hMH.out.below hB2'.out).below hb) ((hNH.out.below hB2'.out).below hb)
  have k5 := fun W' (hb : Below W2.heap.size W2 W') => Detaches_any a1 (some ⟨bM, oM, none⟩) aN kz cM cN s M N W' ((h1H.out.below hB2'.out).below hb) ((hMH.out.below hB2'.out).below hb) ((hNH.out.below hB2'.out).below hb)
  have h1W := Lib.hid (fun W' (hb : Below W2.heap.size W2 W') => (h1H.out.below hB2'.out).below hb)
  have hpl := fun m n (e1 : applyE s L M = (m, 0)) (e2 : applyE s K N = (n, 0)) => general_plain e1 e2 hM1
  obtain ⟨⟨m, em⟩, hme⟩ : ∃ r, applyE s L M = r := ⟨_, rfl⟩
  obtain ⟨⟨n, en⟩, hne⟩ : ∃ r, applyE s K N = r := ⟨_, rfl⟩
  rw [hme] at k1 hpl
  rw [hne] at k2 hpl
  have k1H := Lib.hid k1
  have k2H := Lib.hid k2
  have k4H := Lib.hid k4
  have k5H := Lib.hid k5
  have hplH := Lib.hid hpl
  clear k1 k2 k4 k5 hpl hme hne cl0 h1H hMH hNH hLH hKH hsm hM1 hM0
  go_enter Tryd.func3, Tryd.ntmps3
  go_wp2_with fail
  try rw [hW]
  go_wp2_with fail
  try rw [hW2]
  refine csH.out.mono ?_
  rintro e w1 ⟨rfl, rfl⟩
  go_wp2_with fail
  refine k1H.out.mono ?_
  rintro e w2 ⟨a5, c5, rfl, i5, hb2⟩
  have r0 := cell_later hb2 q0'
  have r1 := cell_later hb2 q1'
  have r3 := cell_later hb2 q3'
  have i5H := Lib.hid i5
  have hb2H := Lib.hid hb2
  clear i5 hb2 k1H csH q0 q1 q2 q3 q2'
  simp only
  go_wp2_with fail
  refine (k2H.out _ hb2H.out).mono ?_
  rintro e w3 ⟨a6, c6, rfl, i6, hb3⟩
  have r0 := cell_later hb3 r0
  have r1 := cell_later hb3 r1
  have i5H := Lib.hid (i5H.out.below hb3)
  have i6H := Lib.hid i6
  have hb3H := Lib.hid (bcall hb2H.out hb3)
  clear i6 hb3 k2H hb2H r3
  simp only
  by_cases hem : em = 0
  case neg =>
    have g6 : (em != 0) = true := by simpa using hem
    go_wp2_with fail
    refine (awH.out _ hb3H.out).mono ?_
    rintro e w9 ⟨rfl, hb9⟩
    go_wp2_with fail
    go_ret
    exact ⟨rfl, bcall hB2H.out hb9⟩
  subst hem
  by_cases hen : en = 0
  case neg =>
    have g6 : (en != 0) = true := by simpa using hen
    go_wp2_with fail
    refine (awH.out _ hb3H.out).mono ?_
    rintro e w9 ⟨rfl, hb9⟩
    go_wp2_with fail
    go_ret
    exact ⟨rfl, bcall hB2H.out hb9⟩
  subst hen
  obtain ⟨a, b, eL, om, oM, oN, ob, hgen⟩ := hplH.out m n rfl rfl
  have k3 := Args_any a1 a5 kz c5 s m w3 (h1W.out _ hb3H.out) i5H.out
  rw [show argsE s m = ([a, b], 0) by unfold argsE; rw [if_pos om, eL]] at k3
  have k3H := Lib.hid k3
  have hgenH := Lib.hid hgen
  have obH := Lib.hid ob
  have i5l := i5H.out.le
  have i6l := i6H.out.le
  clear k3 hgen eL om oM oN ob hplH
  go_wp2_with fail
  refine k3H.out.mono ?_
  rintro e w4 ⟨v4, rfl, ho, hb4⟩
  obtain ⟨aT, cT, rfl, hT⟩ := ho.sl
  obtain ⟨b1, o1, a7, c7, rfl, -, y0, hA⟩ := hT.sub 0 (by simp)
  obtain ⟨b2, o2, a8, c8, he, -, y1, hBt⟩ := hT.sub 1 (by simp)
  simp only [Option.some.injEq, Addr.mk.injEq, and_true] at he
  obtain ⟨rfl, rfl⟩ := he
  simp only [List.getElem_cons_zero, List.getElem_cons_succ] at y0 y1 hA hBt
  rw [Nat.add_zero] at y0
  have r0 := cell_later hb4 r0
  have r1 := cell_later hb4 r1
  have cm := Same_any a7 a6 c7 c6 a n w4 hA (i6H.out.below hb4)
  obtain ⟨eq, heq⟩ : ∃ x, decide (a = n) = x := ⟨_, rfl⟩
  rw [heq] at cm
  have cmH := Lib.hid cm
  have hBH := Lib.hid hBt.any
  have hb4H := Lib.hid (bcall hb3H.out hb4)
  have lA := hA.le
  have lB := hBt.le
  clear ho hT hA hBt cm k3H i5H i6H hb4 hb3H
  simp only [List.length_cons, List.length_nil, Nat.zero_add, Nat.reduceAdd]
  go_wp2_with fail
  refine cmH.out.mono ?_
  rintro e w5 ⟨rfl, hd5⟩
  have r0 := cell_later (hd5.below _) r0
  have r1 := cell_later (hd5.below _) r1
  have y1 := cell_later (hd5.below _) y1
  have hBH := Lib.hid (hBH.out.below (hd5.below _))
  have hb5H := Lib.hid (bcall hb4H.out (hd5.below _))
  clear hd5 cmH hb4H y0
  cases eq with
  | false =>
    go_wp2_with fail
    refine (awH.out _ hb5H.out).mono ?_
    rintro e w9 ⟨rfl, hb9⟩
    go_wp2_with fail
    go_ret
    exact ⟨rfl, bcall hB2H.out hb9⟩
  | true =>
  obtain ⟨A', B', f1, f2, f3⟩ := hgenH.out (by simpa using heq)
  have hok := fun (h : (detE s M N).2 = 0) => (det_ok h).2.2
  have hds : detsB s M N = true := by
    have hMN : okT s M = true ∧ okT s N = true := by
      by_cases h : okT s M = true ∧ okT s N = true
      · exact h
      · exfalso
        have : detE s M N = ([], 1) := by unfold detE; rw [if_neg h]
        rw [this] at f3
        rcases f3 with f3 | ⟨f3, -⟩ <;> cases f3
    unfold detsB
    rw [hMN.1, hMN.2, decide_eq_true hM1H.out, f1]
    exact f2
  obtain ⟨⟨t, h⟩, hte⟩ : ∃ r, detE s M N = r := ⟨_, rfl⟩
  have k4 := k4H.out _ hb5H.out
  rw [hte] at k4 hok f3
  have k4H := Lib.hid k4
  have k5 := fun W' (hb : Below W2.heap.size W2 W') => k5H.out W' hb
  rw [hds] at k5
  have k5H := Lib.hid k5
  have hokH := Lib.hid hok
  have f3H := Lib.hid f3
  clear k4 k5 hok f3 hte hds f1 f2 hgenH heq
  go_wp2_with fail
  refine k4H.out.mono ?_
  rintro e w6 ⟨v6, rfl, o6, hb6⟩
  obtain ⟨a9, c9, rfl, i9⟩ := OwnI.ints o6
  have r0 := cell_later hb6 r0
  have r1 := cell_later hb6 r1
  have y1 := cell_later hb6 y1
  have i9l := i9.le
  have i9H := Lib.hid i9
  have hBH := Lib.hid (hBH.out.below hb6)
  have hb6H := Lib.hid (bcall hb5H.out hb6)
  clear o6 i9 hb6 k4H hb5H
  simp only
  go_wp2_with fail
  refine (k5H.out _ hb6H.out).mono ?_
  rintro e w7 ⟨rfl, hb7⟩
  have y1 := cell_later hb7 y1
  have i9H := Lib.hid (i9H.out.below hb7)
  have hBH := Lib.hid (hBH.out.below hb7)
  have hb7H := Lib.hid (bcall hb6H.out hb7)
  clear hb7 hb6H k5H r0 r1
  rcases f3H.out with f3 | ⟨f3, f4⟩
  · try dsimp only at f3
    subst f3
    go_wp2_with fail
    refine (awH.out _ hb7H.out).mono ?_
    rintro e w9 ⟨rfl, hb9⟩
    go_wp2_with fail
    go_ret
    exact ⟨rfl, bcall hB2H.out hb9⟩
  · try dsimp only at f3 f4
    subst f3
    have k6 := Instance_any a1 a9 a8 kz c9 c8 s t b w7 (h1W.out _ hb7H.out) i9H.out hBH.out
    rw [hokH.out rfl, obH.out, f4] at k6
    have k6H := Lib.hid k6
    clear k6 f4
    go_wp2_with fail
    refine k6H.out.mono ?_
    rintro e w8 ⟨rfl, hb8⟩
    have hb8H := Lib.hid (bcall hb7H.out hb8)
    clear hb8
    go_wp2_with fail
    refine (awH.out _ hb8H.out).mono ?_
    rintro e w9 ⟨rfl, hb9⟩
    go_wp2_with fail
    go_ret
    exact ⟨rfl, bcall hB2H.out hb9⟩
end Go.Proofs.YtfcbdlfanmddbaaDoor

/- The card of KernelGeneral: for every input KernelGeneral returns true and leaves its arguments as they were; the listed variables are tied to the program's text. No condition. -/
namespace Go.Proofs.YtfcbdlfanmddbaaDoor
open Go Go.RowKit Go.ChangeShapes Go.WideShapes Go.ChangeAt

theorem kernelGeneral_door (os : Os) (args : Array Value) : laidMetH Tryd.prog Rows.kernelGeneralRow.laid ((World.doorLaid Tryd.prog 400 os).forCall (fun _ _ => 0) ⟨#[], args, []⟩).memory :=
  laidMetH_of_parts3 (fuel := 8) (laidMet_of_run' 8 (by kernel_rfl) (by kernel_rfl)) (by kernel_rfl) (by kernel_rfl)
set_option maxRecDepth 100000 in
theorem kernelGeneral_lifted (os : Os) (started : os.Started) (H : Type) (enc : TypeId × Value → H) :
    ReturnsInHanded {} Tryd.checked os 3 .any (fun w args => (Rows.kernelGeneralSpec.pre enc Tryd.prog Tryd.f3 [] false w args ∧ laidMetH Tryd.prog Rows.kernelGeneralRow.laid w) ∧ sizedMet enc Tryd.prog Tryd.f3 (OpenSpec.ofChange Rows.kernelGeneralSpec) false w args)
      (Rows.kernelGeneralSpec.post enc Tryd.prog Tryd.f3 false true false false) := by
  refine returnsInHanded_of_change_and (C := Tryd.checked) (X := fun w _ => laidMetH Tryd.prog Rows.kernelGeneralRow.laid w) (fun _ _ _ hh h => h.of_heap hh) Tryd.own started (by kernel_rfl) Tryd.func3
    (ChangeSpec.witness_shaped (enc := enc) (C := Tryd.checked) (os := os) (X := fun w _ => laidMetH Tryd.prog Rows.kernelGeneralRow.laid w) false (World.doorLaid Tryd.prog 400 os) #[.slice none 0 0, .agg #[.slice none 0 0, .slice none 0 0, .slice none 0 0, .slice none 0 0]] 8 rfl (World.shaped_of_RefB (by kernel_rfl) (by kernel_rfl)) (by kernel_rfl) (by kernel_rfl) (by kernel_rfl) (kernelGeneral_door os _)) ?_
  intro W base args ds gs before hval0 hW _ _ hL _
  clear hL
  have hval : ∀ (j : Nat) t v, Tryd.f3.params[j]? = some t → args[j]? = some v → Value.okWide Tryd.prog W .any base t v := hval0
  have hW' := hW
  obtain ⟨p, q, hA0, hV, rfl, hfz, hnd⟩ := hW
  have hA : DataW.TrodAll enc Tryd.prog W 0 (fun _ => true) true Tryd.f3.params.toList args.toList ds p := hA0
  rw [Tryd.params3] at hA hval
  obtain ⟨v0, v1, d0, d1, p0, p1, rfl, rfl, rfl, h0, h1⟩ := trodAll_two hA
  obtain ⟨rfl, rfl⟩ := trodVars_none hV
  clear hA0 hval0
  simp only [List.append_nil] at hW'
  have hlt : ∀ x ∈ p0 ++ p1, x.block < W.heap.size := fun x hx => hW'.lt x (by simpa using hx)
  have keep0 := fun (W' : World) (hn : Below W.heap.size W W') => Below.trod Tryd.laidOut (by kernel_rfl) (of_decide_eq_true (by kernel_rfl)) h0 hn (fun x hx => hlt x (by simp [hx]))
  have keep1 := fun (W' : World) (hn : Below W.heap.size W W') => Below.trod Tryd.laidOut (by kernel_rfl) (of_decide_eq_true (by kernel_rfl)) h1 hn (fun x hx => hlt x (by simp [hx]))
  obtain ⟨l0, a0, c0, rfl, r0⟩ := gSign.arg h0 (okWide_slice Tryd.underlying23 (hval 0 23 v0 rfl rfl))
  obtain ⟨⟨t0, t1, t2, t3⟩, vs, rfl, us, ts, rfl, ⟨a10, c10, rfl, r10⟩, us1, ts1, rfl, ⟨a11, c11, rfl, r11⟩, us2, ts2, rfl, ⟨a12, c12, rfl, r12⟩, ⟨a13, c13, rfl, r13⟩⟩ := gShot.argAgg h1 (let ⟨cs, h, _⟩ := okWide_struct Tryd.underlying28 (hval 1 28 v1 rfl rfl); ⟨cs, h⟩)
  refine (KernelGeneral_walk _ _ _ _ _ _ _ _ _ _ _ _ _ _ _ W r0 r10 r11 r12 r13).mono fun e W' ⟨he, hB⟩ => ?_
  subst he
  exact ⟨_, rfl, _, _, _, [], p0 ++ p1, [], hW', trodAll_mk1 (shut_bool Tryd.underlying4 true), trodAll_mk2 (keep0 _ hB) (keep1 _ hB), rfl, hB.frame _, fun h => by cases h⟩

/-- KernelGeneral: for every input it returns true, and each argument reads as it did. -/
theorem kernelGeneral_holds : Rows.KernelGeneralSaid :=
  OpenClaim.holds_of_wide 3 Tryd.f3 rfl rfl rfl rfl rfl rfl rfl ⟨rfl, rfl, rfl, rfl, rfl⟩ rfl rfl rfl rfl rfl (by kernel_rfl) Tryd.func3 (by kernel_rfl)
    (of_decide_eq_true (by kernel_rfl)) (by unfold Func.isWrapper; first | (rw [if_pos (by decide +kernel)]; kernel_rfl) | (rw [if_neg (by decide +kernel)]; exact ⟨rfl, rfl⟩))
    (fun os started H enc _ => kernelGeneral_lifted os started H enc)
/-- the card of KernelGeneral -/
theorem kernelGeneral_card_holds : Rows.KernelGeneralCardSaid :=
  Claim7.holds_tied_plain_at .later [] [.data, .data, .data, .sentinel, .sentinel] true Rows.kernelGeneralCard.stood.harness Rows.kernelGeneralCard.stood.looks
    kernelGeneral_holds (fun _ h => by cases h) (by kernel_rfl) (fun _ h => by cases h) kernelGeneral_row_tie rfl ⟨rfl, rfl⟩ (by kernel_rfl) rfl
    (fun f fn hf hfn => by
      obtain rfl : f = 3 := Option.some.inj ((show Tryd.prog.funcNamed Rows.kernelGeneralRow.func = some 3 by kernel_rfl).symm.trans hf) |>.symm
      obtain rfl : fn = Tryd.f3 := (Option.some.inj (Tryd.func3.symm.trans hfn)).symm
      exact ⟨by kernel_rfl, fun j t ht => by
        rw [Tryd.params3] at ht
        have hm : t ∈ [23, 28] := by simpa using Array.mem_of_getElem? ht
        have hall : ([23, 28].all fun u => !Tryd.prog.wantsStandIn u) = true := by kernel_rfl
        exact (show Tryd.prog.wantsStandIn t = false by simpa using List.all_eq_true.1 hall t hm)⟩)
    (by kernel_rfl)
end Go.Proofs.YtfcbdlfanmddbaaDoor
