/- Walks: Ways, Paths of the reference. -/
import Derived.Test.YtgpfdflpkaeedaaWalkY
import Derived.Test.YtgpfdflpkaeedaaWalkW
import Derived.Test.YtgpfdflpkaeedaaRegion
namespace Go.Proofs.Ytgpfdflpkaeedaa
open Go Go.RowKit Go.Maps

noncomputable abbrev runApp (x y : Value) (w : World) : Result Value := (Builtin.append_ #[24, 24] 24 #[x, y]).run Try.prog w
theorem app24 {S2 : Nat → Prop} {w : World} {base : Nat} {v : Value} {l l2 : List Int} {a : Option Addr} {c : Nat} (ho : OwnI w base v l) (h2 : Ints S2 w a c l2) (hl : l.length + l2.length ≤ 10000000) (hb : base ≤ w.heap.size) :
    ∃ v' w', runApp v (.slice a l2.length c) w = .ok v' w' ∧ OwnI w' base v' (l ++ l2) ∧ w.grownBy w' v.ownBlock ∧ Below base w w' := by
  obtain ⟨v', w', hrun, ho', hg, -, -⟩ := ho.append_run (P := Try.prog) (t := 24) (ty := 24) Try.underlying24 infoInt rfl h2 (fun _ _ _ h => h) (by omega) (by unfold big; omega) hb
  exact ⟨v', w', hrun, ho', hg, (Below.refl _ _).grown hg hb (fun k e => (ho.lt k e).1)⟩
theorem lit1 {w : World} (m : Int) (hm : inRange m) : Ints (fun b => b = w.heap.size) (w.alloc (.cells #[.int .i64 m] 3)) (some ⟨w.heap.size, 0, none⟩) 1 [m] := by
  have := Sl.new (E := intE) (S := fun _ => False) w [[.int .i64 m]] [m] 3 rfl (by unfold big; simp) (fun i g1 g2 => by
    match i, g1 with
    | 0, _ => exact ⟨rfl, hm⟩)
  exact this.weak (fun b h => h.resolve_left (fun h => h))
theorem lit0 {w : World} (base : Nat) (hb : base ≤ w.heap.size) : OwnI (w.alloc (.cells #[] 3)) base (.slice (some ⟨w.heap.size, 0, none⟩) 0 0) [] := OwnL.made intE _ w base 3 hb
/-- the three orders in which a path with one number more is made -/
theorem ways3 {T : Nat → Prop} {w : World} {a : Option Addr} {c : Nat} {u : List Int} (hu : Ints T w a c u) (m : Int) (hm : inRange m) (hl : u.length ≤ 1000) :
    (∃ x1 w2 x2 w4, RowKit.Hid (Below w.heap.size w w2) ∧ RowKit.Hid (runApp (.slice (some ⟨w.heap.size, 0, none⟩) 0 0) (.slice a u.length c) (w.alloc (.cells #[] 3)) = .ok x1 w2) ∧ RowKit.Hid (runApp x1 (.slice (some ⟨w2.heap.size, 0, none⟩) 1 1) (w2.alloc (.cells #[.int .i64 m] 3)) = .ok x2 w4) ∧ RowKit.Hid (OwnI w4 w.heap.size x2 (u ++ [m])) ∧ RowKit.Hid (Below w.heap.size w w4)) ∧
    (∃ x1 w3 x2 w4, RowKit.Hid (Below w.heap.size w w3) ∧ RowKit.Hid (runApp (.slice (some ⟨w.heap.size, 0, none⟩) 0 0) (.slice a u.length c) ((w.alloc (.cells #[] 3)).alloc (.cells #[.int .i64 m] 3)) = .ok x1 w3) ∧ RowKit.Hid (runApp x1 (.slice (some ⟨w.heap.size + 1, 0, none⟩) 1 1) w3 = .ok x2 w4) ∧ RowKit.Hid (OwnI w4 w.heap.size x2 (u ++ [m])) ∧ RowKit.Hid (Below w.heap.size w w4)) ∧
    (∃ x1 w3 x2 w4, RowKit.Hid (Below w.heap.size w w3) ∧ RowKit.Hid (runApp (.slice (some ⟨w.heap.size + 1, 0, none⟩) 0 0) (.slice a u.length c) ((w.alloc (.cells #[.int .i64 m] 3)).alloc (.cells #[] 3)) = .ok x1 w3) ∧ RowKit.Hid (runApp x1 (.slice (some ⟨w.heap.size, 0, none⟩) 1 1) w3 = .ok x2 w4) ∧ RowKit.Hid (OwnI w4 w.heap.size x2 (u ++ [m])) ∧ RowKit.Hid (Below w.heap.size w w4)) := by
  refine ⟨?_, ?_, ?_⟩
  · have hb0 := below1 w (.cells #[] 3)
    obtain ⟨x1, w2, r1, o1, -, b1⟩ := app24 (lit0 (w := w) w.heap.size (Nat.le_refl _)) (hu.below hb0) (by simp; omega) hb0.size
    have B1 := hb0.trans b1
    have hb2 := below1 w2 (.cells #[.int .i64 m] 3)
    obtain ⟨x2, w4, r2, o2, -, b2⟩ := app24 (o1.call hb2) (lit1 m hm) (by simp; omega) (by have := B1.size; simp; omega)
    exact ⟨x1, w2, x2, w4, Lib.hid B1, Lib.hid r1, Lib.hid r2, Lib.hid (by simpa using o2), Lib.hid ((B1.trans (hb2.mono B1.size)).trans b2)⟩
  · have hb0 := below2 w (.cells #[] 3) (.cells #[.int .i64 m] 3)
    have hI := lit1 (w := w.alloc (.cells #[] 3)) m hm
    obtain ⟨x1, w3, r1, o1, g1, b1⟩ := app24 ((lit0 (w := w) w.heap.size (Nat.le_refl _)).call (below1 _ (.cells #[.int .i64 m] 3))) (hu.below hb0) (by simp; omega) hb0.size
    have B1 := hb0.trans b1
    have hI3 := hI.same (.of_grown g1 (fun b hb e => by simp [Value.ownBlock] at e hb; omega))
    obtain ⟨x2, w4, r2, o2, -, b2⟩ := app24 o1 hI3 (by simp; omega) B1.size
    rw [World.size_alloc] at r2
    exact ⟨x1, w3, x2, w4, Lib.hid B1, Lib.hid r1, Lib.hid r2, Lib.hid (by simpa using o2), Lib.hid (B1.trans b2)⟩
  · have hb0 := below2 w (.cells #[.int .i64 m] 3) (.cells #[] 3)
    have hI := (lit1 (w := w) m hm).below (below1 _ (.cells #[] 3))
    have o0 := lit0 (w := w.alloc (.cells #[.int .i64 m] 3)) w.heap.size (by simp)
    rw [World.size_alloc] at o0
    obtain ⟨x1, w3, r1, o1, g1, b1⟩ := app24 o0 (hu.below hb0) (by simp; omega) hb0.size
    have B1 := hb0.trans b1
    have hI3 := hI.same (.of_grown g1 (fun b hb e => by simp [Value.ownBlock] at e hb; omega))
    obtain ⟨x2, w4, r2, o2, -, b2⟩ := app24 o1 hI3 (by simp; omega) B1.size
    exact ⟨x1, w3, x2, w4, Lib.hid B1, Lib.hid r1, Lib.hid r2, Lib.hid (by simpa using o2), Lib.hid (B1.trans b2)⟩

theorem oper_append_run {P : Program} {w : World} {o : Oper} {a : Act} {K : Act → World → Prop} {Q : Exit → Act → World → Prop} (s x : Operand) (t : TypeId)
    (ho : o.op = .call { callee := .builtin .append, args := #[s, x], argTypes := #[t, t] }) {vs vx : Value} (hs : a.eval s = vs) (hx : a.eval x = vx) {v' : Value} {w' : World}
    (hr : (Builtin.append_ #[t, t] o.type #[vs, vx]).run P w = .ok v' w') (h : K (a.put o.dst v') w') : Oper.wp P o a w K Q := by
  unfold Oper.wp execOp
  simp only [ho, resolve, invoke, builtin, Sem.run_bind, Sem.run_pure, Result.andThen_ok, List.map_toArray, List.map_cons, List.map_nil, hs, hx, hr]
  exact h
section
variable {P : Program} {Q : Exit → Act → World → Prop} {md : Region.Mode} {S : World → Prop} {l : List Oper} {listed : Array Bool} {fuel : Nat} {a : Act} {w : World}
/-- two operations either of which may come up -/
theorem region_two (i j : Nat) {o o' : Oper} (hi : l[i]? = some o) (hj : l[j]? = some o') (hr : Region.ready md l.toArray listed = [i, j])
    (h : ∀ K' : Act → World → Prop, Shut (∀ a w, S w → (S w → wpAnyH P md l.toArray Q S fuel (listed.setIfInBounds i true) a w) → K' a w) → if Region.wanted o (yielded l.toArray a.tmps) = true then Oper.wp P o a w K' Q else K' (a.put o.dst undef) w)
    (h' : ∀ K' : Act → World → Prop, Shut (∀ a w, S w → (S w → wpAnyH P md l.toArray Q S fuel (listed.setIfInBounds j true) a w) → K' a w) → if Region.wanted o' (yielded l.toArray a.tmps) = true then Oper.wp P o' a w K' Q else K' (a.put o'.dst undef) w) :
    wpAnyH P md l.toArray Q S (fuel + 1) listed a w :=
  wpAnyH_ready hr (by simp) (AllReadyH.cons (by simpa using hi) h (AllReadyH.cons (by simpa using hj) h' AllReadyH.nil))
end

theorem ite_yes {c : Prop} [Decidable c] {p q : Prop} (h : c) (hp : p) : if c then p else q := by rw [if_pos h]; exact hp
theorem place_len {s : Sg} {t : List Int} : ∀ {q : List Int} {a j : Nat} {rest : List Int} (_ : skip s 1 (t.drop a) = some rest) (_ : place s t q a = some j), a + q.length ≤ j
  | [], a, j, rest, h, hp => by
    simp only [place, Option.some.injEq] at hp
    simp; omega
  | k :: ks, a, j, rest, h, hp => by
    rw [place] at hp
    cases hy : stepTo s t a k with
    | none => rw [hy] at hp; cases hp
    | some y =>
      rw [hy, Option.bind_some] at hp
      obtain ⟨n, rfl, hn, h1, h2, h3, ry, h4, h5⟩ := step_skip h hy
      have ih := place_len h4 hp
      rw [List.length_cons]; omega
def waysOk (s : Sg) (t : List Int) (at_ m : Nat) (L : List (List Int)) : Prop :=
  L.length = t.length ∧ ∀ j (hj : j < L.length), (j = 0 ∨ (∃ (p : Nat) (k : Int), p < at_ ∧ stepTo s t p k = some j) ∨ (∃ k : Nat, k < m ∧ stepTo s t at_ k = some j)) → L[j] = way s t j
theorem waysOk_start {s : Sg} {t : List Int} (h : okT s t = true) : waysOk s t 0 0 (List.replicate t.length []) := by
  refine ⟨by simp, fun j hj hc => ?_⟩
  rcases hc with rfl | ⟨p, k, hp, -⟩ | ⟨k, hk, -⟩
  · simp [way_zero h]
  · omega
  · omega
theorem waysOk_next {s : Sg} {t : List Int} {LL : List (List Int)} {at_ M : Nat} (h : waysOk s t at_ M LL) {r : List Int} (hs : skip s 1 (t.drop at_) = some r) (hM : ar s (t.getD at_ 0) = M) : waysOk s t (at_ + 1) 0 LL := by
  refine ⟨h.1, fun j hj hc => h.2 j hj ?_⟩
  rcases hc with rfl | ⟨p, k, hp, hk⟩ | ⟨k, hk, -⟩
  · exact .inl rfl
  · by_cases hp2 : p < at_
    · exact .inr (.inl ⟨p, k, hp2, hk⟩)
    · obtain rfl : p = at_ := by omega
      obtain ⟨n, rfl, hn, -⟩ := step_skip hs hk
      exact .inr (.inr ⟨n, by omega, hk⟩)
  · omega
theorem waysOk_at {s : Sg} {t : List Int} (h : okT s t = true) {LL : List (List Int)} {at_ m : Nat} (ho : waysOk s t at_ m LL) (ha : at_ < LL.length) : LL[at_] = way s t at_ := by
  have hl : at_ < t.length := by rw [← ho.1]; exact ha
  refine ho.2 at_ ha ?_
  rcases Nat.eq_zero_or_pos at_ with h0 | h0
  · exact .inl h0
  · obtain ⟨q0, k, p, -, hp, hk⟩ := place_parent ((way_place h).2 at_ hl).1 h0
    have hpb := place_bound (okT_skip0 h) hp
    obtain ⟨-, hlt, -⟩ := way_step h (by omega) hk
    exact .inr (.inl ⟨p, k, hlt, hk⟩)
theorem waysOk_set {s : Sg} {t : List Int} (h : okT s t = true) {LL : List (List Int)} {at_ m y : Nat} (ho : waysOk s t at_ m LL) (ha : at_ < t.length) (hy : stepTo s t at_ m = some y) : waysOk s t at_ (m + 1) (LL.set y (way s t at_ ++ [(m : Int)])) := by
  refine ⟨by rw [List.length_set]; exact ho.1, fun j hj hc => ?_⟩
  rw [List.length_set] at hj
  rw [List.getElem_set]
  by_cases hjy : y = j
  · subst hjy
    rw [if_pos rfl, (way_step h ha hy).2.2]
  · rw [if_neg hjy]
    refine ho.2 j hj ?_
    rcases hc with h1 | h1 | ⟨k, hk, h1⟩
    · exact .inl h1
    · exact .inr (.inl h1)
    · by_cases hkm : k = m
      · subst hkm; rw [hy] at h1; exact (hjy (Option.some.inj h1)).elim
      · exact .inr (.inr ⟨k, by omega, h1⟩)
theorem makeNils {W : World} (n : Nat) (hn : n ≤ 100) : (Instr.makeSlice 54 (.int .i64 (n : Int)) (.int .i64 (n : Int))).run Try.prog W = .ok (.slice (some ⟨W.heap.size, 0, none⟩) n n) (W.alloc (.cells (Array.replicate n (.slice none 0 0)) 24)) := by
  obtain ⟨i, hi, hz0, hz1, hz2⟩ := info_parts infoPath
  have := run_make (P := Try.prog) W 54 24 i (.slice none 0 0) Try.underlying54 hi hz0 .i64 .i64 n n (by omega) (by omega) (by rw [hz2]; omega) (by omega)
  rw [this, hz1, Int.toNat_natCast, Nat.mul_one]
  have hm : madeCells (Value.slice none 0 0).cells n = Array.replicate n (.slice none 0 0) := by
    apply Array.ext
    · simp [madeCells]
    · intro i h1 h2; simp [madeCells, Value.cells, Nat.mod_one]
  rw [hm]
def wayRel1 (s : Sg) (t : List Int) (w : World) (B g : Nat) (i : Value) (wr : World) : Prop :=
  ∃ (at_ : Nat) (L : List (List Int)), i = .int .i64 at_ ∧ at_ ≤ t.length ∧ waysOk s t at_ 0 L ∧ OwnPs (fun _ => True) wr B (.slice (some ⟨g, 0, none⟩) t.length t.length) L ∧ Below B w wr
def wayRel2 (s : Sg) (t : List Int) (w : World) (B g at_ M : Nat) (a4 : Option Addr) (c4 : Nat) (P : List Int) (i : Value) (wr : World) : Prop :=
  ∃ (m : Nat) (L : List (List Int)), i = .int .i64 m ∧ m ≤ M ∧ waysOk s t at_ m L ∧ OwnPs (fun _ => True) wr B (.slice (some ⟨g, 0, none⟩) t.length t.length) L ∧ Below B w wr ∧ Ints (fun b => g < b) wr a4 c4 P
set_option maxRecDepth 20000 in
set_option maxHeartbeats 8000000 in
theorem Ways_any {S1 S2 : Nat → Prop} (a1 a2 : Option Addr) (c1 c2 : Nat) (s : Sg) (t : List Int) (w : World) (h1 : Sign S1 w a1 c1 s) (h2 : Ints S2 w a2 c2 t) (hok : okT s t = true) :
    Calls Try.prog 76 #[.slice a1 s.length c1, .slice a2 t.length c2] w fun e w' => ∃ g L, e = .returned (.slice (some ⟨g, 0, none⟩) t.length t.length) ∧ OwnPs (fun _ => True) w' w.heap.size (.slice (some ⟨g, 0, none⟩) t.length t.length) L ∧ waysOk s t t.length 0 L ∧ Below w.heap.size w w' := by
  have m2 := h2.le
  obtain ⟨hsg, hl1, hl60, -⟩ := okT_parts hok
  obtain ⟨hPLl, hway⟩ := way_place hok
  have hms := fun W => makeNils (W := W) t.length (by omega)
  have hokH := Lib.hid hok
  have hsgH := Lib.hid hsg
  have hwayH := Lib.hid hway
  clear hok hsg hway hPLl
  go_enter Try.func76, Try.ntmps76
  go_wp2_with fail
  have ho0 : OwnPs (fun _ => True) (w.alloc (.cells (Array.replicate t.length (.slice none 0 0)) 24)) w.heap.size (.slice (some ⟨w.heap.size, 0, none⟩) t.length t.length) (List.replicate t.length []) := by
    have hr := World.ownsRow_lit (base := w.heap.size) (e := 24) (size := 1) w (Array.replicate t.length (.slice none 0 0)) t.length (Nat.le_refl _) (by unfold maxLen; omega) (by simp)
    refine ⟨List.replicate t.length [.slice none 0 0], ?_, by simp, fun i g1 g2 => ⟨none, 0, by simp, by rw [List.getElem_replicate]; exact .empty⟩⟩
    have hf : (List.replicate t.length [Value.slice none 0 0]).flatten = (Array.replicate t.length (Value.slice none 0 0)).toList := by simp
    rw [hf, List.length_replicate]; exact hr
  have hB0 : Below w.heap.size w (w.alloc (.cells (Array.replicate t.length (.slice none 0 0)) 24)) := below1 _ _
  clear hms
  have ho0H := Lib.hid ho0
  have hB0H := Lib.hid hB0
  clear ho0 hB0
  go_loopw [6] (fun i wr => wayRel1 s t w w.heap.size w.heap.size i wr) (fun i _ => t.length - (intOf i).toNat)
  case atStart => exact ⟨0, _, rfl, Nat.zero_le _, waysOk_start hokH.out, ho0H.out, hB0H.out⟩
  case round =>
    obtain ⟨at_, L0, rfl, hat, hw0, ho, hB⟩ := hrel
    by_cases hlt : at_ < t.length
    · obtain ⟨-, -, r, hr⟩ := hwayH.out at_ hlt
      have ca := rArguments_any a1 a2 c1 c2 s t at_ r wr (h1.below hB) (h2.below hB) hsgH.out hr hl60
      obtain ⟨-, -, hA3, -⟩ := part_args hr
      have hso : ∀ m : Nat, m < ar s (t.getD at_ 0) → ∃ y : Nat, stepTo s t at_ m = some y ∧ (posK s t.length (ar s (t.getD at_ 0)) (t.drop (at_ + 1)))[m]? = some (y : Int) := fun m hm => by
        obtain ⟨z, r', f1, -, -, -, f5⟩ := step_ok hr m (by rw [hA3]; exact hm)
        exact ⟨z, f1, f5⟩
      have hnext := fun LL hh => waysOk_next (s := s) (t := t) (LL := LL) (at_ := at_) hh hr rfl
      have hPl := posK_length s t.length (ar s (t.getD at_ 0)) (t.drop (at_ + 1))
      obtain ⟨M, hM⟩ : ∃ M, ar s (t.getD at_ 0) = M := ⟨_, rfl⟩
      obtain ⟨P, hP⟩ : ∃ P, posK s t.length (ar s (t.getD at_ 0)) (t.drop (at_ + 1)) = P := ⟨_, rfl⟩
      rw [hP] at ca hPl
      rw [hP] at hso
      rw [hM] at hPl hso
      simp only [hM] at hnext
      have hgl := (ho.lt w.heap.size rfl).2
      have caH := Lib.hid ca
      have hsoH := Lib.hid hso
      have hnextH := Lib.hid hnext
      have hoK := Lib.hid ho
      have hBK := Lib.hid hB
      have hw0H := Lib.hid hw0
      clear ca hso hP hM hA3 hr hnext ho hB hw0 ho0H hB0H h1 h2
      go_wp2_with (go_at_call 72; refine caH.out.mono ?_; rintro e w1 ⟨v, rfl, hoP, hb1⟩; obtain ⟨a4, c4, rfl, hI0⟩ := hoP.ints; clear hoP; have mI := hI0.le; rw [hPl])
      have hI1 : Ints (fun b => w.heap.size < b) w1 a4 c4 P := hI0.weak (fun b hb => by omega)
      have hst1 := Lib.hid (hoK.out.call hb1)
      have hst2 := Lib.hid (hBK.out.trans (hb1.mono hBK.out.size))
      have hI1H := Lib.hid hI1
      clear hI0 hI1 hb1 hoK hBK caH
      go_loopw [8] (fun i wr2 => wayRel2 s t w w.heap.size w.heap.size at_ M a4 c4 P i wr2) (fun i _ => M - (intOf i).toNat)
      case atStart => exact ⟨0, L0, rfl, Nat.zero_le _, hw0H.out, hst1.out, hst2.out, hI1H.out⟩
      case round =>
        clear hst1 hst2 hI1H hw0H
        obtain ⟨m, L, rfl, hm, hwo, ho, hB, hIP⟩ := hrel
        by_cases hmM : m < M
        · obtain ⟨y, hy1, hy5⟩ := hsoH.out m hmM
          have hmP : m < P.length := by omega
          rw [List.getElem?_eq_getElem hmP] at hy5
          have hPm : P[m] = (y : Int) := Option.some.inj hy5
          obtain ⟨bl, ol, rfl, hbl, q1, -⟩ := hIP.int m hmP
          rw [hPm] at q1
          have hatL : at_ < L.length := by rw [hwo.1]; exact hlt
          have hLat := waysOk_at hokH.out hwo hatL
          obtain ⟨a', c', q2, hIu, -⟩ := OwnPs.cell ho hwo.1.symm at_ hatL
          have hok' := waysOk_set hokH.out hwo hlt hy1
          have hyb := way_step hokH.out hlt hy1
          have hwl := place_len (okT_skip0 hokH.out) ((hwayH.out at_ hlt).1)
          rw [hLat] at q2 hIu
          obtain ⟨u, hu⟩ : ∃ u, way s t at_ = u := ⟨_, rfl⟩
          rw [hu] at q2 hIu hok' hwl
          have h16 : u.length ≤ 1000 := by omega
          have hmr : inRange (m : Int) := by unfold inRange; omega
          have hyL : y < L.length := by rw [hwo.1]; exact hyb.1
          have hyt : y < t.length := hyb.1
          have haty := hyb.2.1
          have hgb : w.heap.size < bl := hbl
          have hgw := (ho.lt w.heap.size rfl).2
          obtain ⟨h3a, h3b, h3c⟩ := ways3 (w := wr.drew) (hIu.same (w' := wr.drew) (fun _ _ _ => rfl)) (m : Int) hmr h16
          have hBd : Below wr.heap.size wr wr.drew := (Below.refl _ _).drew
          have hC : ∀ w', Below wr.drew.heap.size wr.drew w' → w'.cell? ⟨bl, ol + m, none⟩ = some (.int .i64 y) ∧ w'.cell? ⟨w.heap.size, at_, none⟩ = some (.slice a' u.length c') := fun w' hb => ⟨cell_later hb q1, cell_later hb q2⟩
          have hSS : ∀ (w4 : World) (x : Value), (w4.cell? ⟨bl, ol + m, none⟩ = some (.int .i64 y) ∧ w4.cell? ⟨w.heap.size, at_, none⟩ = some (.slice a' u.length c')) → ((w4.setCell ⟨w.heap.size, y, none⟩ x).cell? ⟨bl, ol + m, none⟩ = some (.int .i64 y) ∧ (w4.setCell ⟨w.heap.size, y, none⟩ x).cell? ⟨w.heap.size, at_, none⟩ = some (.slice a' u.length c')) := fun w4 x hh =>
            ⟨(World.cell?_setCell_other _ _ _ _ (by intro e; simp at e <;> omega)).trans hh.1, (World.cell?_setCell_other _ _ _ _ (by intro e; simp at e <;> omega)).trans hh.2⟩
          have hfin : ∀ (w4 : World) (x2 : Value), OwnI w4 wr.drew.heap.size x2 (u ++ [(m : Int)]) → Below wr.drew.heap.size wr.drew w4 → ∃ a5 c5, w4.cell? ⟨w.heap.size, y, none⟩ = some (.slice a5 L[y].length c5) ∧ w4.frozen? ⟨w.heap.size, y, none⟩ = false ∧ OwnPs (fun _ => True) (w4.setCell ⟨w.heap.size, y, none⟩ x2) w.heap.size (.slice (some ⟨w.heap.size, 0, none⟩) t.length t.length) (L.set y (u ++ [(m : Int)])) ∧ Below w.heap.size w (w4.setCell ⟨w.heap.size, y, none⟩ x2) ∧ Ints (fun b => w.heap.size < b) (w4.setCell ⟨w.heap.size, y, none⟩ x2) (some ⟨bl, ol, none⟩) c4 P := by
            intro w4 x2 o4 b4
            have b4' : Below wr.heap.size wr w4 := hBd.trans b4
            have ho4 := ho.call b4'
            obtain ⟨a5, c5, q5, -, f5⟩ := OwnPs.cell ho4 hwo.1.symm y hyL
            obtain ⟨a6, c6, rfl, hI6⟩ := o4.ints
            have hst := OwnPs.set ho4 hwo.1.symm y (hI6.weak (S' := Off (fun _ => True) (.slice (some ⟨w.heap.size, 0, none⟩) t.length t.length)) (fun b hb => ⟨trivial, fun e => by simp [Value.ownBlock] at e; have : wr.drew.heap.size = wr.heap.size := rfl; omega⟩))
            refine ⟨a5, c5, q5, f5, hst.1, (hB.trans (b4'.mono hB.size)).grown hst.2 (by have := hB.size; have := b4'.size; omega) (fun j e => by simp at e; omega), (hIP.below b4').same (.of_grown hst.2 (fun b hb e => by simp at e; omega))⟩
          have hfinH := Lib.hid hfin
          have hokH2 := Lib.hid hok'
          clear hfin hok' ho hB hIP hwo hBd hLat hyb hwl hu hy1 hy5 hPm hIu hsoH
          go_wp2_with fail
          refine wp_region_held_drew (S := fun w' => w'.cell? ⟨bl, ol + m, none⟩ = some (.int .i64 y) ∧ w'.cell? ⟨w.heap.size, at_, none⟩ = some (.slice a' u.length c')) (by kernel_rfl) (hC _ (.refl _ _)) (fun hS => ?_)
          refine region_take 0 (some 28) (v := ?_) rfl rfl (by kernel_rfl) (by kernel_rfl) (by kernel_rfl) (fun _ _ _ h => h) rfl ?_ hS ?_
          rotate_left
          · (intro w9 hS9; go_simp; try (with_reducible rfl))
          simp only [Act.put, List.setIfInBounds_toArray, List.set_cons_zero, List.set_cons_succ]
          refine region_take 1 (some 29) (v := ?_) rfl rfl (by kernel_rfl) (by kernel_rfl) (by kernel_rfl) (fun _ _ _ h => h) rfl ?_ hS ?_
          rotate_left
          · (intro w9 hS9; go_simp; try (with_reducible rfl))
          simp only [Act.put, List.setIfInBounds_toArray, List.set_cons_zero, List.set_cons_succ]
          refine region_take 2 (some 30) (v := ?_) rfl rfl (by kernel_rfl) (by kernel_rfl) (by kernel_rfl) (fun _ _ _ h => h) rfl ?_ hS ?_
          rotate_left
          · (intro w9 hS9; go_simp; try (with_reducible rfl))
          simp only [Act.put, List.setIfInBounds_toArray, List.set_cons_zero, List.set_cons_succ]
          refine region_take 3 (some 31) (v := ?_) rfl rfl (by kernel_rfl) (by kernel_rfl) (by kernel_rfl) (fun _ _ _ h => h) rfl ?_ hS ?_
          rotate_left
          · (intro w9 hS9; go_simp; try (with_reducible rfl))
          simp only [Act.put, List.setIfInBounds_toArray, List.set_cons_zero, List.set_cons_succ]
          refine region_take 4 (some 32) (v := ?_) rfl rfl (by kernel_rfl) (by kernel_rfl) (by kernel_rfl) (fun _ _ _ h => h) rfl ?_ hS ?_
          rotate_left
          · (intro w9 hS9; go_simp; try (with_reducible rfl))
          simp only [Act.put, List.setIfInBounds_toArray, List.set_cons_zero, List.set_cons_succ]
          refine region_take 6 (some 34) (v := ?_) rfl rfl (by kernel_rfl) (by kernel_rfl) (by kernel_rfl) (fun _ _ _ h => h) rfl ?_ hS ?_
          rotate_left
          · (intro w9 hS9; go_simp; try (with_reducible rfl))
          simp only [Act.put, List.setIfInBounds_toArray, List.set_cons_zero, List.set_cons_succ]
          refine region_take 7 (some 35) (v := ?_) rfl rfl (by kernel_rfl) (by kernel_rfl) (by kernel_rfl) (fun _ _ _ h => h) rfl ?_ hS ?_
          rotate_left
          · (intro w9 hS9; go_simp; try (with_reducible rfl))
          simp only [Act.put, List.setIfInBounds_toArray, List.set_cons_zero, List.set_cons_succ]
          refine region_take 8 (some 36) (v := ?_) rfl rfl (by kernel_rfl) (by kernel_rfl) (by kernel_rfl) (fun _ _ _ h => h) rfl ?_ hS ?_
          rotate_left
          · (intro w9 hS9; go_simp; try (with_reducible rfl))
          simp only [Act.put, List.setIfInBounds_toArray, List.set_cons_zero, List.set_cons_succ]
          refine region_take 9 (some 37) (v := ?_) rfl rfl (by kernel_rfl) (by kernel_rfl) (by kernel_rfl) (fun _ _ _ h => h) rfl ?_ hS ?_
          rotate_left
          · (intro w9 hS9; go_simp; try (with_reducible rfl))
          simp only [Act.put, List.setIfInBounds_toArray, List.set_cons_zero, List.set_cons_succ]
          refine region_take 11 (some 39) (v := ?_) rfl rfl (by kernel_rfl) (by kernel_rfl) (by kernel_rfl) (fun _ _ _ h => h) rfl ?_ hS ?_
          rotate_left
          · (intro w9 hS9; go_simp; try (with_reducible rfl))
          simp only [Act.put, List.setIfInBounds_toArray, List.set_cons_zero, List.set_cons_succ]
          refine region_two 5 12 rfl rfl (by kernel_rfl) (fun K hK => ?_) (fun K hK => ?_)
          · go_simp
            refine hK.out _ _ (hC _ (below1 _ _)) ?_
            clear hK hS
            intro hS
            refine region_two 10 12 rfl rfl (by kernel_rfl) (fun K hK => ?_) (fun K hK => ?_)
            · obtain ⟨x1, w2, x2, w4, B2, r1, r2, o4, b4⟩ := h3a
              refine ite_yes rfl ?_
              refine oper_append_run (.tmp 33) (.tmp 37) _ rfl rfl rfl r1.out ?_
              refine hK.out _ _ (hC _ B2.out) ?_
              clear hK hS
              intro hS
              refine region_call 12 rfl (by kernel_rfl) (fun K hK => ?_)
              go_simp
              refine hK.out _ _ (hC _ (B2.out.trans ((below1 _ _).mono B2.out.size))) ?_
              clear hK hS
              intro hS
              refine region_call 13 rfl (by kernel_rfl) (fun K hK => ?_)
              refine ite_yes rfl ?_
              refine oper_append_run (.tmp 38) (.tmp 40) _ rfl rfl rfl r2.out ?_
              refine hK.out _ _ (hC _ b4.out) ?_
              clear hK hS
              intro hS
              obtain ⟨a9, c9, rfl, -⟩ := OwnI.ints o4.out
              obtain ⟨a5, c5, q5, f5, s1, s2⟩ := hfinH.out _ _ o4.out b4.out
              rw [show (u ++ [(m : Int)]).length = u.length + 1 from by simp] at s1 s2
              refine region_take 14 (some 42) (v := ?_) rfl rfl (by kernel_rfl) (by kernel_rfl) (by kernel_rfl) (fun _ _ _ h => h) rfl ?_ hS ?_
              rotate_left
              · (intro w9 hS9; go_simp; try (with_reducible rfl))
              simp only [Act.put, List.setIfInBounds_toArray, List.set_cons_zero, List.set_cons_succ]
              refine region_call 15 rfl (by kernel_rfl) (fun K hK => ?_)
              go_simp
              refine hK.out _ _ (hSS _ _ (hC _ b4.out)) ?_
              clear hK hS
              intro hS
              refine wpAnyH_done (by kernel_rfl) ?_ _
              go_wp2_with fail
              go_roundw
              case rel => exact ⟨m + 1, _, by go_num, by omega, hokH2.out, s1, s2⟩
              case measure => simp [intOf]; omega
            · go_simp
              refine hK.out _ _ (hC _ (below2 _ _ _)) ?_
              clear hK hS
              intro hS
              obtain ⟨x1, w3, x2, w4, B2, r1, r2, o4, b4⟩ := h3b
              refine region_call 10 rfl (by kernel_rfl) (fun K hK => ?_)
              refine ite_yes rfl ?_
              refine oper_append_run (.tmp 33) (.tmp 37) _ rfl rfl rfl r1.out ?_
              refine hK.out _ _ (hC _ B2.out) ?_
              clear hK hS
              intro hS
              refine region_call 13 rfl (by kernel_rfl) (fun K hK => ?_)
              refine ite_yes rfl ?_
              refine oper_append_run (.tmp 38) (.tmp 40) _ rfl rfl rfl r2.out ?_
              refine hK.out _ _ (hC _ b4.out) ?_
              clear hK hS
              intro hS
              obtain ⟨a9, c9, rfl, -⟩ := OwnI.ints o4.out
              obtain ⟨a5, c5, q5, f5, s1, s2⟩ := hfinH.out _ _ o4.out b4.out
              rw [show (u ++ [(m : Int)]).length = u.length + 1 from by simp] at s1 s2
              refine region_take 14 (some 42) (v := ?_) rfl rfl (by kernel_rfl) (by kernel_rfl) (by kernel_rfl) (fun _ _ _ h => h) rfl ?_ hS ?_
              rotate_left
              · (intro w9 hS9; go_simp; try (with_reducible rfl))
              simp only [Act.put, List.setIfInBounds_toArray, List.set_cons_zero, List.set_cons_succ]
              refine region_call 15 rfl (by kernel_rfl) (fun K hK => ?_)
              go_simp
              refine hK.out _ _ (hSS _ _ (hC _ b4.out)) ?_
              clear hK hS
              intro hS
              refine wpAnyH_done (by kernel_rfl) ?_ _
              go_wp2_with fail
              go_roundw
              case rel => exact ⟨m + 1, _, by go_num, by omega, hokH2.out, s1, s2⟩
              case measure => simp [intOf]; omega
          · go_simp
            refine hK.out _ _ (hC _ (below1 _ _)) ?_
            clear hK hS
            intro hS
            obtain ⟨x1, w3, x2, w4, B2, r1, r2, o4, b4⟩ := h3c
            refine region_call 5 rfl (by kernel_rfl) (fun K hK => ?_)
            go_simp
            refine hK.out _ _ (hC _ (below2 _ _ _)) ?_
            clear hK hS
            intro hS
            refine region_call 10 rfl (by kernel_rfl) (fun K hK => ?_)
            refine ite_yes rfl ?_
            refine oper_append_run (.tmp 33) (.tmp 37) _ rfl rfl rfl r1.out ?_
            refine hK.out _ _ (hC _ B2.out) ?_
            clear hK hS
            intro hS
            refine region_call 13 rfl (by kernel_rfl) (fun K hK => ?_)
            refine ite_yes rfl ?_
            refine oper_append_run (.tmp 38) (.tmp 40) _ rfl rfl rfl r2.out ?_
            refine hK.out _ _ (hC _ b4.out) ?_
            clear hK hS
            intro hS
            obtain ⟨a9, c9, rfl, -⟩ := OwnI.ints o4.out
            obtain ⟨a5, c5, q5, f5, s1, s2⟩ := hfinH.out _ _ o4.out b4.out
            rw [show (u ++ [(m : Int)]).length = u.length + 1 from by simp] at s1 s2
            refine region_take 14 (some 42) (v := ?_) rfl rfl (by kernel_rfl) (by kernel_rfl) (by kernel_rfl) (fun _ _ _ h => h) rfl ?_ hS ?_
            rotate_left
            · (intro w9 hS9; go_simp; try (with_reducible rfl))
            simp only [Act.put, List.setIfInBounds_toArray, List.set_cons_zero, List.set_cons_succ]
            refine region_call 15 rfl (by kernel_rfl) (fun K hK => ?_)
            go_simp
            refine hK.out _ _ (hSS _ _ (hC _ b4.out)) ?_
            clear hK hS
            intro hS
            refine wpAnyH_done (by kernel_rfl) ?_ _
            go_wp2_with fail
            go_roundw
            case rel => exact ⟨m + 1, _, by go_num, by omega, hokH2.out, s1, s2⟩
            case measure => simp [intOf]; omega
        · obtain rfl : m = M := by omega
          have hn := hnextH.out L hwo
          have hoK := Lib.hid ho
          have hBK := Lib.hid hB
          have hnK := Lib.hid hn
          clear ho hB hwo hIP hn hsoH hnextH
          go_wp2_with fail
          go_roundw
          case rel => exact ⟨at_ + 1, L, by go_num, by omega, hnK.out, hoK.out, hBK.out⟩
          case measure => simp [intOf]; omega
    · obtain rfl : at_ = t.length := by omega
      have hoK := Lib.hid ho
      have hBK := Lib.hid hB
      have hwK := Lib.hid hw0
      clear ho hB hw0 ho0H hB0H h1 h2
      go_wp2_with fail
      go_ret
      exact ⟨_, _, rfl, hoK.out, hwK.out, hBK.out⟩
end Go.Proofs.Ytgpfdflpkaeedaa
