/- Walks: Ways, Paths of the reference. -/
import Derived.Test.YtjiffkpgadjodaaWalkY
import Derived.Test.YtjiffkpgadjodaaWalkW
import Derived.Test.YtjiffkpgadjodaaRegion
namespace Go.Proofs.Ytjiffkpgadjodaa
open Go Go.RowKit Go.Maps

noncomputable abbrev runApp (x y : Value) (w : World) : Result Value := (Builtin.append_ #[24, 24] 24 #[x, y]).run Try.prog w
theorem app24 {S2 : Nat → Prop} {w : World} {base : Nat} {v : Value} {l l2 : List Int} {a : Option Addr} {c : Nat} (ho : OwnI w base v l) (h2 : Ints S2 w a c l2) (hl : l.length + l2.length ≤ 10000000) (hb : base ≤ w.heap.size) :
    ∃ v' w', runApp v (.slice a l2.length c) w = .ok v' w' ∧ OwnI w' base v' (l ++ l2) ∧ w.grownBy w' v.ownBlock ∧ Below base w w' := by
  obtain ⟨v', w', hrun, ho', hg, -, -⟩ := ho.append_run (P := Try.prog) (t := 24) (ty := 24) Try.underlying24 infoInt rfl h2 (fun _ _ _ h => h) (by omega) (by unfold big; omega) hb
  exact ⟨v', w', hrun, ho', hg, (Below.refl _ _).grown hg hb (fun k e => (ho.lt k e).1)⟩
theorem lit1 {w : World} (m : Int) (hm : inRange m) : Ints (fun b => b = w.heap.size) (w.alloc (.cells #[.int .i64 m] 3)) (some ⟨w.heap.size, 0, none⟩) 1 [m] := by
  have := Sl.new (E := intE) (S := fun _ => False) w [[.int .i64 m]] [m] 3 rfl (by unfold big; simp) (fun i g1 g2 => by
    match i, g1 with
    | 0, _ => exact ⟨rfl, hm⟩)
  exact this.weak (fun b h => h.resolve_left (fun h => h))
theorem lit0 {w : World} (base : Nat) (hb : base ≤ w.heap.size) : OwnI (w.alloc (.cells #[] 3)) base (.slice (some ⟨w.heap.size, 0, none⟩) 0 0) [] := OwnL.made intE _ w base 3 hb
/-- the three orders in which a path with one number more is made -/
theorem ways3 {T : Nat → Prop} {w : World} {a : Option Addr} {c : Nat} {u : List Int} (hu : Ints T w a c u) (m : Int) (hm : inRange m) (hl : u.length ≤ 1000) :
    (∃ x1 w2 x2 w4, RowKit.Hid (Below w.heap.size w w2) ∧ RowKit.Hid (runApp (.slice (some ⟨w.heap.size, 0, none⟩) 0 0) (.slice a u.length c) (w.alloc (.cells #[] 3)) = .ok x1 w2) ∧ RowKit.Hid (runApp x1 (.slice (some ⟨w2.heap.size, 0, none⟩) 1 1) (w2.alloc (.cells #[.int .i64 m] 3)) = .ok x2 w4) ∧ RowKit.Hid (OwnI w4 w.heap.size x2 (u ++ [m])) ∧ RowKit.Hid (Below w.heap.size w w4)) ∧
    (∃ x1 w3 x2 w4, RowKit.Hid (Below w.heap.size w w3) ∧ RowKit.Hid (runApp (.slice (some ⟨w.heap.size, 0, none⟩) 0 0) (.slice a u.length c) ((w.alloc (.cells #[] 3)).alloc (.cells #[.int .i64 m] 3)) = .ok x1 w3) ∧ RowKit.Hid (runApp x1 (.slice (some ⟨w.heap.size + 1, 0, none⟩) 1 1) w3 = .ok x2 w4) ∧ RowKit.Hid (OwnI w4 w.heap.size x2 (u ++ [m])) ∧ RowKit.Hid (Below w.heap.size w w4)) ∧
    (∃ x1 w3 x2 w4, RowKit.Hid (Below w.heap.size w w3) ∧ RowKit.Hid (runApp (.slice (some ⟨w.heap.size + 1, 0, none⟩) 0 0) (.slice a u.length c) ((w.alloc (.cells #[.int .i64 m] 3)).alloc (.cells #[] 3)) = .ok x1 w3) ∧ RowKit.Hid (runApp x1 (.slice (some ⟨w.heap.size, 0, none⟩) 1 1) w3 = .ok x2 w4) ∧ RowKit.Hid (OwnI w4 w.heap.size x2 (u ++ [m])) ∧ RowKit.Hid (Below w.heap.size w w4)) := by
  refine ⟨?_, ?_, ?_⟩
  · have hb0 := below1 w (.cells #[] 3)
    obtain ⟨x1, w2, r1, o1, -, b1⟩ := app24 (lit0 (w := w) w.heap.size (Nat.le_refl _)) (hu.below hb0) (by simp; omega) hb0.size
    have B1 := hb0.trans b1
    have hb2 := below1 w2 (.cells #[.int .i64 m] 3)
    obtain ⟨x2, w4, r2, o2, -, b2⟩ := app24 (o1.call hb2) (lit1 m hm) (by simp; omega) (by have := B1.size; simp; omega)
    exact ⟨x1, w2, x2, w4, Lib.hid B1, Lib.hid r1, Lib.hid r2, Lib.hid (by simpa using o2), Lib.hid ((B1.trans (hb2.mono B1.size)).trans b2)⟩
  · have hb0 := below2 w (.cells #[] 3) (.cells #[.int .i64 m] 3)
    have hI := lit1 (w := w.alloc (.cells #[] 3)) m hm
    obtain ⟨x1, w3, r1, o1, g1, b1⟩ := app24 ((lit0 (w := w) w.heap.size (Nat.le_refl _)).call (below1 _ (.cells #[.int .i64 m] 3))) (hu.below hb0) (by simp; omega) hb0.size
    have B1 := hb0.trans b1
    have hI3 := hI.same (.of_grown g1 (fun b hb e => by simp [Value.ownBlock] at e hb; omega))
    obtain ⟨x2, w4, r2, o2, -, b2⟩ := app24 o1 hI3 (by simp; omega) B1.size
    rw [World.size_alloc] at r2
    exact ⟨x1, w3, x2, w4, Lib.hid B1, Lib.hid r1, Lib.hid r2, Lib.hid (by simpa using o2), Lib.hid (B1.trans b2)⟩
  · have hb0 := below2 w (.cells #[.int .i64 m] 3) (.cells #[] 3)
    have hI := (lit1 (w := w) m hm).below (below1 _ (.cells #[] 3))
    have o0 := lit0 (w := w.alloc (.cells #[.int .i64 m] 3)) w.heap.size (by simp)
    rw [World.size_alloc] at o0
    obtain ⟨x1, w3, r1, o1, g1, b1⟩ := app24 o0 (hu.below hb0) (by simp; omega) hb0.size
    have B1 := hb0.trans b1
    have hI3 := hI.same (.of_grown g1 (fun b hb e => by simp [Value.ownBlock] at e hb; omega))
    obtain ⟨x2, w4, r2, o2, -, b2⟩ := app24 o1 hI3 (by simp; omega) B1.size
    exact ⟨x1, w3, x2, w4, Lib.hid B1, Lib.hid r1, Lib.hid r2, Lib.hid (by simpa using o2), Lib.hid (B1.trans b2)⟩

theorem oper_append_run {P : Program} {w : World} {o : Oper} {a : Act} {K : Act → World → Prop} {Q : Exit → Act → World → Prop} (s x : Operand) (t : TypeId)
    (ho : o.op = .call { callee := .builtin .append, args := #[s, x], argTypes := #[t, t] }) {vs vx : Value} (hs : a.eval s = vs) (hx : a.eval x = vx) {v' : Value} {w' : World}
    (hr : (Builtin.append_ #[t, t] o.type #[vs, vx]).run P w = .ok v' w') (h : K (a.put o.dst v') w') : Oper.wp P o a w K Q := by
  unfold Oper.wp execOp
  simp only [ho, resolve, invoke, builtin, Sem.run_bind, Sem.run_pure, Result.andThen_ok, List.map_toArray, List.map_cons, List.map_nil, hs, hx, hr]
  exact h
section
variable {P : Program} {Q : Exit → Act → World → Prop} {md : Region.Mode} {S : World → Prop} {l : List Oper} {listed : Array Bool} {fuel : Nat} {a : Act} {w : World}
/-- two operations either of which may come up -/
theorem region_two (i j : Nat) {o o' : Oper} (hi : l[i]? = some o) (hj : l[j]? = some o') (hr : Region.ready md l.toArray listed = [i, j])
    (h : ∀ K' : Act → World → Prop, Shut (∀ a w, S w → (S w → wpAnyH P md l.toArray Q S fuel (listed.setIfInBounds i true) a w) → K' a w) → if Region.wanted o (yielded l.toArray a.tmps) = true then Oper.wp P o a w K' Q else K' (a.put o.dst undef) w)
    (h' : ∀ K' : Act → World → Prop, Shut (∀ a w, S w → (S w → wpAnyH P md l.toArray Q S fuel (listed.setIfInBounds j true) a w) → K' a w) → if Region.wanted o' (yielded l.toArray a.tmps) = true then Oper.wp P o' a w K' Q else K' (a.put o'.dst undef) w) :
    wpAnyH P md l.toArray Q S (fuel + 1) listed a w :=
  wpAnyH_ready hr (by simp) (AllReadyH.cons (by simpa using hi) h (AllReadyH.cons (by simpa using hj) h' AllReadyH.nil))
end

theorem ite_yes {c : Prop} [Decidable c] {p q : Prop} (h : c) (hp : p) : if c then p else q := by rw [if_pos h]; exact hp
theorem place_len {s : Sg} {t : List Int} : ∀ {q : List Int} {a j : Nat} {rest : List Int} (_ : skip s 1 (t.drop a) = some rest) (_ : place s t q a = some j), a + q.length ≤ j
  | [], a, j, rest, h, hp => by
    simp only [place, Option.some.injEq] at hp
    simp; omega
  | k :: ks, a, j, rest, h, hp => by
    rw [place] at hp
    cases hy : stepTo s t a k with
    | none => rw [hy] at hp; cases hp
    | some y =>
      rw [hy, Option.bind_some] at hp
      obtain ⟨n, rfl, hn, h1, h2, h3, ry, h4, h5⟩ := step_skip h hy
      have ih := place_len h4 hp
      rw [List.length_cons]; omega
def waysOk (s : Sg) (t : List Int) (at_ m : Nat) (L : List (List Int)) : Prop :=
  L.length = t.length ∧ ∀ j (hj : j < L.length), (j = 0 ∨ (∃ (p : Nat) (k : Int), p < at_ ∧ stepTo s t p k = some j) ∨ (∃ k : Nat, k < m ∧ stepTo s t at_ k = some j)) → L[j] = way s t j
theorem waysOk_start {s : Sg} {t : List Int} (h : okT s t = true) : waysOk s t 0 0 (List.replicate t.length []) := by
  refine ⟨by simp, fun j hj hc => ?_⟩
  rcases hc with rfl | ⟨p, k, hp, -⟩ | ⟨k, hk, -⟩
  · simp [way_zero h]
  · omega
  · omega
theorem waysOk_next {s : Sg} {t : List Int} {LL : List (List Int)} {at_ M : Nat} (h : waysOk s t at_ M LL) {r : List Int} (hs : skip s 1 (t.drop at_) = some r) (hM : ar s (t.getD at_ 0) = M) : waysOk s t (at_ + 1) 0 LL := by
  refine ⟨h.1, fun j hj hc => h.2 j hj ?_⟩
  rcases hc with rfl | ⟨p, k, hp, hk⟩ | ⟨k, hk, -⟩
  · exact .inl rfl
  · by_cases hp2 : p < at_
    · exact .inr (.inl ⟨p, k, hp2, hk⟩)
    · obtain rfl : p = at_ := by omega
      obtain ⟨n, rfl, hn, -⟩ := step_skip hs hk
      exact .inr (.inr ⟨n, by omega, hk⟩)
  · omega
theorem waysOk_at {s : Sg} {t : List Int} (h : okT s t = true) {LL : List (List Int)} {at_ m : Nat} (ho : waysOk s t at_ m LL) (ha : at_ < LL.length) : LL[at_] = way s t at_ := by
  have hl : at_ < t.length := by rw [← ho.1]; exact ha
  refine ho.2 at_ ha ?_
  rcases Nat.eq_zero_or_pos at_ with h0 | h0
  · exact .inl h0
  · obtain ⟨q0, k, p, -, hp, hk⟩ := place_parent ((way_place h).2 at_ hl).1 h0
    have hpb := place_bound (okT_skip0 h) hp
    obtain ⟨-, hlt, -⟩ := way_step h (by omega) hk
    exact .inr (.inl ⟨p, k, hlt, hk⟩)
theorem waysOk_set {s : Sg} {t : List Int} (h : okT s t = true) {LL : List (List Int)} {at_ m y : Nat} (ho : waysOk s t at_ m LL) (ha : at_ < t.length) (hy : stepTo s t at_ m = some y) : waysOk s t at_ (m + 1) (LL.set y (way s t at_ ++ [(m : Int)])) := by
  refine ⟨by rw [List.length_set]; exact ho.1, fun j hj hc => ?_⟩
  rw [List.length_set] at hj
  rw [List.getElem_set]
  by_cases hjy : y = j
  · subst hjy
    rw [if_pos rfl, (way_step h ha hy).2.2]
  · rw [if_neg hjy]
    refine ho.2 j hj ?_
    rcases hc with h1 | h1 | ⟨k, hk, h1⟩
    · exact .inl h1
    · exact .inr (.inl h1)
    · by_cases hkm : k = m
      · subst hkm; rw [hy] at h1; exact (hjy (Option.some.inj h1)).elim
      · exact .inr (.inr ⟨k, by omega, h1⟩)
theorem makeNils {W : World} (n : Nat) (hn : n ≤ 100) : (Instr.makeSlice 33 (.int .i64 (n : Int)) (.int .i64 (n : Int))).run Try.prog W = .ok (.slice (some ⟨W.heap.size, 0, none⟩) n n) (W.alloc (.cells (Array.replicate n (.slice none 0 0)) 24)) := by
  obtain ⟨i, hi, hz0, hz1, hz2⟩ := info_parts infoPath
  have := run_make (P := Try.prog) W 33 24 i (.slice none 0 0) Try.underlying33 hi hz0 .i64 .i64 n n (by omega) (by omega) (by rw [hz2]; omega) (by omega)
  rw [this, hz1, Int.toNat_natCast, Nat.mul_one]
  have hm : madeCells (Value.slice none 0 0).cells n = Array.replicate n (.slice none 0 0) := by
    apply Array.ext
    · simp [madeCells]
    · intro i h1 h2; simp [madeCells, Value.cells, Nat.mod_one]
  rw [hm]
def wayRel1 (s : Sg) (t : List Int) (w : World) (B g : Nat) (i : Value) (wr : World) : Prop :=
  ∃ (at_ : Nat) (L : List (List Int)), i = .int .i64 at_ ∧ at_ ≤ t.length ∧ waysOk s t at_ 0 L ∧ OwnPs (fun _ => True) wr B (.slice (some ⟨g, 0, none⟩) t.length t.length) L ∧ Below B w wr
def wayRel2 (s : Sg) (t : List Int) (w : World) (B g at_ M : Nat) (a4 : Option Addr) (c4 : Nat) (P : List Int) (i : Value) (wr : World) : Prop :=
  ∃ (m : Nat) (L : List (List Int)), i = .int .i64 m ∧ m ≤ M ∧ waysOk s t at_ m L ∧ OwnPs (fun _ => True) wr B (.slice (some ⟨g, 0, none⟩) t.length t.length) L ∧ Below B w wr ∧ Ints (fun b => g < b) wr a4 c4 P
end Go.Proofs.Ytjiffkpgadjodaa
