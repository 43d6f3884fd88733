/- Walks of package unify: solve. -/
import Derived.Test.YtgkddhakhapjlaaUSolveA
import Derived.Test.YtgkddhakhapjlaaWalkR
import Derived.Test.YtgkddhakhapjlaaRegion
namespace Go.Proofs.Ytgkddhakhapjlaa
open Go Go.RowKit Go.Maps

theorem OwnPr.lit1 {w : World} {S : Nat → Prop} {a a' : Option Addr} {c c' : Nat} {t u : List Int} (h : Ints S w a c t) (h' : Ints S w a' c' u) :
    OwnPr S (w.alloc (.cells #[.slice a t.length c, .slice a' u.length c'] 79)) w.heap.size (.slice (some ⟨w.heap.size, 0, none⟩) 1 1) [(t, u)] := by
  have hr := World.ownsRow_lit (base := w.heap.size) (e := 79) (size := 2) w #[.slice a t.length c, .slice a' u.length c'] 1 (Nat.le_refl _) (by unfold maxLen; omega) (by simp)
  refine ⟨[[.slice a t.length c, .slice a' u.length c']], hr, rfl, fun i g1 g2 => ?_⟩
  obtain rfl : i = 0 := by simp at g1; omega
  have hA := Agree.all (S := S) (below1 w (.cells #[.slice a t.length c, .slice a' u.length c'] 79))
  have hm : ∀ b, b < w.heap.size → S b → Off S (.slice (some ⟨w.heap.size, 0, none⟩) 1 1) b := fun b hb hs => ⟨hs, fun e => by simp [Value.ownBlock] at e; omega⟩
  exact ⟨[_], [_], rfl, ⟨a, c, rfl, h.mono hm hA⟩, ⟨a', c', rfl, h'.mono hm hA⟩⟩
theorem T0.back {w0 w : World} (hB : Below w0.heap.size w0 w) {S : Nat → Prop} {a : Option Addr} {c : Nat} {t : List Int} (h : Ints S w a c t) (hS : ∀ b, S b → b < w0.heap.size) : T0 w0 a c t :=
  h.mono (fun b _ hb => hS b hb) (fun b hb _ => (hB.block b (hS b hb)).symm)

def solRel (w0 wS : World) (xb mb : Nat) (a1 : Option Addr) (c1 : Nat) (s : Sg) (a b : List Int) (k : Nat) (lv : Value) (wr : World) : Prop :=
  ∃ B θ ρ n L, St s a b k B θ ρ L ∧ n + free B ≤ 24 ∧ SolvW w0 wr xb mb n a1 c1 s B ∧ OwnPr (fun b => b < w0.heap.size) wr wS.heap.size lv L ∧ wS.heap.size ≤ wr.heap.size
def solRet (w0 : World) (xb mb : Nat) (a1 : Option Addr) (c1 : Nat) (s : Sg) (a b : List Int) (e : Ending) (w' : World) : Prop :=
  ∃ r, e = .returned (.bool r) ∧ Below w0.heap.size w0 w' ∧ (r = false → ∀ η, Wsub s η → ap η a ≠ ap η b) ∧
    (r = true → ∃ B θ ρ n, Slv s B θ ρ ∧ RgB B ∧ (∀ η, Wsub s η → (Sat B η ↔ ap η a = ap η b)) ∧ SolvW w0 w' xb mb n a1 c1 s B ∧ ∀ n u, B n = some u → InfT a b u)
section
variable {P : Program} {Q : Exit → Act → World → Prop} {md : Region.Mode} {S : World → Prop} {l : List Oper} {listed : Array Bool} {fuel : Nat} {a : Act} {w : World}
/-- two operations either of which may come up -/
theorem region_2 (i j : Nat) {o o' : Oper} (hi : l[i]? = some o) (hj : l[j]? = some o') (hr : Region.ready md l.toArray listed = [i, j])
    (h : ∀ K' : Act → World → Prop, Shut (∀ a w, S w → (S w → wpAnyH P md l.toArray Q S fuel (listed.setIfInBounds i true) a w) → K' a w) → if Region.wanted o (yielded l.toArray a.tmps) = true then Oper.wp P o a w K' Q else K' (a.put o.dst undef) w)
    (h' : ∀ K' : Act → World → Prop, Shut (∀ a w, S w → (S w → wpAnyH P md l.toArray Q S fuel (listed.setIfInBounds j true) a w) → K' a w) → if Region.wanted o' (yielded l.toArray a.tmps) = true then Oper.wp P o' a w K' Q else K' (a.put o'.dst undef) w) :
    wpAnyH P md l.toArray Q S (fuel + 1) listed a w :=
  wpAnyH_ready hr (by simp) (AllReadyH.cons (by simpa using hi) h (AllReadyH.cons (by simpa using hj) h' AllReadyH.nil))
end
theorem oper_append_run {P : Program} {w : World} {o : Oper} {a : Act} {K : Act → World → Prop} {Q : Exit → Act → World → Prop} (s x : Operand) (t : TypeId)
    (ho : o.op = .call { callee := .builtin .append, args := #[s, x], argTypes := #[t, t] }) {vs vx : Value} (hs : a.eval s = vs) (hx : a.eval x = vx) {v' : Value} {w' : World}
    (hr : (Builtin.append_ #[t, t] o.type #[vs, vx]).run P w = .ok v' w') (h : K (a.put o.dst v') w') : Oper.wp P o a w K Q := by
  unfold Oper.wp execOp
  simp only [ho, resolve, invoke, builtin, Sem.run_bind, Sem.run_pure, Result.andThen_ok, List.map_toArray, List.map_cons, List.map_nil, hs, hx, hr]
  exact h
theorem SolvW.keep {w0 w w' : World} {xb mb n K : Nat} {a1 : Option Addr} {c1 : Nat} {s : Sg} {B : Bd} (h : SolvW w0 w xb mb n a1 c1 s B) (hb : Below K w w') (h1 : xb < K) (h2 : mb < K) (h3 : w0.heap.size ≤ K) : SolvW w0 w' xb mb n a1 c1 s B :=
  ⟨(World.cell?_of_block (a := ⟨xb, 0, none⟩) (hb.block xb h1)).trans h.k0, (World.cell?_of_block (a := ⟨xb, 1, none⟩) (hb.block xb h1)).trans h.k1, h.map.below hb h2, h.bx, h.bm, h.ne, h.sg, h.bel.trans (hb.mono h3), h.wf⟩
theorem SolvW.stored {w0 w w' : World} {xb mb n n' : Nat} {a1 : Option Addr} {c1 : Nat} {s : Sg} {B : Bd} {v : Int} {q : List Int} (h : SolvW w0 w xb mb n a1 c1 s B) (hg : w.grownBy w' (some mb)) (hD : BdMap w0 w' mb n' (upB B v q)) (hq : W1 s q) : SolvW w0 w' xb mb n' a1 c1 s (upB B v q) := by
  have hx : w'.heap[xb]? = w.heap[xb]? := hg.block xb h.lt (fun e => h.ne (by injection e))
  refine ⟨(World.cell?_of_block (a := ⟨xb, 0, none⟩) hx).trans h.k0, (World.cell?_of_block (a := ⟨xb, 1, none⟩) hx).trans h.k1, hD, h.bx, h.bm, h.ne, h.sg, h.bel.grown hg h.bel.size (fun j e => by have := h.bm; injection e with e; omega), fun m u hu => ?_⟩
  unfold upB at hu
  split at hu
  · cases hu; exact hq
  · exact h.wf m u hu
def inRel (w0 wS : World) (xb mb n : Nat) (a1 : Option Addr) (c1 : Nat) (s : Sg) (B : Bd) (L0 : Prs) (P Q : List Int) (N : Nat) (lv iv jv cv : Value) (wr : World) : Prop :=
  ∃ m : Nat, cv = .int .i64 m ∧ m ≤ N ∧ iv = .int .i64 (apos s P m : Nat) ∧ jv = .int .i64 (apos s Q m : Nat) ∧ OwnPr (fun b => b < w0.heap.size) wr wS.heap.size lv (L0 ++ ((argsW s P).zip (argsW s Q)).take m) ∧ SolvW w0 wr xb mb n a1 c1 s B ∧ wS.heap.size ≤ wr.heap.size
theorem Pr_push {S : Nat → Prop} {w : World} {base : Nat} {v : Value} {L : Prs} (ho : OwnPr S w base v L) (hS : ∀ b, S b → b < base) (hbs : base ≤ w.heap.size) {a a' : Option Addr} {c c' : Nat} {t u : List Int} (h : Ints S w a c t) (h' : Ints S w a' c' u) (hl : L.length + 1 ≤ 100000000) :
    ∃ v' w', RowKit.Hid ((Builtin.append_ #[80, 80] 80 #[v, .slice (some ⟨w.heap.size, 0, none⟩) 1 1]).run Try.prog (w.alloc (.cells #[.slice a t.length c, .slice a' u.length c'] 79)) = .ok v' w') ∧ RowKit.Hid (OwnPr S w' base v' (L ++ [(t, u)])) ∧ RowKit.Hid (Below base w w') := by
  have hw : ∀ b, S b → Off S v b := fun b hb => ⟨hb, fun e => by have := (OwnL.lt ho b e.symm).1; have := hS b hb; omega⟩
  obtain ⟨v', w', hrun, ho', hg, -⟩ := OwnL.push (P := Try.prog) (t := 80) (ty := 80) ho Try.underlying80 infoPair rfl (vs := [.slice a t.length c, .slice a' u.length c']) (x := (t, u)) ⟨[_], [_], rfl, ⟨a, c, rfl, h.weak hw⟩, ⟨a', c', rfl, h'.weak hw⟩⟩ (by omega) (by unfold big; omega) hbs
  exact ⟨v', w', Lib.hid hrun, Lib.hid ho', Lib.hid ((Below.refl base w).grown hg hbs (fun k e => (OwnL.lt ho k e).1))⟩
theorem rank_head (ρ : Int → Nat) (t : List Int) : ∀ n r, t = n :: r → n < 0 → ρ n < ρ (t.headD 0) + 1 := fun n r e _ => by rw [e]; simp
theorem last_snoc {α : Type} {L : List α} (h : 0 < L.length) : ∃ L0 e, L = L0 ++ [e] ∧ L0.length + 1 = L.length := by
  rcases List.eq_nil_or_concat L with rfl | ⟨L0, e, rfl⟩
  · simp at h
  · exact ⟨L0, e, by rw [List.concat_eq_append], by simp⟩
set_option maxRecDepth 20000 in
set_option maxHeartbeats 1000000 in
theorem solve_any {w0 wS : World} {xb mb : Nat} {a1 : Option Addr} {c1 : Nat} {s : Sg} (hok : okSign s = true) (hS : SolvW w0 wS xb mb 0 a1 c1 s (fun _ => none)) {a2 a3 : Option Addr} {c2 c3 : Nat} {a b : List Int} (ta : T0 w0 a2 c2 a) (tb : T0 w0 a3 c3 b)
    (ha : W1 s a) (hb : W1 s b) (ra : Rg a) (rb : Rg b) (la : a.length ≤ 1000) (lb : b.length ≤ 1000) :
    Calls Try.prog 32 #[.pointer (some ⟨xb, 0, none⟩), .slice a2 a.length c2, .slice a3 b.length c3] wS (solRet w0 xb mb a1 c1 s a b) := by
  obtain ⟨k0, hst⟩ := St.start ha hb ra rb
  have hxS := hS.lt
  have hmS := hS.map.lt
  have hz := hS.bel.size
  have hSH := Lib.hid hS
  have hstH := Lib.hid hst
  have hokH := Lib.hid hok
  have m2 := ta.le
  have m3 := tb.le
  have hlit := Lib.hid (OwnPr.lit1 (w := wS) (ta.below hS.bel) (tb.below hS.bel))
  clear ha hb ra rb hst hS hok ta tb
  go_enter Try.func32, Try.ntmps32
  go_wp2_with fail
  go_loopg [7] k0 (fun k lv wr => solRel w0 wS xb mb a1 c1 s a b k lv wr)
  case atStart => exact ⟨_, _, _, 0, _, hstH.out, by rw [free_none]; omega, hSH.out.below (below1 _ _), hlit.out, by simp⟩
  case round =>
    obtain ⟨B, θ, ρ, n, L, hst, hn, hS, ho, hsz⟩ := hrel
    obtain ⟨al, cl, hv, hsl⟩ := OwnL.sl ho
    by_cases hL : 0 < L.length
    · obtain ⟨g, cap, hvv, hg1, hg2⟩ := OwnL.form ho (by intro e; rw [e] at hL; simp at hL)
      subst hvv
      obtain ⟨L0, ⟨x, y⟩, hLe, hLl⟩ := last_snoc hL
      have hll := hst.len la lb
      obtain ⟨ax, cx, ay, cy, qx, qy, hIx, hIy⟩ := OwnPr.cell ho rfl L0.length (by omega)
      have hi : L[L0.length]'(by omega) = (x, y) := by
        have : L[L0.length]? = some (x, y) := by rw [hLe]; simp
        rw [List.getElem?_eq_getElem (by omega)] at this
        exact Option.some.inj this
      rw [hi] at qx qy hIx hIy
      simp only at qx qy hIx hIy
      have hot := OwnPr.take ho rfl (k := L0.length) (by omega)
      rw [hLe, List.take_left] at hot
      have tx := T0.back hS.bel hIx (fun b hb => hb.1)
      have ty := T0.back hS.bel hIy (fun b hb => hb.1)
      have hsg : IntKind.i64.wrap (((L.length : Nat) : Int) - 1) = (L0.length : Nat) := by rw [show (((L.length : Nat) : Int) - 1) = (L0.length : Nat) by omega]; exact IntWalk.i64_in _ (by omega)
      have hlt1 : ((L0.length : Nat) : Int) < L.length := by omega
      have hlt0 : (0 : Int) ≤ (L0.length : Nat) := by omega
      have hcap : L.length ≤ cap := by have := hsl.cap; simp at hv; omega
      subst hLe
      obtain ⟨gk', rfl⟩ := hst.pos
      obtain ⟨hx, hy, -⟩ := hst.item
      obtain ⟨px, hpx⟩ := Lkd.ex hst.slv _ x (rank_head ρ x)
      obtain ⟨py, hpy⟩ := Lkd.ex hst.slv _ y (rank_head ρ y)
      obtain ⟨ap, cp, hTp, clx⟩ := look_any (hS.below (below1 wr (.cells #[.slice ax x.length cx, .slice ay y.length cy] 79))) tx hx.1 hpx
      obtain ⟨aq, cq, hTq, cly⟩ := look_any (hS.below (below1 wr (.cells #[.slice ax x.length cx, .slice ay y.length cy] 79))) ty hy hpy
      obtain ⟨lL, hlL⟩ : ∃ l, (L0 ++ [(x, y)]).length = l := ⟨_, rfl⟩
      rw [hlL] at hsg hlt1 hcap hLl hL hll
      simp only [hlL]
      obtain ⟨W1, hW1⟩ : ∃ W1, wr.alloc (.cells #[.slice ax x.length cx, .slice ay y.length cy] 79) = W1 := ⟨_, rfl⟩
      have hb1 : Below wr.heap.size wr W1 := by rw [← hW1]; exact below1 _ _
      rw [hW1] at clx cly
      have u0 : W1.cell? ⟨wr.heap.size, 0, none⟩ = some (.slice ax x.length cx) := by rw [← hW1]; clear hW1; go_simp
      have u1 : W1.cell? ⟨wr.heap.size, 1, none⟩ = some (.slice ay y.length cy) := by rw [← hW1]; clear hW1; go_simp
      have hS1 := hS.below hb1
      have hot1 := OwnL.call hot hb1
      have hsz1 := Nat.le_trans hsz hb1.size
      have hN := hst.nxt hpx hpy
      obtain ⟨sp, sq⟩ := hst.seen hpx hpy
      have lp := sp.w.len
      have lq := sq.w.len
      obtain ⟨bp, op, rfl, hbp, qp, rp⟩ := (hTp.below hS1.bel).int 0 (by omega)
      obtain ⟨bq, oq, rfl, hbq, qq, rq⟩ := (hTq.below hS1.bel).int 0 (by omega)
      rw [Nat.add_zero] at qp qq
      have hp0 : px[0] = px.headD 0 := by cases px with | nil => simp at lp | cons _ _ => rfl
      have hq0 : py[0] = py.headD 0 := by cases py with | nil => simp at lq | cons _ _ => rfl
      rw [hp0] at qp rp
      rw [hq0] at qq rq
      have hturn : turned px py = if py.headD 0 < 0 then (py, px) else (px, py) := rfl
      obtain ⟨p0, hp0⟩ : ∃ p0, px.headD 0 = p0 := ⟨_, rfl⟩
      obtain ⟨q0, hq0⟩ : ∃ q0, py.headD 0 = q0 := ⟨_, rfl⟩
      rw [hp0] at qp rp
      rw [hq0] at qq rq hturn
      have hNH := Lib.hid hN
      have hturnH := Lib.hid hturn
      have clxH := Lib.hid clx
      have clyH := Lib.hid cly
      have hS1H := Lib.hid hS1
      have hotH := Lib.hid hot1
      have hTpH := Lib.hid hTp
      have hTqH := Lib.hid hTq
      have hnH := Lib.hid hn
      have hW1H := Lib.hid hW1
      have hp0H := Lib.hid hp0
      have hq0H := Lib.hid hq0
      have hrpH := Lib.hid rp
      have hrqH := Lib.hid rq
      clear clx cly hst hS hot ho hTp hTq hpx hpy hn tx ty hIx hIy hi hlL hx hy hv hsl hll hb1 hS1 hot1 hN sp sq hturn hp0 hq0 rp rq hW1
      go_wp2_with fail
      rw [hW1H.out]
      clear hW1H qx qy
      go_quiet ((go_at_call 41; first | (with_reducible exact quiet_drew (clxH.out _)) | (with_reducible exact quiet_drew (clyH.out _))))
      clear clxH clyH u0 u1
      obtain ⟨W2, hW2⟩ : ∃ W2, W1.drewN nq = W2 := ⟨_, rfl⟩
      have hb2 : Below W1.heap.size W1 W2 := by rw [← hW2]; exact (Drew.mk _ _).below _
      rw [hW2]
      have hS2H := Lib.hid (hS1H.out.below hb2)
      have hot2H := Lib.hid (OwnL.call hotH.out hb2)
      have qp := cell_later hb2 qp
      have qq := cell_later hb2 qq
      have hsz2 := Nat.le_trans hsz1 hb2.size
      clear hb2 hW2 hS1H hotH hsz1
      by_cases hq : q0 < 0
      · have hN2H := Lib.hid (show Nxt s a b gk' B θ ρ L0 py px q0 p0 by
          have h := hNH.out
          rw [hturnH.out, if_pos hq] at h
          simp only [hp0H.out, hq0H.out] at h
          exact h)
        have TPH := Lib.hid hTqH.out
        have TQH := Lib.hid hTpH.out
        have lP := lq
        have lQ := lp
        have rPH := Lib.hid hrqH.out
        have rQH := Lib.hid hrpH.out
        have hcase : (q0 < 0 ∧ p0 = q0) ∨ (q0 < 0 ∧ p0 ≠ q0) ∨ (0 ≤ q0 ∧ p0 = q0) ∨ (0 ≤ q0 ∧ q0 ≠ p0) := by omega
        have hcaseH := Lib.hid hcase
        clear hNH hturnH hTpH hTqH hrpH hrqH hp0H hq0H hcase
        go_wp2_with fail
        rcases hcaseH.out with ⟨hv, hw⟩ | ⟨hv, hw⟩ | ⟨hv, hw⟩ | ⟨hv, hw⟩
        · have hnx := Lib.hid (hN2H.out.same hv hw)
          have hb : (p0 == q0) = true := by simpa using hw
          have hdv : decide (q0 < 0) = true := by simpa using hv
          clear hcaseH hw hN2H
          go_quiet (fail)
          all_goals go_wp2_with fail
          go_roundg gk'
          case measure => omega
          case rel => exact ⟨B, θ, ρ, n, L0, hnx.out, hnH.out, hS2H.out.below ((Drew.mk _ _).below _), OwnL.call hot2H.out ((Drew.mk _ _).below _), hsz2⟩
        · have hbd := Lib.hid (hN2H.out.bind hv hw)
          have hoc := Lib.hid (hN2H.out.occ hv hw)
          have hBv : B q0 = none := by have := (hN2H.out.sP.v (by rw [hN2H.out.hP]; exact hv)).2.1; rwa [hN2H.out.hP] at this
          have hV24 : -24 ≤ q0 := by have := (hN2H.out.sP.v (by rw [hN2H.out.hP]; exact hv)).2.2; rwa [hN2H.out.hP] at this
          have hfr := free_bind (q := px) hv hV24 hBv
          have cc := fun W hb => comes_any (w := W) (hS2H.out.below hb) hN2H.out.slv hN2H.out.rg hv hBv TQH.out hN2H.out.sQ.r
          have ccH := Lib.hid cc
          have hBvH := Lib.hid hBv
          have hN4H := Lib.hid hN2H.out.sQ.w
          have hb : (p0 == q0) = false := by simpa using hw
          have hdv : decide (q0 < 0) = true := by simpa using hv
          clear hcaseH hw hN2H cc hBv
          go_quiet (fail)
          all_goals go_wp2_with fail
          obtain ⟨W3, hW3⟩ : ∃ W3, W2.drewN nq = W3 := ⟨_, rfl⟩
          have hb3 : Below W2.heap.size W2 W3 := by rw [← hW3]; exact (Drew.mk _ _).below _
          rw [hW3]
          (with_reducible refine (ccH.out W3 hb3).mono ?_)
          rintro e w4 ⟨r, rfl, hr, hb4⟩
          have hb24 := bcall hb3 hb4
          have hS4H := Lib.hid (hS2H.out.below hb24)
          have hrH := Lib.hid hr
          cases r with
          | true =>
            clear hr hb3 hb4 hW3 hb24
            go_wp2_with fail
            go_ret
            exact ⟨false, rfl, hS4H.out.bel, fun _ => hoc.out (hrH.out.1 (by simp)), fun h => by cases h⟩
          | false =>
            have hot4H := Lib.hid (OwnL.call hot2H.out hb24)
            have qp4 := cell_later hb24 qq
            have k1 := hS4H.out.k1
            have hsz4 := Nat.le_trans hsz2 hb24.size
            clear hr hb3 hb4 hW3 hb24
            go_wp2_with fail
            have hnoc : q0 ∉ ap θ px := fun h => by have := hrH.out.2 h; cases this
            obtain ⟨θ', ρ', hst'⟩ := hbd.out hnoc
            have hst'H := Lib.hid hst'
            obtain ⟨w5, n5, hup, hn5, hD5, hg5, -⟩ := (hS4H.out.map.below (w' := w4.drew) (Below.drew (.refl w4.heap.size _)) hS4H.out.map.lt).store (by have := hnH.out; unfold maxLen; omega) q0 rPH.out TQH.out
            have hup2 := hup.out
            clear hst' hnoc
            have hlPi : 0 < py.length := lP
            have hxw := hS4H.out.lt
            have hbw : bq < w4.drew.heap.size := World.block_lt_of_cell? _ _ qp4
            have hBm : bq ≠ mb := by have := hS4H.out.bm; omega
            refine wp_region_held_drew (S := (fun w' => w'.cell? ⟨xb, 1, none⟩ = some (.map (some mb)) ∧ w'.cell? ⟨bq, oq, none⟩ = some (.int .i64 q0))) (by kernel_rfl) ⟨k1, qp4⟩ (fun hS => ?_)
            refine region_take 0 (some 116) (v := ?_) rfl rfl (by kernel_rfl) (by kernel_rfl) (by kernel_rfl) (fun _ _ _ h => h) rfl ?_ hS ?_
            rotate_left
            · (intro w9 hS9; go_simp; try (with_reducible rfl))
            simp only [Act.put, List.setIfInBounds_toArray, List.set_cons_zero, List.set_cons_succ]
            refine region_take 1 (some 117) (v := ?_) rfl rfl (by kernel_rfl) (by kernel_rfl) (by kernel_rfl) (fun _ _ _ h => h) rfl ?_ hS ?_
            rotate_left
            · (intro w9 hS9; go_simp; try (with_reducible rfl))
            simp only [Act.put, List.setIfInBounds_toArray, List.set_cons_zero, List.set_cons_succ]
            refine region_take 2 (some 118) (v := ?_) rfl rfl (by kernel_rfl) (by kernel_rfl) (by kernel_rfl) (fun _ _ _ h => h) rfl ?_ hS ?_
            rotate_left
            · (intro w9 hS9; go_simp; try (with_reducible rfl))
            simp only [Act.put, List.setIfInBounds_toArray, List.set_cons_zero, List.set_cons_succ]
            refine region_take 3 (some 119) (v := ?_) rfl rfl (by kernel_rfl) (by kernel_rfl) (by kernel_rfl) (fun _ _ _ h => h) rfl ?_ hS ?_
            rotate_left
            · (intro w9 hS9; go_simp; try (with_reducible rfl))
            simp only [Act.put, List.setIfInBounds_toArray, List.set_cons_zero, List.set_cons_succ]
            refine region_take 4 (some 120) (v := ?_) rfl rfl (by kernel_rfl) (by kernel_rfl) (by kernel_rfl) (fun _ _ _ h => h) rfl ?_ hS ?_
            rotate_left
            · (intro w9 hS9; go_simp; try (with_reducible rfl))
            simp only [Act.put, List.setIfInBounds_toArray, List.set_cons_zero, List.set_cons_succ]
            refine region_take 5 (some 121) (v := ?_) rfl rfl (by kernel_rfl) (by kernel_rfl) (by kernel_rfl) (fun _ _ _ h => h) rfl ?_ hS ?_
            rotate_left
            · (intro w9 hS9; go_simp; try (with_reducible rfl))
            simp only [Act.put, List.setIfInBounds_toArray, List.set_cons_zero, List.set_cons_succ]
            refine region_take 6 (some 122) (v := ?_) rfl rfl (by kernel_rfl) (by kernel_rfl) (by kernel_rfl) (fun _ _ _ h => h) rfl ?_ hS ?_
            rotate_left
            · (intro w9 hS9; go_simp; try (with_reducible rfl))
            simp only [Act.put, List.setIfInBounds_toArray, List.set_cons_zero, List.set_cons_succ]
            refine region_take 7 (some 123) (v := ?_) rfl rfl (by kernel_rfl) (by kernel_rfl) (by kernel_rfl) (fun _ _ _ h => h) rfl ?_ hS ?_
            rotate_left
            · (intro w9 hS9; go_simp; try (with_reducible rfl))
            simp only [Act.put, List.setIfInBounds_toArray, List.set_cons_zero, List.set_cons_succ]
            refine region_call 8 rfl (by kernel_rfl) (fun K hK => ?_)
            go_simp
            refine hK.out _ _ ⟨(World.cell?_of_block (hg5.out.block xb hxw (fun e => hS4H.out.ne (by injection e)))).trans k1, (World.cell?_of_block (hg5.out.block bq hbw (fun e => hBm (by injection e)))).trans qp4⟩ ?_
            clear hS hK
            intro hS
            refine wpAnyH_done (by kernel_rfl) ?_ _
            have hrel : solRel w0 wS xb mb a1 c1 s a b gk' (.slice (some ⟨g, 0, none⟩) L0.length cap) w5 :=
              ⟨_, θ', ρ', n5, L0, hst'H.out, by have := hnH.out; have := hn5.out; omega, (hS4H.out.below (Below.drew (.refl w4.heap.size _))).stored hg5.out hD5.out hN4H.out,
                OwnL.grown (OwnL.call hot4H.out (Below.drew (.refl w4.heap.size _))) hg5.out (fun j e e' => by simp [Value.ownBlock] at e; injection e' with e'; omega) (fun j hj _ e => by have := hS4H.out.bm; have hj' : j < w0.heap.size := hj; injection e with e; omega), Nat.le_trans hsz4 hg5.out.size⟩
            have hrelH := Lib.hid hrel
            clear hrel hS hup2
            go_wp2_with fail
            go_roundg gk'
            case measure => omega
            case rel => exact hrelH.out
        · omega
        · have hnx := Lib.hid (hN2H.out.clash hv hw)
          have hb : (q0 != p0) = true := by simpa using hw
          have hdv : decide (q0 < 0) = false := by simp; omega
          clear hcaseH hw hN2H
          go_quiet (fail)
          all_goals go_wp2_with fail
          all_goals go_quiet (fail)
          all_goals go_wp2_with fail
          all_goals go_ret
          all_goals exact ⟨false, rfl, bcall hS2H.out.bel ((Drew.mk2 _ _ _).below _), fun _ => hnx.out, fun h => by cases h⟩
      · have hN2H := Lib.hid (show Nxt s a b gk' B θ ρ L0 px py p0 q0 by
          have h := hNH.out
          rw [hturnH.out, if_neg hq] at h
          simp only [hp0H.out, hq0H.out] at h
          exact h)
        have TPH := Lib.hid hTpH.out
        have TQH := Lib.hid hTqH.out
        have lP := lp
        have lQ := lq
        have rPH := Lib.hid hrpH.out
        have rQH := Lib.hid hrqH.out
        have hcase : (p0 < 0 ∧ q0 = p0) ∨ (p0 < 0 ∧ q0 ≠ p0) ∨ (0 ≤ p0 ∧ q0 = p0) ∨ (0 ≤ p0 ∧ p0 ≠ q0) := by omega
        have hcaseH := Lib.hid hcase
        clear hNH hturnH hTpH hTqH hrpH hrqH hp0H hq0H hcase
        go_wp2_with fail
        rcases hcaseH.out with ⟨hv, hw⟩ | ⟨hv, hw⟩ | ⟨hv, hw⟩ | ⟨hv, hw⟩
        · have hnx := Lib.hid (hN2H.out.same hv hw)
          have hb : (q0 == p0) = true := by simpa using hw
          have hdv : decide (p0 < 0) = true := by simpa using hv
          clear hcaseH hw hN2H
          go_quiet (fail)
          all_goals go_wp2_with fail
          go_roundg gk'
          case measure => omega
          case rel => exact ⟨B, θ, ρ, n, L0, hnx.out, hnH.out, hS2H.out.below ((Drew.mk _ _).below _), OwnL.call hot2H.out ((Drew.mk _ _).below _), hsz2⟩
        · have hbd := Lib.hid (hN2H.out.bind hv hw)
          have hoc := Lib.hid (hN2H.out.occ hv hw)
          have hBv : B p0 = none := by have := (hN2H.out.sP.v (by rw [hN2H.out.hP]; exact hv)).2.1; rwa [hN2H.out.hP] at this
          have hV24 : -24 ≤ p0 := by have := (hN2H.out.sP.v (by rw [hN2H.out.hP]; exact hv)).2.2; rwa [hN2H.out.hP] at this
          have hfr := free_bind (q := py) hv hV24 hBv
          have cc := fun W hb => comes_any (w := W) (hS2H.out.below hb) hN2H.out.slv hN2H.out.rg hv hBv TQH.out hN2H.out.sQ.r
          have ccH := Lib.hid cc
          have hBvH := Lib.hid hBv
          have hN4H := Lib.hid hN2H.out.sQ.w
          have hb : (q0 == p0) = false := by simpa using hw
          have hdv : decide (p0 < 0) = true := by simpa using hv
          clear hcaseH hw hN2H cc hBv
          go_quiet (fail)
          all_goals go_wp2_with fail
          obtain ⟨W3, hW3⟩ : ∃ W3, W2.drewN nq = W3 := ⟨_, rfl⟩
          have hb3 : Below W2.heap.size W2 W3 := by rw [← hW3]; exact (Drew.mk _ _).below _
          rw [hW3]
          (with_reducible refine (ccH.out W3 hb3).mono ?_)
          rintro e w4 ⟨r, rfl, hr, hb4⟩
          have hb24 := bcall hb3 hb4
          have hS4H := Lib.hid (hS2H.out.below hb24)
          have hrH := Lib.hid hr
          cases r with
          | true =>
            clear hr hb3 hb4 hW3 hb24
            go_wp2_with fail
            go_ret
            exact ⟨false, rfl, hS4H.out.bel, fun _ => hoc.out (hrH.out.1 (by simp)), fun h => by cases h⟩
          | false =>
            have hot4H := Lib.hid (OwnL.call hot2H.out hb24)
            have QP4 := cell_later hb24 qp
            have k1 := hS4H.out.k1
            have hsz4 := Nat.le_trans hsz2 hb24.size
            clear hr hb3 hb4 hW3 hb24
            go_wp2_with fail
            have hnoc : p0 ∉ ap θ py := fun h => by have := hrH.out.2 h; cases this
            obtain ⟨θ', ρ', hst'⟩ := hbd.out hnoc
            have hst'H := Lib.hid hst'
            obtain ⟨w5, n5, hup, hn5, hD5, hg5, -⟩ := (hS4H.out.map.below (w' := w4.drew) (Below.drew (.refl w4.heap.size _)) hS4H.out.map.lt).store (by have := hnH.out; unfold maxLen; omega) p0 rPH.out TQH.out
            have hup2 := hup.out
            clear hst' hnoc
            have hlPi : 0 < px.length := lP
            have hxw := hS4H.out.lt
            have hbw : bp < w4.drew.heap.size := World.block_lt_of_cell? _ _ QP4
            have hBm : bp ≠ mb := by have := hS4H.out.bm; omega
            refine wp_region_held_drew (S := (fun w' => w'.cell? ⟨xb, 1, none⟩ = some (.map (some mb)) ∧ w'.cell? ⟨bp, op, none⟩ = some (.int .i64 p0))) (by kernel_rfl) ⟨k1, QP4⟩ (fun hS => ?_)
            refine region_take 0 (some 116) (v := ?_) rfl rfl (by kernel_rfl) (by kernel_rfl) (by kernel_rfl) (fun _ _ _ h => h) rfl ?_ hS ?_
            rotate_left
            · (intro w9 hS9; go_simp; try (with_reducible rfl))
            simp only [Act.put, List.setIfInBounds_toArray, List.set_cons_zero, List.set_cons_succ]
            refine region_take 1 (some 117) (v := ?_) rfl rfl (by kernel_rfl) (by kernel_rfl) (by kernel_rfl) (fun _ _ _ h => h) rfl ?_ hS ?_
            rotate_left
            · (intro w9 hS9; go_simp; try (with_reducible rfl))
            simp only [Act.put, List.setIfInBounds_toArray, List.set_cons_zero, List.set_cons_succ]
            refine region_take 2 (some 118) (v := ?_) rfl rfl (by kernel_rfl) (by kernel_rfl) (by kernel_rfl) (fun _ _ _ h => h) rfl ?_ hS ?_
            rotate_left
            · (intro w9 hS9; go_simp; try (with_reducible rfl))
            simp only [Act.put, List.setIfInBounds_toArray, List.set_cons_zero, List.set_cons_succ]
            refine region_take 3 (some 119) (v := ?_) rfl rfl (by kernel_rfl) (by kernel_rfl) (by kernel_rfl) (fun _ _ _ h => h) rfl ?_ hS ?_
            rotate_left
            · (intro w9 hS9; go_simp; try (with_reducible rfl))
            simp only [Act.put, List.setIfInBounds_toArray, List.set_cons_zero, List.set_cons_succ]
            refine region_take 4 (some 120) (v := ?_) rfl rfl (by kernel_rfl) (by kernel_rfl) (by kernel_rfl) (fun _ _ _ h => h) rfl ?_ hS ?_
            rotate_left
            · (intro w9 hS9; go_simp; try (with_reducible rfl))
            simp only [Act.put, List.setIfInBounds_toArray, List.set_cons_zero, List.set_cons_succ]
            refine region_take 5 (some 121) (v := ?_) rfl rfl (by kernel_rfl) (by kernel_rfl) (by kernel_rfl) (fun _ _ _ h => h) rfl ?_ hS ?_
            rotate_left
            · (intro w9 hS9; go_simp; try (with_reducible rfl))
            simp only [Act.put, List.setIfInBounds_toArray, List.set_cons_zero, List.set_cons_succ]
            refine region_take 6 (some 122) (v := ?_) rfl rfl (by kernel_rfl) (by kernel_rfl) (by kernel_rfl) (fun _ _ _ h => h) rfl ?_ hS ?_
            rotate_left
            · (intro w9 hS9; go_simp; try (with_reducible rfl))
            simp only [Act.put, List.setIfInBounds_toArray, List.set_cons_zero, List.set_cons_succ]
            refine region_take 7 (some 123) (v := ?_) rfl rfl (by kernel_rfl) (by kernel_rfl) (by kernel_rfl) (fun _ _ _ h => h) rfl ?_ hS ?_
            rotate_left
            · (intro w9 hS9; go_simp; try (with_reducible rfl))
            simp only [Act.put, List.setIfInBounds_toArray, List.set_cons_zero, List.set_cons_succ]
            refine region_call 8 rfl (by kernel_rfl) (fun K hK => ?_)
            go_simp
            refine hK.out _ _ ⟨(World.cell?_of_block (hg5.out.block xb hxw (fun e => hS4H.out.ne (by injection e)))).trans k1, (World.cell?_of_block (hg5.out.block bp hbw (fun e => hBm (by injection e)))).trans QP4⟩ ?_
            clear hS hK
            intro hS
            refine wpAnyH_done (by kernel_rfl) ?_ _
            have hrel : solRel w0 wS xb mb a1 c1 s a b gk' (.slice (some ⟨g, 0, none⟩) L0.length cap) w5 :=
              ⟨_, θ', ρ', n5, L0, hst'H.out, by have := hnH.out; have := hn5.out; omega, (hS4H.out.below (Below.drew (.refl w4.heap.size _))).stored hg5.out hD5.out hN4H.out,
                OwnL.grown (OwnL.call hot4H.out (Below.drew (.refl w4.heap.size _))) hg5.out (fun j e e' => by simp [Value.ownBlock] at e; injection e' with e'; omega) (fun j hj _ e => by have := hS4H.out.bm; have hj' : j < w0.heap.size := hj; injection e with e; omega), Nat.le_trans hsz4 hg5.out.size⟩
            have hrelH := Lib.hid hrel
            clear hrel hS hup2
            go_wp2_with fail
            go_roundg gk'
            case measure => omega
            case rel => exact hrelH.out
        · have hnx := hN2H.out.args hv hw
          have hP := hN2H.out.hP
          have hQ := hN2H.out.hQ
          have wP := hN2H.out.sP.w
          have wQ := hN2H.out.sQ.w
          rw [hw] at hQ
          obtain ⟨hlP, hms0, hatP⟩ := args_all wP hP
          obtain ⟨hlQ, -, hatQ⟩ := args_all wQ hQ
          obtain ⟨m0, hm0⟩ := Int.eq_ofNat_of_zero_le hv
          have hms : m0 < s.length := by omega
          obtain ⟨bs, os, has, -, -, qs, -, -⟩ := (hS2H.out.sg.below hS2H.out.bel).sym m0 hms
          have har := okSign_ars hokH.out m0 hms
          rw [arW_sym hms har.1] at qs
          have har3 := har.2
          rw [arW_sym hms har.1] at har3
          rw [hm0] at hlP hlQ
          obtain ⟨N, hN⟩ : ∃ N, arW s (m0 : Int) = N := ⟨_, rfl⟩
          rw [hN] at qs har3 hlP hlQ
          have hnxH := Lib.hid (hnx (by omega))
          have hatPH := Lib.hid hatP
          have hatQH := Lib.hid hatQ
          have hlPH := Lib.hid hlP
          have hlQH := Lib.hid hlQ
          have hb : (p0 != q0) = false := by simpa using hw.symm
          have hdv : decide (p0 < 0) = false := by simp; omega
          have hdv2 : ¬ p0 < 0 := by omega
          have k0 := hS2H.out.k0
          rw [has] at k0
          have hasH := Lib.hid has
          have hcpP : px.length ≤ cp := TPH.out.cap
          have hcpQ : py.length ≤ cq := TQH.out.cap
          subst hm0
          clear hcaseH hw hN2H hnx hP hQ wP wQ hms0 har hatP hatQ hlP hlQ hN has
          go_quiet (fail)
          all_goals go_wp2_with fail
          go_quiet (fail)
          all_goals go_wp2_with fail
          go_quiet (fail)
          all_goals go_wp2_with fail
          rename_i nq1 nq2
          obtain ⟨W3, hW3⟩ : ∃ W3, ((W2.drewN nq1).drewN nq2).drewN nq = W3 := ⟨_, rfl⟩
          have hb3 : Below W2.heap.size W2 W3 := by rw [← hW3]; exact (drew_more (Drew.mk2 W2 nq1 nq2) nq).below _
          rw [hW3]
          have hS3H := Lib.hid (hS2H.out.below hb3)
          have ho3H := Lib.hid (OwnL.call hot2H.out hb3)
          have hsz3 := Nat.le_trans hsz2 hb3.size
          have hLn : L0.length + N ≤ 10000000 := by
            have h := hnxH.out.len la lb
            rw [List.length_append, List.length_zip, hlPH.out, hlQH.out, Nat.min_self] at h; exact h
          clear hb3 hW3 hS2H hot2H hsz2 qp qq qs k0
          go_loopw [7, 11, 12, 58] (fun lv iv jv cv wr => inRel w0 wS xb mb n a1 c1 s B L0 px py N lv iv jv cv wr) (fun _ _ _ cv _ => N - (intOf cv).toNat)
          case atStart => exact ⟨0, rfl, Nat.zero_le _, rfl, rfl, by rw [List.take_zero, List.append_nil]; exact ho3H.out, hS3H.out, hsz3⟩
          case round =>
            obtain ⟨m, rfl, hm, rfl, rfl, hor, hSr, hszr⟩ := hrel
            by_cases hmN : m < N
            · obtain ⟨gP1, gP2, gP3, gP4⟩ := hatPH.out m (by rw [hlPH.out]; exact hmN)
              obtain ⟨gQ1, gQ2, gQ3, gQ4⟩ := hatQH.out m (by rw [hlQH.out]; exact hmN)
              have hzl : ((argsW s px).zip (argsW s py)).length = N := by rw [List.length_zip, hlPH.out, hlQH.out, Nat.min_self]
              have htk : ((argsW s px).zip (argsW s py)).take (m + 1) = ((argsW s px).zip (argsW s py)).take m ++ [((argsW s px)[m]'(by rw [hlPH.out]; exact hmN), (argsW s py)[m]'(by rw [hlQH.out]; exact hmN))] := by
                rw [List.take_succ_eq_append_getElem (by rw [hzl]; exact hmN), List.getElem_zip]
              have cafP := fun W (hb : Below wr.heap.size wr W) => lafter_any a1 (some ⟨bp, op, none⟩) c1 cp s px (apos s px m) _ W (hSr.sg.below (bcall hSr.bel hb)) (TPH.out.below (bcall hSr.bel hb)) hokH.out gP1
              have cafQ := fun W (hb : Below wr.heap.size wr W) => lafter_any a1 (some ⟨bq, oq, none⟩) c1 cq s py (apos s py m) _ W (hSr.sg.below (bcall hSr.bel hb)) (TQH.out.below (bcall hSr.bel hb)) hokH.out gQ1
              rw [drop_len gP3] at cafP
              rw [drop_len gQ3] at cafQ
              obtain ⟨i, hi⟩ : ∃ i, apos s px m = i := ⟨_, rfl⟩
              obtain ⟨i', hi'⟩ : ∃ i, apos s px (m + 1) = i := ⟨_, rfl⟩
              obtain ⟨j, hj⟩ : ∃ i, apos s py m = i := ⟨_, rfl⟩
              obtain ⟨j', hj'⟩ : ∃ i, apos s py (m + 1) = i := ⟨_, rfl⟩
              rw [hi, hi'] at gP2 gP4
              rw [hj, hj'] at gQ2 gQ4
              rw [hi'] at gP3
              rw [hj'] at gQ3
              rw [hi, hi'] at cafP
              rw [hj, hj'] at cafQ
              have pP := Ints.part TPH.out i i' (i' - i) (by omega) gP3 (Nat.le_refl _) (by omega)
              have pQ := Ints.part TQH.out j j' (j' - j) (by omega) gQ3 (Nat.le_refl _) (by omega)
              have eP : ((px.drop i).take (i' - i)).length = i' - i := by simp; omega
              have eQ : ((py.drop j).take (j' - j)).length = j' - j := by simp; omega
              rw [gP4] at pP eP
              rw [gQ4] at pQ eQ
              rw [hi, hj]
              have k0 := hSr.k0
              have hpush := fun W (hb : Below wr.heap.size wr W) => Pr_push (OwnL.call hor hb) (fun b hb' => Nat.lt_of_lt_of_le hb' hz) (Nat.le_trans hszr hb.size) (pP.below (bcall hSr.bel hb)) (pQ.below (bcall hSr.bel hb)) (by rw [List.length_append, List.length_take, hzl]; omega)
              rw [eP, eQ] at hpush
              have hpushH := Lib.hid hpush
              have htkH := Lib.hid htk
              have hi'H := Lib.hid hi'
              have hj'H := Lib.hid hj'
              have hSrH := Lib.hid hSr
              have cafPH := Lib.hid cafP
              have cafQH := Lib.hid cafQ
              have hni : ¬ i' = i := by omega
              have hnj : ¬ j' = j := by omega
              have hii : i ≤ i' := by omega
              have hjj : j ≤ j' := by omega
              have hic : i' ≤ cp := by omega
              have hjc : j' ≤ cq := by omega
              clear hpush htk hi hi' hj hj' hSr cafP cafQ pP pQ eP eQ gP1 gP4 gQ1 gQ4 hor hzl
              go_wp2_with fail
              refine wp_region_held_drew (S := (fun w' => w'.cell? ⟨xb, 0, none⟩ = some (.slice a1 s.length c1) ∧ Below wr.heap.size wr w')) (by kernel_rfl) ⟨k0, Below.drew (.refl _ _)⟩ (fun hS => ?_)
              refine region_take 0 (some 60) (v := ?_) rfl rfl (by kernel_rfl) (by kernel_rfl) (by kernel_rfl) (fun _ _ _ h => h) rfl ?_ hS ?_
              rotate_left
              · (intro w9 hS9; go_simp; try (with_reducible rfl))
              simp only [Act.put, List.setIfInBounds_toArray, List.set_cons_zero, List.set_cons_succ]
              refine region_take 1 (some 61) (v := ?_) rfl rfl (by kernel_rfl) (by kernel_rfl) (by kernel_rfl) (fun _ _ _ h => h) rfl ?_ hS ?_
              rotate_left
              · (intro w9 hS9; go_simp; try (with_reducible rfl))
              simp only [Act.put, List.setIfInBounds_toArray, List.set_cons_zero, List.set_cons_succ]
              refine region_take 2 (some 62) (v := ?_) rfl rfl (by kernel_rfl) (by kernel_rfl) (by kernel_rfl) (fun _ _ _ h => h) rfl ?_ hS ?_
              rotate_left
              · (intro w9 hS9; go_simp; try (with_reducible rfl))
              simp only [Act.put, List.setIfInBounds_toArray, List.set_cons_zero, List.set_cons_succ]
              refine region_take 3 (some 63) (v := ?_) rfl rfl (by kernel_rfl) (by kernel_rfl) (by kernel_rfl) (fun _ _ _ h => h) rfl ?_ hS ?_
              rotate_left
              · (intro w9 hS9; go_simp; try (with_reducible rfl))
              simp only [Act.put, List.setIfInBounds_toArray, List.set_cons_zero, List.set_cons_succ]
              refine region_take 4 (some 64) (v := ?_) rfl rfl (by kernel_rfl) (by kernel_rfl) (by kernel_rfl) (fun _ _ _ h => h) rfl ?_ hS ?_
              rotate_left
              · (intro w9 hS9; go_simp; try (with_reducible rfl))
              simp only [Act.put, List.setIfInBounds_toArray, List.set_cons_zero, List.set_cons_succ]
              refine region_take 5 (some 65) (v := ?_) rfl rfl (by kernel_rfl) (by kernel_rfl) (by kernel_rfl) (fun _ _ _ h => h) rfl ?_ hS ?_
              rotate_left
              · (intro w9 hS9; go_simp; try (with_reducible rfl))
              simp only [Act.put, List.setIfInBounds_toArray, List.set_cons_zero, List.set_cons_succ]
              refine region_take 7 (some 67) (v := ?_) rfl rfl (by kernel_rfl) (by kernel_rfl) (by kernel_rfl) (fun _ _ _ h => h) rfl ?_ hS ?_
              rotate_left
              · (intro w9 hS9; go_simp; try (with_reducible rfl))
              simp only [Act.put, List.setIfInBounds_toArray, List.set_cons_zero, List.set_cons_succ]
              refine region_take 8 (some 68) (v := ?_) rfl rfl (by kernel_rfl) (by kernel_rfl) (by kernel_rfl) (fun _ _ _ h => h) rfl ?_ hS ?_
              rotate_left
              · (intro w9 hS9; go_simp; try (with_reducible rfl))
              simp only [Act.put, List.setIfInBounds_toArray, List.set_cons_zero, List.set_cons_succ]
              refine region_take 9 (some 69) (v := ?_) rfl rfl (by kernel_rfl) (by kernel_rfl) (by kernel_rfl) (fun _ _ _ h => h) rfl ?_ hS ?_
              rotate_left
              · (intro w9 hS9; go_simp; try (with_reducible rfl))
              simp only [Act.put, List.setIfInBounds_toArray, List.set_cons_zero, List.set_cons_succ]
              refine region_take 10 (some 70) (v := ?_) rfl rfl (by kernel_rfl) (by kernel_rfl) (by kernel_rfl) (fun _ _ _ h => h) rfl ?_ hS ?_
              rotate_left
              · (intro w9 hS9; go_simp; try (with_reducible rfl))
              simp only [Act.put, List.setIfInBounds_toArray, List.set_cons_zero, List.set_cons_succ]
              refine region_take 11 (some 71) (v := ?_) rfl rfl (by kernel_rfl) (by kernel_rfl) (by kernel_rfl) (fun _ _ _ h => h) rfl ?_ hS ?_
              rotate_left
              · (intro w9 hS9; go_simp; try (with_reducible rfl))
              simp only [Act.put, List.setIfInBounds_toArray, List.set_cons_zero, List.set_cons_succ]
              refine region_take 12 (some 72) (v := ?_) rfl rfl (by kernel_rfl) (by kernel_rfl) (by kernel_rfl) (fun _ _ _ h => h) rfl ?_ hS ?_
              rotate_left
              · (intro w9 hS9; go_simp; try (with_reducible rfl))
              simp only [Act.put, List.setIfInBounds_toArray, List.set_cons_zero, List.set_cons_succ]
              refine region_call 6 rfl (by kernel_rfl) (fun K hK => ?_)
              go_simp
              (with_reducible refine (cafPH.out _ hS.2).mono ?_)
              rintro e w8 ⟨rfl, hb8⟩
              refine hK.out _ _ ⟨cell_later hb8 hS.1, bcall hS.2 hb8⟩ ?_
              clear hS hK
              intro hS
              refine region_call 13 rfl (by kernel_rfl) (fun K hK => ?_)
              go_simp
              (with_reducible refine (cafQH.out _ hS.2).mono ?_)
              rintro e w8 ⟨rfl, hb8⟩
              refine hK.out _ _ ⟨cell_later hb8 hS.1, bcall hS.2 hb8⟩ ?_
              clear hS hK
              intro hS
              refine region_take 14 (some 13) (v := ?_) rfl rfl (by kernel_rfl) (by kernel_rfl) (by kernel_rfl) (fun _ _ _ h => h) rfl ?_ hS ?_
              rotate_left
              · (intro w9 hS9; go_simp; try (with_reducible rfl))
              simp only [Act.put, List.setIfInBounds_toArray, List.set_cons_zero, List.set_cons_succ]
              refine region_take 15 (some 14) (v := ?_) rfl rfl (by kernel_rfl) (by kernel_rfl) (by kernel_rfl) (fun _ _ _ h => h) rfl ?_ hS ?_
              rotate_left
              · (intro w9 hS9; go_simp; try (with_reducible rfl))
              simp only [Act.put, List.setIfInBounds_toArray, List.set_cons_zero, List.set_cons_succ]
              refine wpAnyH_done (by kernel_rfl) ?_ _
              obtain ⟨-, hb4⟩ := hS
              obtain ⟨v5, w5, hup, ho5, hb5⟩ := hpushH.out w8.drew hb4.drew
              have hup2 := hup.out
              have hS5H := Lib.hid ((hSrH.out.below hb4.drew).keep hb5.out hxS hmS hz)
              have hsz5 := Nat.le_trans (Nat.le_trans hszr hb4.drew.size) hb5.out.size
              clear hb4
              go_wp2_with fail
              refine wp_region_held_drew (S := (fun _ => True)) (by kernel_rfl) trivial (fun hS => ?_)
              refine region_take 0 (some 74) (v := ?_) rfl rfl (by kernel_rfl) (by kernel_rfl) (by kernel_rfl) (fun _ _ _ h => h) rfl ?_ hS ?_
              rotate_left
              · (intro w9 hS9; go_simp; try (with_reducible rfl))
              simp only [Act.put, List.setIfInBounds_toArray, List.set_cons_zero, List.set_cons_succ]
              refine region_take 1 (some 75) (v := ?_) rfl rfl (by kernel_rfl) (by kernel_rfl) (by kernel_rfl) (fun _ _ _ h => h) rfl ?_ hS ?_
              rotate_left
              · (intro w9 hS9; go_simp; try (with_reducible rfl))
              simp only [Act.put, List.setIfInBounds_toArray, List.set_cons_zero, List.set_cons_succ]
              refine region_take 2 (some 76) (v := ?_) rfl rfl (by kernel_rfl) (by kernel_rfl) (by kernel_rfl) (fun _ _ _ h => h) rfl ?_ hS ?_
              rotate_left
              · (intro w9 hS9; go_simp; try (with_reducible rfl))
              simp only [Act.put, List.setIfInBounds_toArray, List.set_cons_zero, List.set_cons_succ]
              refine region_take 3 (some 77) (v := ?_) rfl rfl (by kernel_rfl) (by kernel_rfl) (by kernel_rfl) (fun _ _ _ h => h) rfl ?_ hS ?_
              rotate_left
              · (intro w9 hS9; go_simp; try (with_reducible rfl))
              simp only [Act.put, List.setIfInBounds_toArray, List.set_cons_zero, List.set_cons_succ]
              refine region_take 4 (some 78) (v := ?_) rfl rfl (by kernel_rfl) (by kernel_rfl) (by kernel_rfl) (fun _ _ _ h => h) rfl ?_ hS ?_
              rotate_left
              · (intro w9 hS9; go_simp; try (with_reducible rfl))
              simp only [Act.put, List.setIfInBounds_toArray, List.set_cons_zero, List.set_cons_succ]
              refine region_take 5 (some 79) (v := ?_) rfl rfl (by kernel_rfl) (by kernel_rfl) (by kernel_rfl) (fun _ _ _ h => h) rfl ?_ hS ?_
              rotate_left
              · (intro w9 hS9; go_simp; try (with_reducible rfl))
              simp only [Act.put, List.setIfInBounds_toArray, List.set_cons_zero, List.set_cons_succ]
              refine region_take 6 (some 80) (v := ?_) rfl rfl (by kernel_rfl) (by kernel_rfl) (by kernel_rfl) (fun _ _ _ h => h) rfl ?_ hS ?_
              rotate_left
              · (intro w9 hS9; go_simp; try (with_reducible rfl))
              simp only [Act.put, List.setIfInBounds_toArray, List.set_cons_zero, List.set_cons_succ]
              refine region_take 7 (some 81) (v := ?_) rfl rfl (by kernel_rfl) (by kernel_rfl) (by kernel_rfl) (fun _ _ _ h => h) rfl ?_ hS ?_
              rotate_left
              · (intro w9 hS9; go_simp; try (with_reducible rfl))
              simp only [Act.put, List.setIfInBounds_toArray, List.set_cons_zero, List.set_cons_succ]
              refine region_take 8 (some 82) (v := ?_) rfl rfl (by kernel_rfl) (by kernel_rfl) (by kernel_rfl) (fun _ _ _ h => h) rfl ?_ hS ?_
              rotate_left
              · (intro w9 hS9; go_simp; try (with_reducible rfl))
              simp only [Act.put, List.setIfInBounds_toArray, List.set_cons_zero, List.set_cons_succ]
              refine region_take 9 (some 83) (v := ?_) rfl rfl (by kernel_rfl) (by kernel_rfl) (by kernel_rfl) (fun _ _ _ h => h) rfl ?_ hS ?_
              rotate_left
              · (intro w9 hS9; go_simp; try (with_reducible rfl))
              simp only [Act.put, List.setIfInBounds_toArray, List.set_cons_zero, List.set_cons_succ]
              refine region_take 10 (some 84) (v := ?_) rfl rfl (by kernel_rfl) (by kernel_rfl) (by kernel_rfl) (fun _ _ _ h => h) rfl ?_ hS ?_
              rotate_left
              · (intro w9 hS9; go_simp; try (with_reducible rfl))
              simp only [Act.put, List.setIfInBounds_toArray, List.set_cons_zero, List.set_cons_succ]
              refine region_take 11 (some 85) (v := ?_) rfl rfl (by kernel_rfl) (by kernel_rfl) (by kernel_rfl) (fun _ _ _ h => h) rfl ?_ hS ?_
              rotate_left
              · (intro w9 hS9; go_simp; try (with_reducible rfl))
              simp only [Act.put, List.setIfInBounds_toArray, List.set_cons_zero, List.set_cons_succ]
              refine region_call 12 rfl (by kernel_rfl) (fun K hK => ?_)
              go_simp
              refine hK.out _ _ trivial ?_
              clear hS hK
              intro hS
              refine region_call 13 rfl (by kernel_rfl) (fun K hK => ?_)
              rw [if_pos (by kernel_rfl)]
              refine oper_append_run (vs := u7) (vx := .slice (some ⟨w8.heap.size, 0, none⟩) 1 1) (v' := v5) (w' := w5) (.tmp 74) (.tmp 86) 80 rfl rfl rfl hup2 ?_
              refine hK.out _ _ trivial ?_
              clear hS hK
              intro hS
              refine region_take 14 (some 7) (v := ?_) rfl rfl (by kernel_rfl) (by kernel_rfl) (by kernel_rfl) (fun _ _ _ h => h) rfl ?_ hS ?_
              rotate_left
              · (intro w9 hS9; go_simp; try (with_reducible rfl))
              simp only [Act.put, List.setIfInBounds_toArray, List.set_cons_zero, List.set_cons_succ]
              refine wpAnyH_done (by kernel_rfl) ?_ _
              clear hup2 hS
              go_wp2_with fail
              go_roundw
              case rel => exact ⟨m + 1, by go_num, by omega, by rw [hi'H.out], by rw [hj'H.out], by rw [htkH.out, ← List.append_assoc]; exact ho5.out, hS5H.out, hsz5⟩
              case measure => simp [intOf]; omega
            · obtain rfl : m = N := by omega
              have hfull : ((argsW s px).zip (argsW s py)).take m = (argsW s px).zip (argsW s py) := List.take_of_length_le (by rw [List.length_zip, hlPH.out, hlQH.out]; omega)
              rw [hfull] at hor
              have hrel : solRel w0 wS xb mb a1 c1 s a b gk' u7 wr := ⟨B, θ, ρ, n, _, hnxH.out, hnH.out, hSr, hor, hszr⟩
              have hrelH := Lib.hid hrel
              clear hrel hor hSr hfull
              go_wp2_with fail
              go_roundg gk'
              case measure => omega
              case rel => exact hrelH.out
        · have hnx := Lib.hid (hN2H.out.clash hv hw)
          have hb : (p0 != q0) = true := by simpa using hw
          have hdv : decide (p0 < 0) = false := by simp; omega
          clear hcaseH hw hN2H
          go_quiet (fail)
          all_goals go_wp2_with fail
          all_goals go_quiet (fail)
          all_goals go_wp2_with fail
          all_goals go_ret
          all_goals exact ⟨false, rfl, bcall hS2H.out.bel ((Drew.mk2 _ _ _).below _), fun _ => hnx.out, fun h => by cases h⟩
    · have hL0 : L = [] := by cases L with | nil => rfl | cons _ _ => simp at hL
      subst hL0
      have hfin : solRet w0 xb mb a1 c1 s a b (.returned (.bool true)) wr := ⟨true, rfl, hS.bel, (fun h => by cases h), fun _ => ⟨B, θ, ρ, n, hst.slv, hst.rg, hst.eq.done, hS, hst.infB⟩⟩
      have hfinH := Lib.hid hfin
      subst hv
      clear hst hS ho hfin hsl hL
      go_wp2_with fail
      go_ret
      exact hfinH.out
end Go.Proofs.Ytgkddhakhapjlaa
