/- The proof of one statement, its texts joined in build order, part 3 of 4. Each part below begins with its own remark. -/
import Derived.Test.YtgkddhakhapjlaaDoorMo2
import Derived.Test.YtgkddhakhapjlaaDoorMo1
import Derived.DeepKeys4
import Derived.Lib.SlBytesRow
import Derived.Lib.BufferRead
import Derived.Deep.RegionLaw
import Derived.Shelf.Strconv.Atoi
import Derived.RangeFuncBox
import Derived.RangeFuncNested
import Derived.RangeFuncBound
import Derived.RangeFuncCalls
import Derived.RangeFuncLeaves
import Derived.Shelf.Abstract
import Derived.Shelf.RegionOpen
import Derived.OwnWalkIn
import Derived.TacticsInMore
import Derived.LoopNIn
import Derived.LoopIn
import Derived.Maps.AppendAt
import Derived.OrdersIn
import Derived.TacticsIn
/- Walks: ValidProof (both), SameSteps. -/
namespace Go.Proofs.YtgkddhakhapjlaaDoor
open Go Go.RowKit Go.Maps

theorem r4within_any (n lo hi : Int) (w : World) :
    Calls Tryd.prog 39 #[.int .i64 n, .int .i64 lo, .int .i64 hi] w fun e w' => e = .returned (.bool (decide (lo ≤ n) && decide (n ≤ hi))) ∧ w = w' := by
  go_enter Tryd.func39, Tryd.ntmps39
  go_wp2
  all_goals go_ret
  all_goals exact ⟨ret_bool (by simp; omega), rfl⟩
theorem isCount_any (n : Int) (w : World) :
    Calls Tryd.prog 38 #[.int .i64 n] w fun e w' => e = .returned (.bool (decide (0 ≤ n) && decide (n ≤ 60))) ∧ w = w' := by
  have h := Lib.hid (r4within_any n 0 60 w)
  go_enter Tryd.func38, Tryd.ntmps38
  go_wp2_with fail
  refine h.out.mono ?_
  rintro e w1 ⟨rfl, rfl⟩
  go_wp2_with fail
  go_ret
  exact ⟨rfl, rfl⟩
set_option maxHeartbeats 1000000 in
theorem stepRight_any (G : Int) (n : Nat) (x : Stp) (w : World) (h0 : 0 ≤ G) (h1 : G ≤ 1000000) (hn : n ≤ 9223372036854775807) :
    Calls Tryd.prog 58 #[.int .i64 G, stpV x, .int .i64 n] w fun e w' => e = .returned (.bool (rightB G n x)) ∧ Below w.heap.size w w' := by
  obtain ⟨k, A, B⟩ := x
  have e1 : IntKind.i64.wrap (G - 1) = G - 1 := IntWalk.i64_in _ (by omega)
  have e2 : IntKind.i64.wrap ((n : Int) - 1) = (n : Int) - 1 := IntWalk.i64_in _ (by omega)
  have hb := below1 w (.cells #[.int .i64 k, .int .i64 A, .int .i64 B] 69)
  have c1 := fun W => r4within_any A 0 (G - 1) W
  have c2 := fun W => r4within_any A 0 ((n : Int) - 1) W
  have c3 := fun W => r4within_any B 0 ((n : Int) - 1) W
  by_cases hk1 : k = 1
  · subst hk1
    have hR : rightB G n (1, A, B) = ((decide (0 ≤ A) && decide (A ≤ G - 1)) && decide (B = 0)) := by simp [rightB]
    obtain ⟨y, hy⟩ : ∃ y, (decide (0 ≤ A) && decide (A ≤ G - 1)) = y := ⟨_, rfl⟩
    rw [hy] at c1 hR
    have c1H := Lib.hid c1
    have hRH := Lib.hid hR
    clear c1 c2 c3 hR hy
    cases y with
    | false =>
      go_enter Tryd.func58, Tryd.ntmps58
      go_wp2_with (go_at_call 39; refine (c1H.out _).mono ?_; rintro e w1 ⟨rfl, rfl⟩)
      go_ret
      exact ⟨by rw [hRH.out]; rfl, hb⟩
    | true =>
      by_cases hB : B = 0
      · subst hB
        go_enter Tryd.func58, Tryd.ntmps58
        go_wp2_with (go_at_call 39; refine (c1H.out _).mono ?_; rintro e w1 ⟨rfl, rfl⟩)
        go_ret
        exact ⟨by rw [hRH.out]; rfl, hb⟩
      · have hBb : (B == 0) = false := by simpa using hB
        go_enter Tryd.func58, Tryd.ntmps58
        go_wp2_with (go_at_call 39; refine (c1H.out _).mono ?_; rintro e w1 ⟨rfl, rfl⟩)
        go_ret
        exact ⟨by rw [hRH.out, decide_eq_false hB]; rfl, hb⟩
  · have hk1b : (k == 1) = false := by simpa using hk1
    by_cases hk2 : k = 2
    · subst hk2
      have hR : rightB G n (2, A, B) = ((decide (0 ≤ A) && decide (A ≤ (n : Int) - 1)) && (decide (0 ≤ B) && decide (B ≤ (n : Int) - 1))) := by simp [rightB]
      obtain ⟨y, hy⟩ : ∃ y, (decide (0 ≤ A) && decide (A ≤ (n : Int) - 1)) = y := ⟨_, rfl⟩
      obtain ⟨z, hz⟩ : ∃ y, (decide (0 ≤ B) && decide (B ≤ (n : Int) - 1)) = y := ⟨_, rfl⟩
      rw [hy] at c2 hR
      rw [hz] at c3 hR
      have c2H := Lib.hid c2
      have c3H := Lib.hid c3
      have hRH := Lib.hid hR
      clear c1 c2 c3 hR hy hz hk1b
      cases y with
      | false =>
        go_enter Tryd.func58, Tryd.ntmps58
        go_wp2_with fail
        refine (c2H.out _).mono ?_
        rintro e w1 ⟨rfl, rfl⟩
        go_wp2_with fail
        go_ret
        exact ⟨by rw [hRH.out]; rfl, hb⟩
      | true =>
        go_enter Tryd.func58, Tryd.ntmps58
        go_wp2_with fail
        refine (c2H.out _).mono ?_
        rintro e w1 ⟨rfl, rfl⟩
        go_wp2_with fail
        refine (c3H.out _).mono ?_
        rintro e w1 ⟨rfl, rfl⟩
        go_wp2_with fail
        go_ret
        exact ⟨by rw [hRH.out]; rfl, hb⟩
    · have hk2b : (k == 2) = false := by simpa using hk2
      have hR : rightB G n (k, A, B) = false := by simp [rightB, hk1, hk2]
      go_enter Tryd.func58, Tryd.ntmps58
      go_wp2_with fail
      go_ret
      exact ⟨by rw [hR]; rfl, hb⟩
set_option maxHeartbeats 1000000 in
theorem ValidProof_any {S : Nat → Prop} (G : Int) (a : Option Addr) (c : Nat) (p : List Stp) (w : World) (h : Steps S w a c p) :
    Calls Tryd.prog 29 #[.int .i64 G, .slice a p.length c] w fun e w' => e = .returned (.bool (proofB G p)) ∧ Below w.heap.size w w' := by
  have m := h.le
  have v1 := kwithin_any G 0 60 w
  cases hx : (decide (0 ≤ G) && decide (G ≤ 60)) with
  | false =>
    rw [hx] at v1
    have hr : proofB G p = false := by unfold proofB; rw [hx]; rfl
    have v1H := Lib.hid v1
    clear v1 h hx
    go_enter Tryd.func29, Tryd.ntmps29
    go_wp2_with fail
    refine v1H.out.mono ?_
    rintro e w1 ⟨rfl, rfl⟩
    go_wp2_with fail
    go_ret
    exact ⟨by rw [hr]; rfl, .refl _ _⟩
  | true =>
    rw [hx] at v1
    have hr : proofB G p = validP G p := by unfold proofB; rw [hx]; rfl
    simp only [Bool.and_eq_true, decide_eq_true_eq] at hx
    have v2 := kvalid_any G a c p w h hx.1 (by omega)
    have v1H := Lib.hid v1
    have v2H := Lib.hid v2
    clear v1 v2 h hx
    go_enter Tryd.func29, Tryd.ntmps29
    go_wp2_with fail
    refine v1H.out.mono ?_
    rintro e w1 ⟨rfl, rfl⟩
    go_wp2_with fail
    refine v2H.out.mono ?_
    rintro e w1 ⟨rfl, hb⟩
    go_wp2_with fail
    go_ret
    exact ⟨by rw [hr]; rfl, hb⟩
set_option maxHeartbeats 1000000 in
theorem rValidProof_any {S : Nat → Prop} (G : Int) (a : Option Addr) (c : Nat) (p : List Stp) (w : World) (h : Steps S w a c p) :
    Calls Tryd.prog 31 #[.int .i64 G, .slice a p.length c] w fun e w' => e = .returned (.bool (proofB G p)) ∧ Below w.heap.size w w' := by
  have m := h.le
  have v1 := isCount_any G w
  have v2 := r4within_any (p.length : Int) 1 60 w
  cases hx : (decide (0 ≤ G) && decide (G ≤ 60)) with
  | false =>
    rw [hx] at v1
    have hr : proofB G p = false := by unfold proofB; rw [hx]; rfl
    have v1H := Lib.hid v1
    clear v1 v2 h hx
    go_enter Tryd.func31, Tryd.ntmps31
    go_wp2_with fail
    refine v1H.out.mono ?_
    rintro e w1 ⟨rfl, rfl⟩
    go_wp2_with fail
    go_ret
    exact ⟨by rw [hr]; rfl, .refl _ _⟩
  | true =>
    cases hy : (decide ((1 : Int) ≤ p.length) && decide ((p.length : Int) ≤ 60)) with
    | false =>
      rw [hx] at v1
      rw [hy] at v2
      have hr : proofB G p = false := by
        unfold proofB validP
        have : (decide (1 ≤ p.length) && decide (p.length ≤ 60)) = false := by
          rw [← hy, Bool.eq_iff_iff]; simp only [Bool.and_eq_true, decide_eq_true_eq]; omega
        rw [this, Bool.and_false, Bool.and_false]
      have v1H := Lib.hid v1
      have v2H := Lib.hid v2
      clear v1 v2 h hx hy
      go_enter Tryd.func31, Tryd.ntmps31
      go_wp2_with fail
      refine v1H.out.mono ?_
      rintro e w1 ⟨rfl, rfl⟩
      go_wp2_with fail
      refine v2H.out.mono ?_
      rintro e w1 ⟨rfl, rfl⟩
      go_wp2_with fail
      go_ret
      exact ⟨by rw [hr]; rfl, .refl _ _⟩
    | true =>
      rw [hx] at v1
      rw [hy] at v2
      have hr : proofB G p = okSteps G 0 p := by
        unfold proofB validP
        have : (decide (1 ≤ p.length) && decide (p.length ≤ 60)) = true := by
          rw [← hy, Bool.eq_iff_iff]; simp only [Bool.and_eq_true, decide_eq_true_eq]; omega
        rw [this, hx, Bool.and_true, Bool.true_and]
      simp only [Bool.and_eq_true, decide_eq_true_eq] at hx
      obtain ⟨h0, h1⟩ := hx
      have v1H := Lib.hid v1
      have v2H := Lib.hid v2
      clear v1 v2 hy
      go_enter Tryd.func31, Tryd.ntmps31
      go_wp2_with fail
      refine v1H.out.mono ?_
      rintro e w1 ⟨rfl, rfl⟩
      go_wp2_with fail
      refine v2H.out.mono ?_
      rintro e w1 ⟨rfl, rfl⟩
      go_wp2_with fail
      clear v1H v2H
      go_loopw [5] (fun i wr => ∃ k : Nat, k ≤ p.length ∧ i = .int .i64 k ∧ okSteps G 0 (p.take k) = true ∧ Below w.heap.size w wr) (fun i _ => p.length - (intOf i).toNat)
      case atStart => exact ⟨0, Nat.zero_le _, rfl, rfl, .refl _ _⟩
      case round =>
        obtain ⟨k, hk, rfl, hall, hB⟩ := hrel
        by_cases hlt : k < p.length
        · obtain ⟨b, o, rfl, -, q0, q1, q2, -⟩ := (h.below hB).stp k hlt
          have hstep := okSteps_snoc (G := G) (p.take k) 0 p[k]
          rw [List.length_take, Nat.min_eq_left (by omega), Nat.zero_add, ← List.take_succ_eq_append_getElem hlt, hall, Bool.true_and] at hstep
          have cr := fun W => stepRight_any G k p[k] W h0 (by omega) (by omega)
          obtain ⟨x, hx⟩ : ∃ x, p[k] = x := ⟨_, rfl⟩
          obtain ⟨y, hy⟩ : ∃ y, rightB G k p[k] = y := ⟨_, rfl⟩
          rw [hy] at hstep cr
          rw [hx] at cr q0 q1 q2
          obtain ⟨x1, x2, x3⟩ := x
          simp only at q0 q1 q2
          have crH := Lib.hid cr
          have hstH := Lib.hid hstep
          have hBH := Lib.hid hB
          clear cr hstep hB hall hx hy h
          cases y with
          | true =>
            go_wp2_with (go_at_call 58; refine (crH.out _).mono ?_; rintro e w1 ⟨rfl, hb⟩)
            go_roundw
            case rel => exact ⟨k + 1, by omega, by go_num, hstH.out, bcall hBH.out hb⟩
            case measure => simp [intOf]; omega
          | false =>
            go_wp2_with (go_at_call 58; refine (crH.out _).mono ?_; rintro e w1 ⟨rfl, hb⟩)
            go_ret
            have hf : okSteps G 0 p = false := by
              cases ho : okSteps G 0 p with
              | false => rfl
              | true => have := okSteps_take p 0 (k + 1) ho; rw [hstH.out] at this; cases this
            exact ⟨by rw [hr, hf]; rfl, bcall hBH.out hb⟩
        · rw [List.take_of_length_le (by omega)] at hall
          rw [hall] at hr
          clear hall
          go_wp2_with fail
          go_ret
          exact ⟨by rw [hr]; rfl, hB⟩
end Go.Proofs.YtgkddhakhapjlaaDoor

/- Walks: a copy of a list of steps. -/
namespace Go.Proofs.YtgkddhakhapjlaaDoor
open Go Go.RowKit Go.Maps

abbrev OwnSt (w : World) (base : Nat) (v : Value) (l : List Stp) : Prop := OwnL stpE (fun _ => False) w base 69 v l
def retSt (w : World) (l : List Stp) (e : Ending) (w' : World) : Prop := ∃ v, e = .returned v ∧ OwnSt w' w.heap.size v l ∧ Below w.heap.size w w'
def retStE (r : List Stp × Int) (w : World) (e : Ending) (w' : World) : Prop := ∃ v, e = .returned (.tuple #[v, .int .i64 r.2]) ∧ OwnSt w' w.heap.size v r.1 ∧ Below w.heap.size w w'
theorem infoStp : (Tryd.prog.info? 69).map (fun i => (i.zero, i.size, i.bytes)) = some (some (.agg #[.int .i64 0, .int .i64 0, .int .i64 0]), 3, 24) := by kernel_rfl
theorem OwnSt.steps {w : World} {base : Nat} {v : Value} {l : List Stp} (h : OwnSt w base v l) : ∃ a c, v = .slice a l.length c ∧ Steps (fun b => base ≤ b) w a c l := h.slB (fun _ h => h.elim)
set_option maxHeartbeats 400000 in
theorem CloneS_any {S : Nat → Prop} (a : Option Addr) (c : Nat) (l : List Stp) (w : World) (h : Steps S w a c l) (hl : l.length ≤ lim) :
    Calls Tryd.prog 30 #[.slice a l.length c] w (retSt w l) := by
  cases a with
  | none =>
    obtain ⟨rfl, rfl⟩ := h.nil rfl
    have hnl := fun W => Lib.run_eql_slice_nil (P := Tryd.prog) W 25 69 none 0 0 0 0 Tryd.underlying25
    go_enter Tryd.func30, Tryd.ntmps30
    go_wp2_with fail
    go_ret
    exact ⟨_, rfl, .nil _ _ _ _ _, .refl _ _⟩
  | some a =>
    have hnl := fun W => Lib.run_eql_slice_nil (P := Tryd.prog) W 25 69 (some a) l.length c 0 0 Tryd.underlying25
    obtain ⟨v', w', hrun, ho, hg, -, -⟩ := (OwnL.made stpE (fun _ => False) w w.heap.size 69 (Nat.le_refl _)).append_run (P := Tryd.prog) (t := 25) (ty := 25) Tryd.underlying25 infoStp rfl (h.below (below1 w (.cells #[] 69))) (fun _ _ _ h => h) (by unfold lim at hl; simp; omega) (by unfold lim at hl; unfold big; simp; omega) (by simp)
    have hB : Below w.heap.size w w' := (below1 w (.cells #[] 69)).grown hg (by simp) (fun k e => by simp [Value.ownBlock] at e; omega)
    rw [List.nil_append] at ho
    clear hg
    have hrunH := Lib.hid hrun
    clear hrun
    go_enter Tryd.func30, Tryd.ntmps30
    go_wp2_with (at_builtin; refine wpList_append_run rfl _ _ _ rfl rfl rfl hrunH.out ?_)
    go_ret
    exact ⟨_, rfl, ho, hB⟩
end Go.Proofs.YtgkddhakhapjlaaDoor

/- Walks: kernel.Joined. -/
namespace Go.Proofs.YtgkddhakhapjlaaDoor
open Go Go.RowKit Go.Maps

theorem stp_R {S : Nat → Prop} {w : World} {y : Stp} (h : stpR y) : stpE.R S w [.int .i64 y.1, .int .i64 y.2.1, .int .i64 y.2.2] y := ⟨[_], [_, _], rfl, ⟨rfl, h.1⟩, [_], [_], rfl, ⟨rfl, h.2.1⟩, rfl, h.2.2⟩
theorem okSteps_at {G : Int} {q : List Stp} (h : okSteps G 0 q = true) (k : Nat) (hk : k < q.length) : rightB G k q[k] = true := by
  have h1 := okSteps_take q 0 (k + 1) h
  rw [List.take_succ_eq_append_getElem hk, okSteps_snoc, Bool.and_eq_true, List.length_take, Nat.min_eq_left (by omega), Nat.zero_add] at h1
  exact h1.2
def jrel (p q : List Stp) (w : World) (v i : Value) (wr : World) : Prop := ∃ k : Nat, k ≤ q.length ∧ i = .int .i64 k ∧ OwnSt wr w.heap.size v (p ++ (q.take k).map (shS p.length)) ∧ Below w.heap.size w wr
set_option maxRecDepth 100000 in
set_option maxHeartbeats 2000000 in
theorem Joined_any {S2 S3 : Nat → Prop} (G : Int) (ap aq : Option Addr) (cp cq : Nat) (p q : List Stp) (w : World) (h2 : Steps S2 w ap cp p) (h3 : Steps S3 w aq cq q) :
    Calls Tryd.prog 12 #[.int .i64 G, .slice ap p.length cp, .slice aq q.length cq] w (retStE (joinedE G p q) w) := by
  have m2 := h2.le
  have m3 := h3.le
  have v1 := ValidProof_any G ap cp p w h2
  have v2 := fun W (hb : Below w.heap.size w W) => ValidProof_any G aq cq q W (h3.below hb)
  cases hx : proofB G p with
  | false =>
    rw [hx] at v1
    have hrH := Lib.hid (show joinedE G p q = ([], 1) by rw [joinedE, if_neg (by simp [hx])])
    have v1H := Lib.hid v1
    clear v1 v2 h2 h3 hx
    go_enter Tryd.func12, Tryd.ntmps12
    go_wp2_with fail
    refine v1H.out.mono ?_
    rintro e w1 ⟨rfl, hb1⟩
    go_wp2_with fail
    go_ret2
    rw [hrH.out]
    exact ⟨_, rfl, .nil _ _ _ _ _, hb1⟩
  | true =>
    rw [hx] at v1
    cases hy : proofB G q with
    | false =>
      rw [hy] at v2
      have hrH := Lib.hid (show joinedE G p q = ([], 1) by rw [joinedE, if_neg (by simp [hy])])
      have v1H := Lib.hid v1
      have v2H := Lib.hid v2
      clear v1 v2 h2 h3 hx hy
      go_enter Tryd.func12, Tryd.ntmps12
      go_wp2_with fail
      refine v1H.out.mono ?_
      rintro e w1 ⟨rfl, hb1⟩
      go_wp2_with fail
      refine (v2H.out _ hb1).mono ?_
      rintro e w2 ⟨rfl, hb2⟩
      go_wp2_with fail
      go_ret2
      rw [hrH.out]
      exact ⟨_, rfl, .nil _ _ _ _ _, bcall hb1 hb2⟩
    | true =>
      rw [hy] at v2
      have hvp : validP G p = true := by unfold proofB at hx; simp only [Bool.and_eq_true] at hx; exact hx.2
      have hvq : validP G q = true := by unfold proofB at hy; simp only [Bool.and_eq_true] at hy; exact hy.2
      obtain ⟨-, p1, p2⟩ := validP_parts hvp
      obtain ⟨oq, q1, q2⟩ := validP_parts hvq
      have hr : joinedE G p q = if p.length + q.length + 1 ≤ 60 then (joinedL p q, 0) else ([], 4) := by rw [joinedE, if_pos ⟨hx, hy⟩]
      have v3 := fun W (hb : Below w.heap.size w W) => CloneS_any ap cp p W (h2.below hb) (by unfold lim; omega)
      have h3H := Lib.hid h3
      have oqH := Lib.hid oq
      have hrH := Lib.hid hr
      have v1H := Lib.hid v1
      have v2H := Lib.hid v2
      have v3H := Lib.hid v3
      clear v1 v2 v3 h2 h3 hx hy hvp hvq oq hr
      go_enter Tryd.func12, Tryd.ntmps12
      go_wp2_with fail
      refine v1H.out.mono ?_
      rintro e w1 ⟨rfl, hb1⟩
      go_wp2_with fail
      refine (v2H.out _ hb1).mono ?_
      rintro e w2 ⟨rfl, hb2⟩
      have hb2 := bcall hb1 hb2
      clear hb1
      go_wp2_with fail
      refine (v3H.out _ hb2).mono ?_
      rintro e w3 ⟨v, rfl, ho, hb3⟩
      have hoH := Lib.hid (OwnL.baseMono (base' := w.heap.size) ho hb2.size)
      have hb3H := Lib.hid (bcall hb2 hb3)
      clear ho hb2 hb3 v1H v2H v3H
      go_wp2_with fail
      go_loopw [8, 25] (jrel p q w) (fun _ i _ => q.length - (intOf i).toNat)
      case atStart => exact ⟨0, Nat.zero_le _, rfl, by simpa using hoH.out, hb3H.out⟩
      case round =>
        obtain ⟨k, hk, rfl, ho, hB⟩ := hrel
        by_cases hlt : k < q.length
        · obtain ⟨b, o, rfl, -, r0, r1, r2, hr⟩ := (h3H.out.below hB).stp k hlt
          have hright := okSteps_at oqH.out k hlt
          have hmap : p ++ (q.take (k + 1)).map (shS p.length) = (p ++ (q.take k).map (shS p.length)) ++ [shS p.length q[k]] := by
            rw [List.take_succ_eq_append_getElem hlt, List.map_append, List.append_assoc]; rfl
          have hll : (p ++ (q.take k).map (shS p.length)).length = p.length + k := by simp; omega
          obtain ⟨x, hxe⟩ : ∃ x, q[k] = x := ⟨_, rfl⟩
          rw [hxe] at r0 r1 r2 hr hright hmap
          obtain ⟨x1, x2, x3⟩ := x
          simp only at r0 r1 r2
          have hb2 := fun W => below1 W (.cells #[.int .i64 x1, .int .i64 x2, .int .i64 x3] 69)
          by_cases hk2 : x1 = 2
          · subst hk2
            have hd := rightB_detach hright (by simp)
            simp only at hd
            have e1 : IntKind.i64.wrap (x2 + p.length) = x2 + p.length := IntWalk.i64_in _ (by omega)
            have e2 : IntKind.i64.wrap (x3 + p.length) = x3 + p.length := IntWalk.i64_in _ (by omega)
            have hs : shS p.length (2, x2, x3) = (2, x2 + p.length, x3 + p.length) := if_pos rfl
            have hb0 := below1 wr (.cells #[.int .i64 2, .int .i64 (x2 + p.length), .int .i64 (x3 + p.length)] 69)
            obtain ⟨v', w', hrun, ho', hg, -⟩ := (OwnL.call ho hb0).push (P := Tryd.prog) (t := 25) (ty := 25) Tryd.underlying25 infoStp rfl (vs := [.int .i64 2, .int .i64 (x2 + p.length), .int .i64 (x3 + p.length)]) (x := (2, (x2 + p.length), (x3 + p.length))) (stp_R (y := (2, (x2 + p.length), (x3 + p.length))) ⟨(show inRange (2 : Int) by unfold inRange; omega), (show inRange (x2 + p.length) by unfold inRange; omega), (show inRange (x3 + p.length) by unfold inRange; omega)⟩) (by rw [hll]; omega) (by rw [hll]; unfold big; omega) (Nat.le_trans hB.size hb0.size)
            have hBB : Below w.heap.size w w' := (hB.trans (hb0.mono hB.size)).grown hg (Nat.le_trans hB.size hb0.size) (fun j e => (OwnL.lt ho j e).1)
            rw [World.size_alloc] at hrun
            have hrel : jrel p q w v' (.int .i64 ((k : Int) + 1)) w' := ⟨k + 1, by omega, by go_num, by rw [hmap, hs]; exact ho', hBB⟩
            obtain ⟨a5, c5, rfl, -⟩ := OwnL.sl ho'
            rw [List.length_append, hll, List.length_singleton, Nat.add_assoc] at hrun hrel
            have hrunH := Lib.hid hrun
            have hrelH := Lib.hid hrel
            clear hright hrun hrel ho' hg hBB hb0 ho hB hmap hs hr
            go_wp2_with (at_builtin; refine wpList_append_run rfl _ _ _ rfl rfl rfl hrunH.out ?_)
            go_roundw
            case rel => exact hrelH.out
            case measure => simp [intOf]; omega
          · have hk2b : (x1 == 2) = false := by simpa using hk2
            have hs : shS p.length (x1, x2, x3) = (x1, x2, x3) := if_neg hk2
            have hb0 := below1 wr (.cells #[.int .i64 x1, .int .i64 x2, .int .i64 x3] 69)
            obtain ⟨v', w', hrun, ho', hg, -⟩ := (OwnL.call ho hb0).push (P := Tryd.prog) (t := 25) (ty := 25) Tryd.underlying25 infoStp rfl (vs := [.int .i64 x1, .int .i64 x2, .int .i64 x3]) (x := (x1, x2, x3)) (stp_R hr) (by rw [hll]; omega) (by rw [hll]; unfold big; omega) (Nat.le_trans hB.size hb0.size)
            have hBB : Below w.heap.size w w' := (hB.trans (hb0.mono hB.size)).grown hg (Nat.le_trans hB.size hb0.size) (fun j e => (OwnL.lt ho j e).1)
            rw [World.size_alloc] at hrun
            have hrel : jrel p q w v' (.int .i64 ((k : Int) + 1)) w' := ⟨k + 1, by omega, by go_num, by rw [hmap, hs]; exact ho', hBB⟩
            obtain ⟨a5, c5, rfl, -⟩ := OwnL.sl ho'
            rw [List.length_append, hll, List.length_singleton, Nat.add_assoc] at hrun hrel
            have hrunH := Lib.hid hrun
            have hrelH := Lib.hid hrel
            clear hright hrun hrel ho' hg hBB hb0 ho hB hmap hs hr
            go_wp2_with (at_builtin; refine wpList_append_run rfl _ _ _ rfl rfl rfl hrunH.out ?_)
            go_roundw
            case rel => exact hrelH.out
            case measure => simp [intOf]; omega
        · have hkq : k = q.length := by omega
          subst hkq
          rw [List.take_of_length_le (Nat.le_refl _)] at ho
          have hll : (p ++ q.map (shS p.length)).length = p.length + q.length := by simp
          obtain ⟨v', w', hrun, ho', hg, -⟩ := ho.push (P := Tryd.prog) (t := 25) (ty := 25) Tryd.underlying25 infoStp rfl (vs := [.int .i64 2, .int .i64 ((p.length : Int) - 1), .int .i64 ((p.length : Int) + q.length - 1)]) (x := (2, (p.length : Int) - 1, (p.length : Int) + q.length - 1)) (stp_R (y := (2, (p.length : Int) - 1, (p.length : Int) + q.length - 1)) ⟨(show inRange (2 : Int) by unfold inRange; omega), (show inRange ((p.length : Int) - 1) by unfold inRange; omega), (show inRange ((p.length : Int) + q.length - 1) by unfold inRange; omega)⟩) (by rw [hll]; omega) (by rw [hll]; unfold big; omega) hB.size
          have hBB : Below w.heap.size w w' := hB.grown hg hB.size (fun j e => (OwnL.lt ho j e).1)
          obtain ⟨aL, cL, he, -⟩ := OwnL.sl ho
          rw [hll] at he
          cases he
          obtain ⟨R, hR⟩ : ∃ R, joinedL p q = R := ⟨_, rfl⟩
          rw [show p ++ q.map (shS p.length) ++ [((2 : Int), (p.length : Int) - 1, (p.length : Int) + q.length - 1)] = R from hR] at ho'
          have hRl : R.length = p.length + q.length + 1 := by rw [← hR]; simp [joinedL]; omega
          have hrr := hrH.out
          rw [hR] at hrr
          have e1 : IntKind.i64.wrap ((p.length : Int) - 1) = (p.length : Int) - 1 := IntWalk.i64_in _ (by omega)
          have e2 : IntKind.i64.wrap (((p.length + q.length : Nat) : Int) - 1) = (p.length : Int) + q.length - 1 := by rw [IntWalk.i64_in _ (by omega)]; omega
          obtain ⟨a5, c5, rfl, -⟩ := OwnL.sl ho'
          rw [hRl] at ho'
          have hrunH := Lib.hid hrun
          have hoH := Lib.hid ho'
          have hBH := Lib.hid hBB
          clear hrun ho' hg hBB ho hB hll hR
          by_cases h60 : p.length + q.length + 1 ≤ 60
          · rw [if_pos h60] at hrr
            have hrrH := Lib.hid hrr
            have h60b : ¬ 60 < R.length := by omega
            clear hrr hrH
            go_wp2_with (at_builtin; refine wpList_append_run rfl _ _ _ rfl rfl rfl hrunH.out ?_)
            go_ret2
            rw [hrrH.out]
            exact ⟨_, rfl, hoH.out, hBH.out⟩
          · rw [if_neg h60] at hrr
            have hrrH := Lib.hid hrr
            have h60b : 60 < R.length := by omega
            clear hrr hrH
            go_wp2_with (at_builtin; refine wpList_append_run rfl _ _ _ rfl rfl rfl hrunH.out ?_)
            go_ret2
            rw [hrrH.out]
            exact ⟨_, rfl, .nil _ _ _ _ _, hBH.out⟩
end Go.Proofs.YtgkddhakhapjlaaDoor

/- Keys of maps that are structs of strings or of ints; lists of bytes that a call makes. No program is named. -/
namespace Go.Proofs.YtgkddhakhapjlaaDoor
open Go Go.RowKit Go.Maps Go.WideMaps

theorem keyOf_strs {P : Program} {k : TypeId} {f0 f1 : Field} (hu : P.underlying k = some (.struct #[f0, f1])) (hk : P.keyType k = true) (hc : P.cellsOf k = 2) (hsz : ∃ m, P.types.size = m + 1)
    (o0 : f0.offset = 0) (o1 : f1.offset = 1) (c0 : P.cellsOf f0.type = 1) (c1 : P.cellsOf f1.type = 1) (n0 : (f0.name != "_") = true) (n1 : (f1.name != "_") = true) (u0 : P.underlying f0.type = some .string) (u1 : P.underlying f1.type = some .string)
    {a b : ByteArray} (wa : a.size ≤ maxLen) (wb : b.size ≤ maxLen) :
    keyOf P k (.agg #[.string a, .string b]) = some (.string (keyBytes [.string a.data.toList, .string b.data.toList])) := by
  obtain ⟨m, hm⟩ := hsz
  unfold keyOf
  simp only [hu]
  rw [if_pos (by simp [hk, Value.formed, hu, hc]), hm]
  unfold Program.keyLits
  simp only [hu, Value.cells]
  rw [if_pos ⟨by rw [hc]; rfl, by simp [n0, n1]⟩]
  simp [Program.keyLits, o0, o1, c0, c1, u0, u1, wa, wb]
theorem keyOf_ints3 {P : Program} {k : TypeId} {f0 f1 f2 : Field} (hu : P.underlying k = some (.struct #[f0, f1, f2])) (hk : P.keyType k = true) (hc : P.cellsOf k = 3) (hsz : ∃ m, P.types.size = m + 1)
    (o0 : f0.offset = 0) (o1 : f1.offset = 1) (o2 : f2.offset = 2) (c0 : P.cellsOf f0.type = 1) (c1 : P.cellsOf f1.type = 1) (c2 : P.cellsOf f2.type = 1) (n0 : (f0.name != "_") = true) (n1 : (f1.name != "_") = true) (n2 : (f2.name != "_") = true)
    (u0 : P.underlying f0.type = some (.int .i64)) (u1 : P.underlying f1.type = some (.int .i64)) (u2 : P.underlying f2.type = some (.int .i64))
    {a b c : Int} (wa : inRange a) (wb : inRange b) (wc : inRange c) :
    keyOf P k (.agg #[.int .i64 a, .int .i64 b, .int .i64 c]) = some (.string (keyBytes [.int .i64 a, .int .i64 b, .int .i64 c])) := by
  obtain ⟨m, hm⟩ := hsz
  unfold keyOf
  simp only [hu]
  rw [if_pos (by simp [hk, Value.formed, hu, hc]), hm]
  unfold Program.keyLits
  simp only [hu, Value.cells]
  rw [if_pos ⟨by rw [hc]; rfl, by simp [n0, n1, n2]⟩]
  simp [Program.keyLits, o0, o1, o2, c0, c1, c2, u0, u1, u2, wf_of_inRange wa, wf_of_inRange wb, wf_of_inRange wc]
/-- a kind of keys by their values: what the form reads them as need not be looked at -/
def keyK {κ : Type} {P : Program} {tk : TypeId} (hkd : Keyed P tk) (val : κ → Value) (lit : κ → Lit) (hkey : ∀ x, keyOf P tk (val x) = some (lit x)) (hinj : ∀ x y, val x = val y → x = y) : KeyK κ P tk where
  lit := lit
  val := val
  ok _ := True
  keyed := hkd
  key x _ := hkey x
  isKey x := hkd.key (hkey x)
  inj x y h := hinj x y (hkd.inj (hkey x) (by rw [h]; exact hkey y))

/-! ### bytes -/
def u8E : Enc UInt8 where
  size := 1
  pos := by decide
  R _ _ vs x := vs = [.int .u8 x.toNat]
  len h := by rw [h]; rfl
  one h := by rw [h]; simp [Value.oneCell']
  mono h _ _ := h
theorem u8_rows {S : Nat → Prop} {w : World} {xs : List (List Value)} {l : List UInt8} (hl : xs.length = l.length) (hx : ∀ i (h1 : i < xs.length) (h2 : i < l.length), u8E.R S w xs[i] l[i]) : xs = l.map (fun x => [Value.int .u8 x.toNat]) := by
  apply List.ext_getElem
  · simp [hl]
  · intro i h1 h2
    have := hx i h1 (by simpa using h2)
    rw [List.getElem_map]; exact this
theorem u8_flat (l : List UInt8) : (l.map (fun x => [Value.int .u8 x.toNat])).flatten = l.map (fun x => Value.int .u8 x.toNat) := by
  induction l with
  | nil => rfl
  | cons x r ih => simp [ih]
/-- bytes of a list that is not empty, as the library's laws read them -/
theorem OwnL.bytes {S : Nat → Prop} {w : World} {base : Nat} {e : TypeId} {g n cap : Nat} {l : List UInt8} (h : OwnL u8E S w base e (.slice (some ⟨g, 0, none⟩) n cap) l) (hn : n = l.length) : Lib.Bytes w g 0 ⟨l.toArray⟩ := by
  subst hn
  obtain ⟨xs, ho, hl, hx⟩ := h
  rw [u8_rows hl hx, u8_flat] at ho
  intro i hi
  have hi' : i < l.length := by simpa [ByteArray.size] using hi
  rw [Nat.zero_add, ho.cellAt i (by show i < l.length * 1; omega)]
  simp [hi', ByteArray.getElem_eq_getElem_data]
end Go.Proofs.YtgkddhakhapjlaaDoor

/- Walks: the closure of kernel.Untree that puts a step where it stands. -/
namespace Go.Proofs.YtgkddhakhapjlaaDoor
open Go Go.RowKit Go.Maps Go.WideMaps

/-- a list in a box gets one element more: what is left alone -/
theorem box_push2 {α : Type} {E : Enc α} {P : Program} {W : World} {B0 base B : Nat} {T e : TypeId} {v : Value} {l : List α} (hv : Boxed W B0 T v) (ho : OwnL E (fun _ => False) W base e v l) (hT : T ≠ e) (hbs : base ≤ W.heap.size) (hBb : B ≤ base) (hB0 : B ≤ B0)
    {t ty : TypeId} {z : Value} {bytes : Nat} (ht : P.underlying t = some (.slice e)) (hinfo : (P.info? e).map (fun i => (i.zero, i.size, i.bytes)) = some (some z, E.size, bytes)) (hzs : z.cells.size = E.size)
    {vs : List Value} {x : α} (hR : E.R (Off (fun _ => False) v) W vs x) (hlen : (l.length + 1) * bytes ≤ 140737488355328) (hmax : l.length + 1 ≤ big) :
    ∃ a' cap W2, RowKit.Hid ((Builtin.append_ #[t, t] ty #[v, .slice (some ⟨W.heap.size, 0, none⟩) 1 1]).run P (W.alloc (.cells vs.toArray e)) = .ok (.slice a' (l.length + 1) cap) W2) ∧
      RowKit.Hid (W2.cell? ⟨B0, 0, none⟩ = some v) ∧ RowKit.Hid (W2.frozen? ⟨B0, 0, none⟩ = false) ∧
      RowKit.Hid (Boxed (W2.setCell ⟨B0, 0, none⟩ (.slice a' (l.length + 1) cap)) B0 T (.slice a' (l.length + 1) cap)) ∧ RowKit.Hid (OwnL E (fun _ => False) (W2.setCell ⟨B0, 0, none⟩ (.slice a' (l.length + 1) cap)) base e (.slice a' (l.length + 1) cap) (l ++ [x])) ∧
      RowKit.Hid (∀ k, k < W.heap.size → k ≠ B0 → v.ownBlock ≠ some k → (W2.setCell ⟨B0, 0, none⟩ (.slice a' (l.length + 1) cap)).heap[k]? = W.heap[k]?) ∧ RowKit.Hid (Below B W (W2.setCell ⟨B0, 0, none⟩ (.slice a' (l.length + 1) cap))) ∧
      RowKit.Hid ((Value.slice a' (l.length + 1) cap).ownBlock = v.ownBlock ∨ ∃ k, (Value.slice a' (l.length + 1) cap).ownBlock = some k ∧ W.heap.size ≤ k) ∧
      RowKit.Hid (∀ k, k < W.heap.size → v.ownBlock ≠ some k → W2.heap[k]? = W.heap[k]?) := by
  obtain ⟨v', W2, hrun, ho2, hg, hat⟩ := ho.push (P := P) (t := t) (ty := ty) ht hinfo hzs hR hlen hmax hbs
  obtain ⟨a', cap, rfl, -⟩ := ho2.sl
  rw [List.length_append, List.length_singleton] at hrun ho2 hat
  have hnr : v.ownBlock ≠ some B0 := ho.notBox hv hT
  have hv2 : Boxed W2 B0 T v := hv.kept hg (fun e => hnr e.symm)
  have hg3 : W2.grownBy (W2.setCell ⟨B0, 0, none⟩ (.slice a' (l.length + 1) cap)) (some B0) := grownBy_setCell' _ _ _
  have hnr2 := ho2.notBox hv2 hT
  have ho3 := ho2.grown hg3 (fun k hk e => by cases e; exact hnr2 hk) (fun b hb _ => hb.elim)
  have hfr : ∀ k, k < W.heap.size → v.ownBlock ≠ some k → W2.heap[k]? = W.heap[k]? := fun k hk hr => hg.block k hk (fun e => hr e.symm)
  refine ⟨a', cap, W2, Lib.hid hrun, Lib.hid hv2.cell, Lib.hid hv2.frozen, Lib.hid (hv2.set _), Lib.hid ho3, Lib.hid (fun k hk h0 hr => ?_), Lib.hid ?_, Lib.hid hat, Lib.hid hfr⟩
  · exact (hg3.block k (Nat.lt_of_lt_of_le hk hg.size) (fun e => h0 (by injection e))).trans (hfr k hk hr)
  · exact ((Below.refl B W).grown hg (Nat.le_trans hBb hbs) (fun k e => Nat.le_trans hBb (ho.lt k e).1)).grown hg3 (Nat.le_trans (Nat.le_trans hBb hbs) hg.size) (fun k e => by cases e; exact hB0)

abbrev StK : Type := {x : Stp // stpR x}
theorem stKeyed : Keyed Tryd.prog 69 := Keyed.of_law (deep_law_laid (by kernel_rfl) (m := 3) (by omega) (of_decide_eq_true (by kernel_rfl)) (by kernel_rfl) (by kernel_rfl))
theorem typesPosS : ∃ m, Tryd.prog.types.size = m + 1 := ⟨Tryd.prog.types.size - 1, by have : 0 < Tryd.prog.types.size := of_decide_eq_true (by kernel_rfl); omega⟩
noncomputable abbrev KSt : KeyK StK Tryd.prog 69 := keyK stKeyed (fun x => stpV x.1) (fun x => .string (keyBytes [.int .i64 x.1.1, .int .i64 x.1.2.1, .int .i64 x.1.2.2]))
  (fun x => keyOf_ints3 Tryd.underlying69 (by kernel_rfl) (by kernel_rfl) typesPosS rfl rfl rfl (by kernel_rfl) (by kernel_rfl) (by kernel_rfl) (by decide) (by decide) (by decide) Tryd.underlying3 Tryd.underlying3 Tryd.underlying3 x.2.1 x.2.2.1 x.2.2.2)
  (fun x y h => by
    simp only [Value.agg.injEq, Array.mk.injEq, List.cons.injEq, Value.int.injEq, true_and, and_true] at h
    exact Subtype.ext (Prod.ext h.1 (Prod.ext h.2.1 h.2.2)))
def atF (p : List Stp) (x : StK) : Option Value := if x.1 ∈ p then some (.int .i64 (p.idxOf x.1 : Nat)) else none
theorem atF_new {p : List Stp} {x : StK} (h : x.1 ∉ p) : (fun z => if z = x then some (.int .i64 (p.length : Nat)) else atF p z) = atF (p ++ [x.1]) := by
  funext z
  unfold atF
  by_cases hz : z = x
  · subst hz
    rw [if_pos rfl, if_pos (by simp), List.idxOf_append, if_neg h]; simp
  · rw [if_neg hz]
    have hne : z.1 ≠ x.1 := fun e => hz (Subtype.ext e)
    by_cases hm : z.1 ∈ p
    · rw [if_pos hm, if_pos (by simp [hm]), List.idxOf_append, if_pos hm]
    · rw [if_neg hm, if_neg (by simp [hm, hne])]
/-- what Untree keeps: the steps, where they stand, the steps that are done; its own list of what is open -/
structure Um (B : Nat) (W : World) (q p : List Stp) (dn op : List Int) (vO : Value) : Prop where
  p : ∃ v, Boxed W B 25 v ∧ OwnSt W (B + 4) v p
  m : VMap KSt W (B + 1) q.length (atF q)
  a : Boxed W (B + 2) 81 (.map (some (B + 1)))
  d : ∃ v, Boxed W (B + 3) 34 v ∧ OwnI W (B + 4) v dn ∧ ∀ k, vO.ownBlock = some k → v.ownBlock ≠ some k
  o : OwnI W (B + 4) vO op
  sz : B + 4 ≤ W.heap.size
section
variable {B : Nat} {W W' : World} {q p : List Stp} {dn op : List Int} {vO : Value}
theorem Um.below (h : Um B W q p dn op vO) (hb : Below W.heap.size W W') : Um B W' q p dn op vO := by
  obtain ⟨v, h1, h2⟩ := h.p
  obtain ⟨u, h3, h4, h5⟩ := h.d
  exact ⟨⟨v, (hb.block _ h1.lt).trans h1, OwnL.call h2 hb⟩, h.m.below hb h.m.lt, (hb.block _ h.a.lt).trans h.a, ⟨u, (hb.block _ h3.lt).trans h3, OwnL.call h4 hb, h5⟩, OwnL.call h.o hb, Nat.le_trans h.sz hb.size⟩
/-- a new step gets its place -/
theorem Um.store (h : Um B W p p dn op vO) (x : StK) (hx : x.1 ∉ p) (hl : p.length ≤ 1000000) :
    ∃ W', RowKit.Hid ((Instr.mapUpdate 81 (.map (some (B + 1))) (stpV x.1) (.int .i64 (p.length : Nat))).run Tryd.prog W = .ok () W') ∧ RowKit.Hid (Um B W' (p ++ [x.1]) p dn op vO) ∧ RowKit.Hid (W.grownBy W' (some (B + 1))) := by
  obtain ⟨W', hrun, hm, hg⟩ := h.m.store (tm := 81) Tryd.underlying81 (by unfold maxLen; omega) x trivial (.int .i64 (p.length : Nat))
  have hn : atF p x = none := by unfold atF; rw [if_neg hx]
  rw [hn, atF_new hx] at hm
  simp only [Option.isSome_none, Bool.false_eq_true, if_false] at hm
  obtain ⟨v, h1, h2⟩ := h.p
  obtain ⟨u, h3, h4, h5⟩ := h.d
  have far : ∀ {E : Enc Stp} {e : TypeId} {v : Value} {l : List Stp}, OwnL E (fun _ => False) W (B + 4) e v l → OwnL E (fun _ => False) W' (B + 4) e v l := fun ho => ho.grown hg (fun k hk e => by have := (ho.lt k hk).1; injection e with e; omega) (fun b hb _ => hb.elim)
  have farI : ∀ {v : Value} {l : List Int}, OwnI W (B + 4) v l → OwnI W' (B + 4) v l := fun ho => OwnL.grown ho hg (fun k hk e => by have := (OwnL.lt ho k hk).1; injection e with e; omega) (fun b hb _ => hb.elim)
  exact ⟨W', Lib.hid hrun, Lib.hid ⟨⟨v, h1.kept hg (fun e => by injection e with e; omega), far h2⟩, by rw [List.length_append, List.length_singleton]; exact hm, h.a.kept hg (fun e => by injection e with e; omega), ⟨u, h3.kept hg (fun e => by injection e with e; omega), farI h4, h5⟩, farI h.o, Nat.le_trans h.sz hg.size⟩, Lib.hid hg⟩
theorem own_types {E F : Type} {A : Enc E} {C : Enc F} {e f : TypeId} {v u : Value} {l : List E} {m : List F} {S T : Nat → Prop} {b b' : Nat} (h : OwnL A S W b e v l) (k : OwnL C T W b' f u m) (hef : e ≠ f) : ∀ j, v.ownBlock = some j → u.ownBlock ≠ some j := fun j hj hk => by
  obtain ⟨c1, e1⟩ := OwnL.rowCells h j hj
  obtain ⟨c2, e2⟩ := OwnL.rowCells k j hk
  rw [e1] at e2
  simp only [Option.some.injEq, Obj.cells.injEq] at e2
  exact hef e2.2.1
/-- one step more -/
theorem Um.pushP (h : Um B W q p dn op vO) (x : Stp) (hx : stpR x) (hl : p.length ≤ 1000000) :
    ∃ av cv a' cap W2, RowKit.Hid (W.cell? ⟨B, 0, none⟩ = some (.slice av p.length cv)) ∧ RowKit.Hid ((Builtin.append_ #[25, 25] 25 #[.slice av p.length cv, .slice (some ⟨W.heap.size, 0, none⟩) 1 1]).run Tryd.prog (W.alloc (.cells #[.int .i64 x.1, .int .i64 x.2.1, .int .i64 x.2.2] 69)) = .ok (.slice a' (p.length + 1) cap) W2) ∧
      RowKit.Hid (W2.cell? ⟨B, 0, none⟩ = some (.slice av p.length cv)) ∧ RowKit.Hid (W2.frozen? ⟨B, 0, none⟩ = false) ∧ RowKit.Hid (Um B (W2.setCell ⟨B, 0, none⟩ (.slice a' (p.length + 1) cap)) q (p ++ [x]) dn op vO) ∧ RowKit.Hid (Below B W (W2.setCell ⟨B, 0, none⟩ (.slice a' (p.length + 1) cap))) ∧
      RowKit.Hid (∀ k, k < W.heap.size → k ≠ B → (Value.slice av p.length cv).ownBlock ≠ some k → (W2.setCell ⟨B, 0, none⟩ (.slice a' (p.length + 1) cap)).heap[k]? = W.heap[k]?) ∧ RowKit.Hid (∀ k, (Value.slice av p.length cv).ownBlock = some k → B + 4 ≤ k ∧ ∃ cs, W.heap[k]? = some (.cells cs 69 (0, 0))) := by
  obtain ⟨v, h1, h2⟩ := h.p
  obtain ⟨u, h3, h4, h5⟩ := h.d
  obtain ⟨a', cap, W2, r1, r2, r3, r4, r5, r6, r7, r8, -⟩ := box_push2 (P := Tryd.prog) (t := 25) (ty := 25) (B := B) h1 h2 (by decide) h.sz (by omega) (Nat.le_refl _) Tryd.underlying25 infoStp rfl (vs := [.int .i64 x.1, .int .i64 x.2.1, .int .i64 x.2.2]) (stp_R hx) (by omega) (by unfold big; omega)
  obtain ⟨av, cv, rfl, -⟩ := OwnL.sl h2
  have hv := fun k hk => (OwnL.lt h2 k hk).1
  have t1 := own_types h4 h2 (by decide)
  have t2 := own_types h.o h2 (by decide)
  refine ⟨av, cv, a', cap, W2, Lib.hid h1.cell, r1, r2, r3, Lib.hid ⟨⟨_, r4.out, r5.out⟩, h.m.same (r6.out _ h.m.lt (by omega) (fun e => by have := hv _ e; omega)), (r6.out _ h.a.lt (by omega) (fun e => by have := hv _ e; omega)).trans h.a, ⟨u, (r6.out _ h3.lt (by omega) (fun e => by have := hv _ e; omega)).trans h3, ?_, h5⟩, ?_, Nat.le_trans h.sz ?_⟩, r7, r6, Lib.hid (fun k hk => ⟨hv k hk, OwnL.rowCells h2 k hk⟩)⟩
  · exact OwnL.kept h4 (fun k hk => r6.out k (OwnL.lt h4 k hk).2 (by have := (OwnL.lt h4 k hk).1; omega) (t1 k hk)) (fun b hb _ => hb.1.elim)
  · exact OwnL.kept h.o (fun k hk => r6.out k (OwnL.lt h.o k hk).2 (by have := (OwnL.lt h.o k hk).1; omega) (t2 k hk)) (fun b hb _ => hb.1.elim)
  · exact r7.out.size
/-- one done step more -/
theorem Um.pushD (h : Um B W q p dn op vO) (x : Int) (hx : inRange x) (hl : dn.length ≤ 1000000) :
    ∃ av cv a' cap W2, RowKit.Hid (W.cell? ⟨B + 3, 0, none⟩ = some (.slice av dn.length cv)) ∧ RowKit.Hid ((Builtin.append_ #[34, 34] 34 #[.slice av dn.length cv, .slice (some ⟨W.heap.size, 0, none⟩) 1 1]).run Tryd.prog (W.alloc (.cells #[.int .i64 x] 3)) = .ok (.slice a' (dn.length + 1) cap) W2) ∧
      RowKit.Hid (W2.cell? ⟨B + 3, 0, none⟩ = some (.slice av dn.length cv)) ∧ RowKit.Hid (W2.frozen? ⟨B + 3, 0, none⟩ = false) ∧ RowKit.Hid (Um B (W2.setCell ⟨B + 3, 0, none⟩ (.slice a' (dn.length + 1) cap)) q p (dn ++ [x]) op vO) ∧ RowKit.Hid (Below B W (W2.setCell ⟨B + 3, 0, none⟩ (.slice a' (dn.length + 1) cap)))  := by
  obtain ⟨v, h1, h2⟩ := h.p
  obtain ⟨u, h3, h4, h5⟩ := h.d
  obtain ⟨a', cap, W2, r1, r2, r3, r4, r5, r6, r7, r8, -⟩ := box_push2 (P := Tryd.prog) (t := 34) (ty := 34) (B := B) h3 h4 (by decide) h.sz (by omega) (by omega) Tryd.underlying34 infoInt rfl (vs := [.int .i64 x]) (x := x) ⟨rfl, hx⟩ (by omega) (by unfold big; omega)
  obtain ⟨av, cv, rfl, -⟩ := OwnL.sl h4
  have hv := fun k hk => (OwnL.lt h4 k hk).1
  have t1 := own_types h2 h4 (by decide)
  refine ⟨av, cv, a', cap, W2, Lib.hid h3.cell, r1, r2, r3, Lib.hid ⟨⟨v, (r6.out _ h1.lt (by omega) (fun e => by have := hv _ e; omega)).trans h1, ?_⟩, h.m.same (r6.out _ h.m.lt (by omega) (fun e => by have := hv _ e; omega)), (r6.out _ h.a.lt (by omega) (fun e => by have := hv _ e; omega)).trans h.a, ⟨_, r4.out, r5.out, fun k hk e => ?_⟩, ?_, Nat.le_trans h.sz r7.out.size⟩, r7⟩
  · exact OwnL.kept h2 (fun k hk => r6.out k (OwnL.lt h2 k hk).2 (by have := (OwnL.lt h2 k hk).1; omega) (t1 k hk)) (fun b hb _ => hb.1.elim)
  · rcases r8.out with g | ⟨j, g1, g2⟩
    · rw [g] at e; exact h5 k hk e
    · rw [g1] at e; cases e; have := (OwnL.lt h.o k hk).2; omega
  · exact OwnL.kept h.o (fun k hk => r6.out k (OwnL.lt h.o k hk).2 (by have := (OwnL.lt h.o k hk).1; omega) (h5 k hk)) (fun b hb _ => hb.1.elim)
theorem Um.look (h : Um B W q p dn op vO) (x : StK) : (Instr.lookup 81 (.map (some (B + 1))) (stpV x.1) false).run Tryd.prog W = .ok ((atF q x).getD (.int .i64 0)) W := h.m.look (tm := 81) Tryd.underlying81 (zInt W) x trivial
theorem Um.look_ok (h : Um B W q p dn op vO) (x : StK) : (Instr.lookup 81 (.map (some (B + 1))) (stpV x.1) true).run Tryd.prog W = .ok (.tuple #[(atF q x).getD (.int .i64 0), .bool (atF q x).isSome]) W := h.m.look_ok (tm := 81) Tryd.underlying81 (zInt W) x trivial
end
theorem atF_old {p : List Stp} {x : StK} (h : x.1 ∈ p) : atF p x = some (.int .i64 (p.idxOf x.1 : Nat)) := by unfold atF; rw [if_pos h]
theorem atF_last {p : List Stp} {x : StK} (h : x.1 ∉ p) : atF (p ++ [x.1]) x = some (.int .i64 (p.length : Nat)) := by
  rw [← atF_new h]; simp
set_option maxRecDepth 100000 in
set_option maxHeartbeats 4000000 in
theorem untadd_any {B : Nat} {p : List Stp} {dn op : List Int} {vO : Value} (x : Stp) (w : World) (hU : Um B w p p dn op vO) (hx : stpR x) (hp : p.length ≤ 100000) (hd : dn.length ≤ 100000) :
    Calls Tryd.prog 43 #[stpV x, .pointer (some ⟨B + 2, 0, none⟩), .pointer (some ⟨B, 0, none⟩), .pointer (some ⟨B + 3, 0, none⟩)] w fun e w' => e = .returned (.tuple #[]) ∧ Um B w' (addP p x).1 (addP p x).1 (dn ++ [((addP p x).2 : Int)]) op vO ∧ Below B w w' := by
  obtain ⟨W0, hW0⟩ : ∃ W, w.alloc (.cells #[.int .i64 x.1, .int .i64 x.2.1, .int .i64 x.2.2] 69) = W := ⟨_, rfl⟩
  have hb0 : Below w.heap.size w W0 := by rw [← hW0]; exact below1 w _
  have hU0 := hU.below hb0
  have hX : W0.heap[w.heap.size]? = some (.cells #[.int .i64 x.1, .int .i64 x.2.1, .int .i64 x.2.2] 69 (0, 0)) := by rw [← hW0]; exact World.alloc_heap_new w _
  have hszB := hU.sz
  have hBb : Below B w W0 := hb0.mono (by omega)
  obtain ⟨x1, x2, x3⟩ := x
  dsimp only at hX hW0
  have hxc : ∀ {W : World}, W.heap[w.heap.size]? = some (.cells #[.int .i64 x1, .int .i64 x2, .int .i64 x3] 69 (0, 0)) → W.cell? ⟨w.heap.size, 0, none⟩ = some (.int .i64 x1) ∧ W.cell? ⟨w.heap.size, 1, none⟩ = some (.int .i64 x2) ∧ W.cell? ⟨w.heap.size, 2, none⟩ = some (.int .i64 x3) := fun h => by simp [World.cell?, h]
  obtain ⟨q1, q2, q3⟩ := hxc hX
  have qa := hU0.a.cell
  by_cases hm : (x1, x2, x3) ∈ p
  · have ha : addP p (x1, x2, x3) = (p, p.idxOf (x1, x2, x3)) := if_pos hm
    have hk := List.idxOf_lt_length_of_mem hm
    have hl1 := hU0.look_ok ⟨(x1, x2, x3), hx⟩
    have hbd : Below W0.heap.size W0 W0.drew := (Below.refl _ W0).drew
    have hUd := hU0.below hbd
    have hl2 := hUd.look ⟨(x1, x2, x3), hx⟩
    rw [atF_old hm] at hl1 hl2
    obtain ⟨k, hkk⟩ : ∃ k, p.idxOf (x1, x2, x3) = k := ⟨_, rfl⟩
    rw [hkk] at ha hk
    simp only [Option.getD_some, Option.isSome_some, hkk] at hl1 hl2
    obtain ⟨av, cv, a', cap, W2, r1, r2, r3, r4, r5, r6⟩ := hUd.pushD (k : Int) (by unfold inRange; omega) (by omega)
    have qd := r1.out
    have qad : W0.drew.cell? ⟨B + 2, 0, none⟩ = some (.map (some (B + 1))) := qa
    have q1d : W0.drew.cell? ⟨w.heap.size, 0, none⟩ = some (.int .i64 x1) := q1
    have q2d : W0.drew.cell? ⟨w.heap.size, 1, none⟩ = some (.int .i64 x2) := q2
    have q3d : W0.drew.cell? ⟨w.heap.size, 2, none⟩ = some (.int .i64 x3) := q3
    have qd2 : (W0.alloc (.cells #[.int .i64 (k : Int)] 3)).cell? ⟨B + 3, 0, none⟩ = some (.slice av dn.length cv) := cell_later (below1 W0 (.cells #[.int .i64 (k : Int)] 3)) qd
    have rrun := r2.out
    have rc := r3.out
    have rf := r4.out
    have hUH := r5
    have hBH := Lib.hid (hBb.trans ((hbd.mono (by have := hU0.sz; omega)).trans r6.out))
    have haH := Lib.hid ha
    clear hU hU0 hUd hX hxc hm ha hb0 hbd hkk hBb r1 r2 r3 r4 r5 r6
    go_enter Tryd.func43, Tryd.ntmps43
    go_wp2_with fail
    go_region_law (rw [if_pos (by kernel_rfl)]; refine oper_append_run (.tmp 23) (.tmp 27) _ rfl rfl rfl rrun ?_)
    all_goals go_end0
    all_goals rw [haH.out]
    all_goals exact ⟨rfl, hUH.out, hBH.out⟩
  · have ha : addP p (x1, x2, x3) = (p ++ [(x1, x2, x3)], p.length) := if_neg hm
    have hl1 := hU0.look_ok ⟨(x1, x2, x3), hx⟩
    have hno : atF p ⟨(x1, x2, x3), hx⟩ = none := by unfold atF; rw [if_neg hm]
    rw [hno] at hl1
    simp only [Option.getD_none, Option.isSome_none] at hl1
    obtain ⟨W1, s1, s2, s3⟩ := hU0.store ⟨(x1, x2, x3), hx⟩ hm (by omega)
    have hU1 := s2.out
    have hg1 := s3.out
    have hX1 : W1.heap[w.heap.size]? = some (.cells #[.int .i64 x1, .int .i64 x2, .int .i64 x3] 69 (0, 0)) := (hg1.block _ (by have := (Array.getElem?_eq_some_iff.1 hX).1; exact this) (fun e => by injection e with e; omega)).trans hX
    obtain ⟨u1, u2, u3⟩ := hxc hX1
    have ua := hU1.a.cell
    obtain ⟨v0, b0, o0⟩ := hU.p
    have ub : W0.cell? ⟨B, 0, none⟩ = some v0 := cell_later hb0 b0.cell
    obtain ⟨pv, pc, p', pcap, W2, t1, t2, t3, t4, t5, t6, t7, t8⟩ := hU1.pushP (x1, x2, x3) hx (by omega)
    have hv0 : v0 = .slice pv p.length pc := by
      have := t1.out
      rw [World.cell?_of_block (w := W0) (hg1.block B (by have := World.block_lt_of_cell? _ _ ub; exact this) (fun e => by injection e with e; omega)), ub] at this
      exact Option.some.inj this
    subst hv0
    have hU3 := t5.out
    obtain ⟨W3, hW3⟩ : ∃ W, W2.setCell ⟨B, 0, none⟩ (.slice p' (p.length + 1) pcap) = W := ⟨_, rfl⟩
    rw [hW3] at hU3
    have hX3 : W3.heap[w.heap.size]? = some (.cells #[.int .i64 x1, .int .i64 x2, .int .i64 x3] 69 (0, 0)) := by
      rw [← hW3]
      exact (t7.out _ (by have := (Array.getElem?_eq_some_iff.1 hX1).1; exact this) (by omega) (fun e => by have := (OwnL.lt o0 _ e).2; omega)).trans hX1
    obtain ⟨z1, z2, z3⟩ := hxc hX3
    have za := hU3.a.cell
    have hbd : Below W3.heap.size W3 W3.drew := (Below.refl _ W3).drew
    have hUd := hU3.below hbd
    have hl2 := hUd.look ⟨(x1, x2, x3), hx⟩
    rw [atF_last (x := ⟨(x1, x2, x3), hx⟩) hm] at hl2
    simp only [Option.getD_some] at hl2
    obtain ⟨av, cv, a', cap, W4, r1, r2, r3, r4, r5, r6⟩ := hUd.pushD (p.length : Int) (by unfold inRange; omega) (by omega)
    have qd := r1.out
    have qad : W3.drew.cell? ⟨B + 2, 0, none⟩ = some (.map (some (B + 1))) := za
    have q1d : W3.drew.cell? ⟨w.heap.size, 0, none⟩ = some (.int .i64 x1) := z1
    have q2d : W3.drew.cell? ⟨w.heap.size, 1, none⟩ = some (.int .i64 x2) := z2
    have q3d : W3.drew.cell? ⟨w.heap.size, 2, none⟩ = some (.int .i64 x3) := z3
    have qd2 : (W3.alloc (.cells #[.int .i64 (p.length : Int)] 3)).cell? ⟨B + 3, 0, none⟩ = some (.slice av dn.length cv) := cell_later (below1 W3 (.cells #[.int .i64 (p.length : Int)] 3)) qd
    have s1o := s1.out
    have t1o := t1.out
    have t2o := t2.out
    have t3o := t3.out
    have t4o := t4.out
    have rrun := r2.out
    have rc := r3.out
    have rf := r4.out
    have hUH := r5
    have hB3 : Below B w W3 := by rw [← hW3]; exact ((hBb.grown hg1 (by have := hU0.sz; omega) (fun k e => by injection e with e; omega))).trans t6.out
    have hBH := Lib.hid (hB3.trans ((hbd.mono (by have := hU3.sz; omega)).trans r6.out))
    have haH := Lib.hid ha
    clear hU hU0 hU1 hU3 hUd hX hX1 hX3 hxc hm ha hb0 hbd hBb r1 r2 r3 r4 r5 r6 s1 s2 s3 hno t1 t2 t3 t4 t5 t6 t7 t8 o0 b0 hB3 hg1
    go_enter Tryd.func43, Tryd.ntmps43
    go_wp2_with (at_builtin; refine wpList_append_run rfl _ _ _ rfl rfl rfl t2o ?_)
    go_region_law (rw [if_pos (by kernel_rfl)]; refine oper_append_run (.tmp 23) (.tmp 27) _ rfl rfl rfl rrun ?_)
    all_goals go_end0
    all_goals rw [haH.out]
    all_goals exact ⟨rfl, hUH.out, hBH.out⟩
end Go.Proofs.YtgkddhakhapjlaaDoor

/- The library's contract of strconv.Atoi, laid at the program (by the shelf's plain mode, numbers by name). -/
namespace Go.Proofs.YtgkddhakhapjlaaDoor
open Go Go.RowKit Go.Shelf

def sh172_ren : Go.Shelf.Ren := ⟨fun | 172 => 45 | 244 => 70 | 245 => 71 | 247 => 89 | 279 => 90 | 280 => 91 | 281 => 92 | 282 => 93 | 287 => 104 | 316 => 105 | 171 => 48 | 205 => 106 | 321 => 113 | 322 => 114 | 243 => 73 | 246 => 95 | 283 => 107 | 284 => 108 | 285 => 109 | 286 => 110 | 129 => 116 | 317 => 115 | 318 => 117 | 319 => 118 | 320 => 119 | 337 => 121 | 338 => 122 | n => n, fun | 9 => 9 | 3 => 3 | 75 => 86 | 76 => 87 | 4 => 4 | 5 => 5 | 167 => 138 | 37 => 90 | 0 => 0 | 85 => 139 | 2 => 2 | 168 => 141 | 53 => 155 | 175 => 156 | 46 => 158 | 210 => 161 | 127 => 118 | 145 => 173 | 143 => 171 | 21 => 21 | 171 => 163 | 173 => 166 | 212 => 175 | 51 => 176 | 20 => 20 | 213 => 177 | 232 => 181 | 233 => 182 | 80 => 95 | n => n, fun | 15 => 0 | 16 => 1 | 17 => 2 | 18 => 3 | 19 => 4 | n => n⟩
theorem sh172 : Go.Proofs.Lays.n172 Tryd.prog sh172_ren := {
  mixed := by kernel_rfl
  f129 := Tryd.func116.trans (congrArg some (by kernel_rfl))
  f171 := Tryd.func48.trans (congrArg some (by kernel_rfl))
  f172 := Tryd.func45.trans (congrArg some (by kernel_rfl))
  f205 := Tryd.func106.trans (congrArg some (by kernel_rfl))
  f243 := Tryd.func73.trans (congrArg some (by kernel_rfl))
  f244 := Tryd.func70.trans (congrArg some (by kernel_rfl))
  f245 := Tryd.func71.trans (congrArg some (by kernel_rfl))
  f246 := Tryd.func95.trans (congrArg some (by kernel_rfl))
  f247 := Tryd.func89.trans (congrArg some (by kernel_rfl))
  f279 := Tryd.func90.trans (congrArg some (by kernel_rfl))
  f280 := Tryd.func91.trans (congrArg some (by kernel_rfl))
  f281 := Tryd.func92.trans (congrArg some (by kernel_rfl))
  f282 := Tryd.func93.trans (congrArg some (by kernel_rfl))
  f283 := Tryd.func107.trans (congrArg some (by kernel_rfl))
  f284 := Tryd.func108.trans (congrArg some (by kernel_rfl))
  f285 := Tryd.func109.trans (congrArg some (by kernel_rfl))
  f286 := Tryd.func110.trans (congrArg some (by kernel_rfl))
  f287 := Tryd.func104.trans (congrArg some (by kernel_rfl))
  f316 := Tryd.func105.trans (congrArg some (by kernel_rfl))
  f317 := Tryd.func115.trans (congrArg some (by kernel_rfl))
  f318 := Tryd.func117.trans (congrArg some (by kernel_rfl))
  f319 := Tryd.func118.trans (congrArg some (by kernel_rfl))
  f320 := Tryd.func119.trans (congrArg some (by kernel_rfl))
  f321 := Tryd.func113.trans (congrArg some (by kernel_rfl))
  f322 := Tryd.func114.trans (congrArg some (by kernel_rfl))
  f337 := Tryd.func121.trans (congrArg some (by kernel_rfl))
  f338 := Tryd.func122.trans (congrArg some (by kernel_rfl))
  t0 := Tryd.underlying0
  a0 := Tryd.isAgg0
  z0 := Tryd.sizeOf0
  v0 := Tryd.zeroValue0
  t2 := Tryd.underlying2
  a2 := Tryd.isAgg2
  z2 := Tryd.sizeOf2
  v2 := Tryd.zeroValue2
  t3 := Tryd.underlying3
  a3 := Tryd.isAgg3
  z3 := Tryd.sizeOf3
  v3 := Tryd.zeroValue3
  t4 := Tryd.underlying4
  a4 := Tryd.isAgg4
  z4 := Tryd.sizeOf4
  v4 := Tryd.zeroValue4
  t5 := Tryd.underlying5
  a5 := Tryd.isAgg5
  z5 := Tryd.sizeOf5
  v5 := Tryd.zeroValue5
  t9 := Tryd.underlying9
  a9 := Tryd.isAgg9
  z9 := Tryd.sizeOf9
  v9 := Tryd.zeroValue9
  t20 := Tryd.underlying20
  a20 := Tryd.isAgg20
  z20 := Tryd.sizeOf20
  v20 := Tryd.zeroValue20
  t21 := Tryd.underlying21
  a21 := Tryd.isAgg21
  z21 := Tryd.sizeOf21
  v21 := Tryd.zeroValue21
  t37 := Tryd.underlying90
  a37 := Tryd.isAgg90
  z37 := Tryd.sizeOf90
  v37 := Tryd.zeroValue90
  t46 := Tryd.underlying158
  a46 := Tryd.isAgg158
  z46 := Tryd.sizeOf158
  v46 := Tryd.zeroValue158
  t51 := Tryd.underlying176
  a51 := Tryd.isAgg176
  z51 := Tryd.sizeOf176
  v51 := Tryd.zeroValue176
  t53 := Tryd.underlying155
  a53 := Tryd.isAgg155
  z53 := Tryd.sizeOf155
  v53 := Tryd.zeroValue155
  t75 := Tryd.underlying86
  a75 := Tryd.isAgg86
  z75 := Tryd.sizeOf86
  v75 := Tryd.zeroValue86
  t76 := Tryd.underlying87
  a76 := Tryd.isAgg87
  z76 := Tryd.sizeOf87
  v76 := Tryd.zeroValue87
  t85 := Tryd.underlying139
  a85 := Tryd.isAgg139
  z85 := Tryd.sizeOf139
  v85 := Tryd.zeroValue139
  t127 := Tryd.underlying118
  a127 := Tryd.isAgg118
  z127 := Tryd.sizeOf118
  v127 := Tryd.zeroValue118
  t143 := Tryd.underlying171
  a143 := Tryd.isAgg171
  z143 := Tryd.sizeOf171
  v143 := Tryd.zeroValue171
  t145 := Tryd.underlying173
  a145 := Tryd.isAgg173
  z145 := Tryd.sizeOf173
  v145 := Tryd.zeroValue173
  t167 := Tryd.underlying138
  a167 := Tryd.isAgg138
  z167 := Tryd.sizeOf138
  v167 := Tryd.zeroValue138
  t168 := Tryd.underlying141
  a168 := Tryd.isAgg141
  z168 := Tryd.sizeOf141
  v168 := Tryd.zeroValue141
  t171 := Tryd.underlying163
  a171 := Tryd.isAgg163
  z171 := Tryd.sizeOf163
  v171 := Tryd.zeroValue163
  t173 := Tryd.underlying166
  a173 := Tryd.isAgg166
  z173 := Tryd.sizeOf166
  v173 := Tryd.zeroValue166
  t175 := Tryd.underlying156
  a175 := Tryd.isAgg156
  z175 := Tryd.sizeOf156
  v175 := Tryd.zeroValue156
  t210 := Tryd.underlying161
  a210 := Tryd.isAgg161
  z210 := Tryd.sizeOf161
  v210 := Tryd.zeroValue161
  t212 := Tryd.underlying175
  a212 := Tryd.isAgg175
  z212 := Tryd.sizeOf175
  v212 := Tryd.zeroValue175
  t213 := Tryd.underlying177
  a213 := Tryd.isAgg177
  z213 := Tryd.sizeOf177
  t232 := Tryd.underlying181
  a232 := Tryd.isAgg181
  z232 := Tryd.sizeOf181
  v232 := Tryd.zeroValue181
  t233 := Tryd.underlying182
  a233 := Tryd.isAgg182
  z233 := Tryd.sizeOf182
  v233 := Tryd.zeroValue182
  g15 := by kernel_rfl
  g16 := by kernel_rfl
  g17 := by kernel_rfl
  g18 := by kernel_rfl
  g19 := by kernel_rfl }
theorem bytesWorld_low (w : World) (e : TypeId) (t : ByteArray) : Below w.heap.size w (Lib.bytesWorld w e t) := by
  exact ⟨rfl, rfl, rfl, by rw [Lib.bytesWorld_size]; omega, fun j hj => Lib.bytesWorld_at_old w e t j hj⟩
theorem Atoi_any (s : ByteArray) (n : Int) (hl : s.size ≤ 18) (h : Lib.atoi s.data.toList = some n) (w : World) :
    Calls Tryd.prog 45 #[.string s] w fun e w' => e = .returned (.tuple #[.int .i64 n, .nilIface]) ∧ Below w.heap.size w w' :=
  (Any.strconv_Atoi sh172 s n hl h w).mono fun e w' ⟨he, t, ht⟩ => ⟨he, by rw [ht]; exact bytesWorld_low w _ t⟩
end Go.Proofs.YtgkddhakhapjlaaDoor

/- Walks: kernel.Untree. -/
namespace Go.Proofs.YtgkddhakhapjlaaDoor
open Go Go.RowKit Go.Maps Go.WideMaps

theorem OwnI.takeN {w : World} {base g n cap k : Nat} {l : List Int} (h : OwnI w base (.slice (some ⟨g, 0, none⟩) n cap) l) (hn : n = l.length) (hk : k ≤ n) : OwnI w base (.slice (some ⟨g, 0, none⟩) k cap) (l.take k) := by
  subst hn
  obtain ⟨ho, hr⟩ := OwnL.row h
  refine OwnL.of_row ?_ (fun x hx => hr x (List.mem_of_mem_take hx))
  have hlk : (l.take k).length = k := by rw [List.length_take]; omega
  rw [hlk, List.map_take]
  obtain ⟨e1, e2⟩ := ho
  refine ⟨by rw [List.length_take, e1]; omega, ?_⟩
  rcases e2 with ⟨e2, -⟩ | ⟨g', cap', cur, e3, e4, e5, e6, e7, e8, e9⟩
  · cases e2
  · cases e3
    refine .inr ⟨g, cap, cur, rfl, e4, e5, by omega, e7, e8, ?_⟩
    rw [← e9, List.take_take, Nat.mul_one, Nat.mul_one, Nat.min_eq_left hk]
def opOf : List (Option Nat) → List Int
  | [] => []
  | none :: st => opOf st ++ [2]
  | some _ :: st => opOf st ++ [1]
def dnOf : List (Option Nat) → List Int
  | [] => []
  | none :: st => dnOf st
  | some m :: st => dnOf st ++ [(m : Int)]
def dnW (st : List (Option Nat)) : Option Nat → List Int
  | none => dnOf st
  | some k => dnOf st ++ [(k : Int)]
theorem opOf_len : ∀ st : List (Option Nat), (opOf st).length = st.length
  | [] => rfl
  | none :: st => by rw [opOf, List.length_append, opOf_len st]; rfl
  | some _ :: st => by rw [opOf, List.length_append, opOf_len st]; rfl
theorem dnOf_len : ∀ st : List (Option Nat), (dnOf st).length ≤ st.length
  | [] => Nat.le_refl _
  | none :: st => by have := dnOf_len st; rw [dnOf, List.length_cons]; omega
  | some _ :: st => by have := dnOf_len st; rw [dnOf, List.length_append, List.length_cons]; simp; omega
section
variable {B : Nat} {W : World} {q p : List Stp} {dn op : List Int} {vO : Value}
/-- one more that is open -/
theorem Um.pushO (h : Um B W q p dn op vO) (x : Int) (hx : inRange x) (hl : op.length ≤ 1000000) :
    ∃ v' W', RowKit.Hid ((Builtin.append_ #[34, 34] 34 #[vO, .slice (some ⟨W.heap.size, 0, none⟩) 1 1]).run Tryd.prog (W.alloc (.cells #[.int .i64 x] 3)) = .ok v' W') ∧ RowKit.Hid (Um B W' q p dn (op ++ [x]) v') ∧ RowKit.Hid (Below B W W') := by
  obtain ⟨v', W', hrun, ho, hg, hat⟩ := OwnL.push (P := Tryd.prog) (t := 34) (ty := 34) h.o Tryd.underlying34 infoInt rfl (vs := [.int .i64 x]) (x := x) ⟨rfl, hx⟩ (by omega) (by unfold big; omega) h.sz
  obtain ⟨v, h1, h2⟩ := h.p
  obtain ⟨u, h3, h4, h5⟩ := h.d
  have hv := fun k hk => (OwnL.lt h.o k hk).1
  have t1 := own_types h2 h.o (by decide)
  have keep : ∀ k, k < W.heap.size → vO.ownBlock ≠ some k → W'.heap[k]? = W.heap[k]? := fun k hk hr => hg.block k hk (fun e => hr e.symm)
  refine ⟨v', W', Lib.hid hrun, Lib.hid ⟨⟨v, (keep _ h1.lt (fun e => by have := hv _ e; omega)).trans h1, ?_⟩, h.m.same (keep _ h.m.lt (fun e => by have := hv _ e; omega)), (keep _ h.a.lt (fun e => by have := hv _ e; omega)).trans h.a, ⟨u, (keep _ h3.lt (fun e => by have := hv _ e; omega)).trans h3, ?_, fun k hk e => ?_⟩, ho, Nat.le_trans h.sz hg.size⟩, Lib.hid ?_⟩
  · exact OwnL.kept h2 (fun k hk => keep k (OwnL.lt h2 k hk).2 (t1 k hk)) (fun b hb _ => hb.1.elim)
  · exact OwnL.kept h4 (fun k hk => keep k (OwnL.lt h4 k hk).2 (fun e => h5 k e hk)) (fun b hb _ => hb.1.elim)
  · rcases hat with g | ⟨j, g1, g2⟩
    · rw [g] at hk; exact h5 k hk e
    · have := (OwnL.lt h4 k e).2
      rw [g1] at hk
      injection hk with hk
      omega
  · exact (Below.refl B W).grown hg (Nat.le_trans (by omega) h.sz) (fun k e => Nat.le_trans (by omega) (hv k e))
/-- the last open one is written -/
theorem Um.setO {l : List Int} {x0 : Int} (h : Um B W q p dn (l ++ [x0]) vO) (x : Int) (hx : inRange x) :
    ∃ g cap, vO = .slice (some ⟨g, 0, none⟩) (l.length + 1) cap ∧ l.length + 1 ≤ cap ∧ RowKit.Hid (W.cell? ⟨g, l.length, none⟩ = some (.int .i64 x0)) ∧ RowKit.Hid (W.frozen? ⟨g, l.length, none⟩ = false) ∧
      RowKit.Hid (Um B (W.setCell ⟨g, l.length, none⟩ (.int .i64 x)) q p dn (l ++ [x]) vO) ∧ RowKit.Hid (Below B W (W.setCell ⟨g, l.length, none⟩ (.int .i64 x))) ∧ RowKit.Hid ((W.setCell ⟨g, l.length, none⟩ (.int .i64 x)).cell? ⟨g, l.length, none⟩ = some (.int .i64 x)) := by
  have ho := h.o
  obtain ⟨g, cap, hv, hb, hlt⟩ := OwnL.form ho (by simp)
  have hll : (l ++ [x0]).length = l.length + 1 := by simp
  rw [hll] at hv
  subst hv
  obtain ⟨c1, c2⟩ := OwnL.cellInt ho hll.symm l.length (by simp)
  obtain ⟨s1, s2⟩ := OwnL.setInt ho hll.symm l.length x hx
  have hc : l.length + 1 ≤ cap := by obtain ⟨a, c, e, hI⟩ := OwnI.ints ho; simp only [Value.slice.injEq] at e; obtain ⟨-, -, rfl⟩ := e; rw [← hll]; exact hI.cap
  rw [List.getElem_concat_length (by rfl)] at c1
  have hset : (l ++ [x0]).set l.length x = l ++ [x] := by simp
  rw [hset] at s1
  obtain ⟨c3, -⟩ := OwnL.cellInt s1 (by simp) l.length (by simp)
  rw [List.getElem_concat_length (by rfl)] at c3
  obtain ⟨v, h1, h2⟩ := h.p
  obtain ⟨u, h3, h4, h5⟩ := h.d
  have t1 := own_types h2 ho (by decide)
  have keep : ∀ k, k < W.heap.size → g ≠ k → (W.setCell ⟨g, l.length, none⟩ (.int .i64 x)).heap[k]? = W.heap[k]? := fun k hk hr => s2.block k hk (fun e => hr (by injection e with e; exact e.symm))
  refine ⟨g, cap, rfl, hc, Lib.hid c1, Lib.hid c2, Lib.hid ⟨⟨v, (keep _ h1.lt (by omega)).trans h1, ?_⟩, h.m.same (keep _ h.m.lt (by omega)), (keep _ h.a.lt (by omega)).trans h.a, ⟨u, (keep _ h3.lt (by omega)).trans h3, ?_, h5⟩, s1, Nat.le_trans h.sz s2.size⟩, Lib.hid ?_, Lib.hid c3⟩
  · exact OwnL.kept h2 (fun k hk => keep k (OwnL.lt h2 k hk).2 (fun e => t1 k hk (by rw [← e]; rfl))) (fun b hb _ => hb.1.elim)
  · exact OwnL.kept h4 (fun k hk => keep k (OwnL.lt h4 k hk).2 (fun e => h5 k (by rw [← e]; rfl) hk)) (fun b hb _ => hb.1.elim)
  · exact (Below.refl B W).grown s2 (Nat.le_trans (by omega) h.sz) (fun k e => by injection e with e; omega)
/-- the last open one is left -/
theorem Um.takeO {l : List Int} {x0 : Int} {g n cap : Nat} (h : Um B W q p dn (l ++ [x0]) (.slice (some ⟨g, 0, none⟩) n cap)) (hn : n = l.length + 1) : Um B W q p dn l (.slice (some ⟨g, 0, none⟩) l.length cap) := by
  obtain ⟨u, h3, h4, h5⟩ := h.d
  have := OwnI.takeN h.o (k := l.length) (by simp [hn]) (by omega)
  rw [List.take_left'] at this
  · exact ⟨h.p, h.m, h.a, ⟨u, h3, h4, h5⟩, this, h.sz⟩
  · rfl
/-- the last two that are done are left -/
theorem Um.takeD {l : List Int} {x0 x1 : Int} (h : Um B W q p (l ++ [x0] ++ [x1]) op vO) :
    ∃ g cap, l.length + 1 + 1 ≤ cap ∧ RowKit.Hid (W.cell? ⟨B + 3, 0, none⟩ = some (.slice (some ⟨g, 0, none⟩) (l.length + 1 + 1) cap)) ∧ RowKit.Hid (W.frozen? ⟨B + 3, 0, none⟩ = false) ∧ RowKit.Hid (W.cell? ⟨g, l.length, none⟩ = some (.int .i64 x0)) ∧ RowKit.Hid (W.cell? ⟨g, l.length + 1, none⟩ = some (.int .i64 x1)) ∧
      RowKit.Hid (Um B (W.setCell ⟨B + 3, 0, none⟩ (.slice (some ⟨g, 0, none⟩) l.length cap)) q p l op vO) ∧ RowKit.Hid (Below B W (W.setCell ⟨B + 3, 0, none⟩ (.slice (some ⟨g, 0, none⟩) l.length cap))) := by
  obtain ⟨v, h1, h2⟩ := h.p
  obtain ⟨u, h3, h4, h5⟩ := h.d
  obtain ⟨g, cap, hv, hb, hlt⟩ := OwnL.form h4 (by simp)
  have hll : (l ++ [x0] ++ [x1]).length = l.length + 1 + 1 := by simp
  rw [hll] at hv
  subst hv
  have hc : l.length + 1 + 1 ≤ cap := by obtain ⟨a, c, e, hI⟩ := OwnI.ints h4; simp only [Value.slice.injEq] at e; obtain ⟨-, -, rfl⟩ := e; rw [← hll]; exact hI.cap
  obtain ⟨c1, -⟩ := OwnL.cellInt h4 hll.symm l.length (by simp)
  obtain ⟨c2, -⟩ := OwnL.cellInt h4 hll.symm (l.length + 1) (by simp)
  rw [List.getElem_append_left (by simp), List.getElem_concat_length (by rfl)] at c1
  rw [List.getElem_concat_length (by simp)] at c2
  have hk := OwnI.takeN h4 (k := l.length) hll.symm (by omega)
  rw [List.append_assoc, List.take_left' (by rfl)] at hk
  have hg3 : W.grownBy (W.setCell ⟨B + 3, 0, none⟩ (.slice (some ⟨g, 0, none⟩) l.length cap)) (some (B + 3)) := grownBy_setCell' _ _ _
  have keep : ∀ k, k < W.heap.size → k ≠ B + 3 → (W.setCell ⟨B + 3, 0, none⟩ (.slice (some ⟨g, 0, none⟩) l.length cap)).heap[k]? = W.heap[k]? := fun k hk hr => hg3.block k hk (fun e => hr (by injection e))
  refine ⟨g, cap, hc, Lib.hid h3.cell, Lib.hid h3.frozen, Lib.hid c1, Lib.hid c2, Lib.hid ⟨⟨v, (keep _ h1.lt (by omega)).trans h1, ?_⟩, h.m.same (keep _ h.m.lt (by omega)), (keep _ h.a.lt (by omega)).trans h.a, ⟨_, h3.set _, ?_, h5⟩, ?_, Nat.le_trans h.sz hg3.size⟩, Lib.hid ?_⟩
  · exact OwnL.kept h2 (fun k hk => keep k (OwnL.lt h2 k hk).2 (by have := (OwnL.lt h2 k hk).1; omega)) (fun b hb _ => hb.1.elim)
  · exact OwnL.kept hk (fun k hk' => keep k (OwnL.lt hk k hk').2 (by have := (OwnL.lt hk k hk').1; omega)) (fun b hb _ => hb.1.elim)
  · exact OwnL.kept h.o (fun k hk => keep k (OwnL.lt h.o k hk).2 (by have := (OwnL.lt h.o k hk).1; omega)) (fun b hb _ => hb.1.elim)
  · exact (Below.refl B W).grown hg3 (Nat.le_trans (by omega) h.sz) (fun k e => by injection e with e; omega)
end
theorem atoi2 {a b : UInt8} (ha : isDig a = true) (hb : isDig b = true) {s : ByteArray} (hs : s.data.toList = [a, b]) : Lib.atoi s.data.toList = some (numOf a b : Int) := by
  simp only [isDig, Bool.and_eq_true, decide_eq_true_eq] at ha hb
  have h45 : (a == 45) = false := by rw [beq_eq_false_iff_ne]; intro e; rw [e] at ha; simp at ha
  have h43 : (a == 43) = false := by rw [beq_eq_false_iff_ne]; intro e; rw [e] at ha; simp at ha
  rw [hs, Lib.atoi, h45, h43]
  simp only [Bool.false_eq_true, if_false, Lib.decNat, List.isEmpty_cons, Lib.decFrom, Lib.digitVal, if_pos ha, if_pos hb, Option.map_some]
  unfold numOf
  congr 2; omega
theorem digit_any (b : UInt8) (w : World) : Calls Tryd.prog 44 #[.int .u8 b.toNat] w fun e w' => e = .returned (.bool (isDig b)) ∧ w = w' := by
  have h := b.toNat_lt
  have hd : isDig b = (decide ((48 : Int) ≤ (b.toNat : Int)) && decide ((b.toNat : Int) ≤ 57)) := by
    unfold isDig; rw [Bool.eq_iff_iff]; simp only [Bool.and_eq_true, decide_eq_true_eq]; omega
  rw [hd]
  go_enter Tryd.func44, Tryd.ntmps44
  go_wp2
  all_goals go_ret
  all_goals exact ⟨ret_bool (by simp; omega), rfl⟩
def untI (G : Int) (t : ByteArray) (w : World) (vO iV : Value) (wr : World) : Prop :=
  ∃ (k : Nat) (st : List (Option Nat)) (p : List Stp) (w0 : Option Nat), iV = .int .i64 k ∧ k ≤ t.size ∧ Jo G st p w0 (t.data.toList.take k) ∧ untR G (t.data.toList.drop k) st p w0 = untR G t.data.toList [] [] none ∧ Um w.heap.size wr p p (dnW st w0) (opOf st) vO ∧ Below w.heap.size w wr
def untC (G : Int) (t : ByteArray) (w : World) (k : Nat) (vO : Value) (wr : World) : Prop :=
  ∃ (st : List (Option Nat)) (p : List Stp) (kk : Nat), Jc G st p kk k (t.data.toList.take (k + 3)) ∧ untR G (t.data.toList.drop (k + 3)) (closeP st p kk).1 (closeP st p kk).2.1 (closeP st p kk).2.2 = untR G t.data.toList [] [] none ∧ Um w.heap.size wr p p (dnOf st ++ [(kk : Int)]) (opOf st) vO ∧ Below w.heap.size w wr
def lenV (v : Value) : Nat := match v with | .slice _ n _ => n | _ => 0
theorem um_start (w : World) : Um w.heap.size ((((w.alloc (.cells #[.slice none 0 0] 25)).alloc (.map #[] 0)).alloc (.cells #[.map (some (w.heap.size + 1))] 81)).alloc (.cells #[.slice none 0 0] 34)) [] [] [] [] (.slice none 0 0) := by
  have h1 := Boxed.new w 25 (.slice none 0 0)
  have h2 := VMap.made KSt (w.alloc (.cells #[.slice none 0 0] 25))
  have h3 := Boxed.new ((w.alloc (.cells #[.slice none 0 0] 25)).alloc (.map #[] 0)) 81 (.map (some (w.heap.size + 1)))
  have h4 := Boxed.new (((w.alloc (.cells #[.slice none 0 0] 25)).alloc (.map #[] 0)).alloc (.cells #[.map (some (w.heap.size + 1))] 81)) 34 (.slice none 0 0)
  have hm := h2.same (w' := (((w.alloc (.cells #[.slice none 0 0] 25)).alloc (.map #[] 0)).alloc (.cells #[.map (some (w.heap.size + 1))] 81)).alloc (.cells #[.slice none 0 0] 34)) ((below2 _ _ _).block _ (by simp))
  have he : atF [] = fun _ => none := by funext x; unfold atF; simp
  simp only [World.size_alloc] at h2 h3 h4 hm
  refine ⟨⟨_, ((h1.alloc _).alloc _).alloc _, .nil _ _ _ _ _⟩, by rw [he]; exact hm, h3.alloc _, ⟨_, h4, .nil _ _ _ _ _, fun k hk => by simp [Value.ownBlock] at hk⟩, .nil _ _ _ _ _, by simp⟩
theorem below4 (w : World) (o1 o2 o3 o4 : Obj) : Below w.heap.size w ((((w.alloc o1).alloc o2).alloc o3).alloc o4) := bcall (below3 w o1 o2 o3) (below1 _ o4)
theorem drop_cons {t : ByteArray} {k : Nat} (h : k < t.size) : t.data.toList.drop k = t[k] :: t.data.toList.drop (k + 1) := by
  rw [List.drop_eq_getElem_cons (by simpa using h)]; rfl
theorem take_cons {t : ByteArray} {k : Nat} (h : k < t.size) : t.data.toList.take (k + 1) = t.data.toList.take k ++ [t[k]] := by
  rw [List.take_succ_eq_append_getElem (by simpa using h)]; rfl
theorem u8_int_eq {b : UInt8} {n : Nat} (hn : n < 256) : ((b.toNat : Int) == (n : Int)) = decide (b = UInt8.ofNat n) := by
  rw [Bool.eq_iff_iff]
  simp only [beq_iff_eq, decide_eq_true_eq]
  constructor
  · intro h; have : b.toNat = n := by omega
    rw [← this]; simp
  · intro h; rw [h, UInt8.toNat_ofNat_of_lt' hn]
theorem extract2 {t : ByteArray} {k : Nat} (h : k + 3 ≤ t.size) : (t.extract (k + 1) (k + 3)).data.toList = [t[k + 1], t[k + 2]] ∧ (t.extract (k + 1) (k + 3)).size ≤ 18 := by
  have hs : (t.extract (k + 1) (k + 3)).size = 2 := by rw [ByteArray.size_extract]; omega
  refine ⟨?_, by omega⟩
  apply List.ext_getElem
  · rw [Array.length_toList]; exact hs
  · intro i h1 h2
    have hi : i < (t.extract (k + 1) (k + 3)).size := by rw [Array.length_toList] at h1; exact h1
    have e : (t.extract (k + 1) (k + 3)).data.toList[i] = (t.extract (k + 1) (k + 3))[i] := rfl
    rw [e, ByteArray.getElem_extract]
    match i, hi with
    | 0, _ => rfl
    | 1, _ => rfl
    | n + 2, hi => omega
theorem bcall' {B : Nat} {w w1 w2 w3 : World} (h1 : Below B w w1) (h2 : Below w1.heap.size w1 w2) (h3 : Below B w2 w3) (hB : B ≤ w1.heap.size) : Below B w w3 := h1.trans ((h2.mono hB).trans h3)
theorem take_size_le (t : ByteArray) (k : Nat) : (t.data.toList.take k).length ≤ t.size := by
  rw [List.length_take, Array.length_toList]; exact Nat.min_le_right _ _
theorem numOf_le {a b : UInt8} (ha : isDig a = true) (hb : isDig b = true) : numOf a b < 100 := by
  simp only [isDig, Bool.and_eq_true, decide_eq_true_eq] at ha hb
  unfold numOf; omega
set_option maxRecDepth 100000 in
set_option maxHeartbeats 8000000 in
theorem Untree_any (G : Int) (t : ByteArray) (w : World) :
    Calls Tryd.prog 22 #[.int .i64 G, .string t] w (retStE (untE G t) w) := by
  have v1 := kwithin_any G 0 60 w
  by_cases hG : 0 ≤ G ∧ G ≤ 60
  case neg =>
    have hx : (decide (0 ≤ G) && decide (G ≤ 60)) = false := by rw [Bool.eq_false_iff]; simpa using hG
    rw [hx] at v1
    have hrH := Lib.hid (show untE G t = ([], 1) by unfold untE; rw [if_neg hG])
    have v1H := Lib.hid v1
    clear v1 hx hG
    go_enter Tryd.func22, Tryd.ntmps22
    go_wp2_with fail
    refine v1H.out.mono ?_
    rintro e w1 ⟨rfl, rfl⟩
    go_wp2_with fail
    go_ret2
    rw [hrH.out]
    exact ⟨_, rfl, .nil _ _ _ _ _, .refl _ _⟩
  have hx : (decide (0 ≤ G) && decide (G ≤ 60)) = true := by simpa using hG
  rw [hx] at v1
  have v1H := Lib.hid v1
  clear v1 hx
  by_cases hs : t.size ≤ 65536
  case neg =>
    have hs' : (65536 : Int) < (t.size : Int) := by omega
    have hrH := Lib.hid (show untE G t = ([], 3) by unfold untE; rw [if_pos hG, if_neg hs])
    clear hs
    go_enter Tryd.func22, Tryd.ntmps22
    go_wp2_with fail
    refine v1H.out.mono ?_
    rintro e w1 ⟨rfl, rfl⟩
    go_wp2_with fail
    go_ret2
    rw [hrH.out]
    exact ⟨_, rfl, .nil _ _ _ _ _, .refl _ _⟩
  have hs' : ¬ (65536 : Int) < (t.size : Int) := by omega
  have hr : untE G t = untR G t.data.toList [] [] none := by unfold untE; rw [if_pos hG, if_pos hs]
  have hrH := Lib.hid hr
  have hGH := Lib.hid hG
  have hmm := @run_makeMap Tryd.prog
  clear hr hG
  go_enter Tryd.func22, Tryd.ntmps22
  go_wp2_with fail
  refine v1H.out.mono ?_
  rintro e w1 ⟨rfl, rfl⟩
  go_wp2_with fail
  go_loopw [9, 11] (fun vO iV wr => untI G t w vO iV wr) (fun _ iV _ => t.size - (intOf iV).toNat)
  case atStart => exact ⟨0, [], [], none, rfl, Nat.zero_le _, by rw [List.take_zero]; exact .start G, by rw [List.drop_zero], um_start w, below4 w _ _ _ _⟩
  case round =>
    obtain ⟨k, st, p, w0, rfl, hk, hJ, hR, hU, hB⟩ := hrel
    have holen := opOf_len st
    obtain ⟨aO, cO, hvO, hIO⟩ := OwnI.ints hU.o
    rw [holen] at hvO
    subst hvO
    have hst60 : st.length ≤ 65536 := by have := hJ.cnt; rw [List.length_take] at this; omega
    have hp60 : p.length ≤ 65536 := by have := hJ.cnt; rw [List.length_take] at this; omega
    have hcap := hIO.cap
    clear hIO
    by_cases hlt : k < t.size
    · have hd := drop_cons hlt
      have htk := take_cons hlt
      cases w0 with
      | some kk =>
        obtain ⟨rfl, -, hc⟩ := hJ.whole kk rfl
        have hk0 : 0 < k := by
          have h1 := congrArg List.length hc
          have h2 := Tr.text_len ((trees p).getD kk (.g 0))
          rw [List.length_take] at h1; omega
        rw [hd, untR_over] at hR
        have hrr := hrH.out
        rw [← hR] at hrr
        have hrrH := Lib.hid hrr
        have hBH := Lib.hid hB
        have hk1 : (0 : Int) < (k : Int) := by omega
        clear hR hU hJ hB hc hrr hd htk
        --{
        go_wp2_with fail
        all_goals go_ret2
        all_goals rw [hrrH.out]
        all_goals exact ⟨_, rfl, .nil _ _ _ _ _, hBH.out⟩
        --}
      | none =>
        have hg : (¬ (0 : Int) < (k : Int)) ∨ ((0 : Int) < (k : Int) ∧ ((st.length : Int) == 0) = false) := by
          by_cases h0 : k = 0
          · left; omega
          · right
            refine ⟨by omega, ?_⟩
            have hc := congrArg List.length (hJ.open_ rfl)
            rw [List.length_take] at hc
            cases st with
            | nil => simp only [rend, List.length_nil, Array.length_toList] at hc; have : t.size = t.data.size := rfl; omega
            | cons o st => simp; omega
        by_cases h68 : t[k] = 68
        · have h68b : (((t[k]'hlt).toNat : Int) == 68) = true := by rw [h68]; rfl
          rw [h68] at hd htk
          rw [hd, untR_D] at hR
          have hJ1 := hJ.d
          rw [← htk] at hJ1
          obtain ⟨v', W', r1, r2, r3⟩ := hU.pushO 2 (by unfold inRange; omega) (by rw [holen]; omega)
          have rrun := r1.out
          have hrel : untI G t w v' (.int .i64 ((k + 1 : Nat) : Int)) W' := ⟨k + 1, none :: st, p, none, rfl, by omega, hJ1, hR, r2.out, hB.trans r3.out⟩
          have hrelH := Lib.hid hrel
          clear hR hU hJ hB hd htk hJ1 r1 r2 r3 hrel h68
          --{
          rcases hg with hg | ⟨hg1, hg2⟩
          all_goals go_wp2_with (at_builtin; refine wpList_append_run rfl _ _ _ rfl rfl rfl rrun ?_)
          all_goals go_roundw
          all_goals first | exact hrelH.out | (simp [intOf]; omega)
          --}
        · have h68b : (((t[k]'hlt).toNat : Int) == 68) = false := by
            rw [beq_eq_false_iff_ne]; intro e; exact h68 (UInt8.toNat_inj.1 (by show t[k].toNat = 68; omega))
          by_cases h103 : t[k] = 103
          case neg =>
            have h103b : (((t[k]'hlt).toNat : Int) != 103) = true := by
              simp only [bne_iff_ne, ne_eq]; intro e; exact h103 (UInt8.toNat_inj.1 (by show t[k].toNat = 103; omega))
            rw [hd, untR_no _ _ _ _ _ h68 h103] at hR
            have hrr := hrH.out
            rw [← hR] at hrr
            have hrrH := Lib.hid hrr
            have hBH := Lib.hid hB
            clear hR hU hJ hB hrr hd htk h103 h68
            --{
            rcases hg with hg | ⟨hg1, hg2⟩
            all_goals go_wp2_with fail
            all_goals go_ret2
            all_goals rw [hrrH.out]
            all_goals exact ⟨_, rfl, .nil _ _ _ _ _, hBH.out⟩
            --}
          have h103b : (((t[k]'hlt).toNat : Int) != 103) = false := by rw [h103]; rfl
          rw [h103] at hd htk
          have e1 : IntKind.i64.wrap ((k : Int) + 1) = ((k + 1 : Nat) : Int) := by rw [IntWalk.i64_in _ (by omega)]; omega
          have e2 : IntKind.i64.wrap ((k : Int) + 2) = ((k + 2 : Nat) : Int) := by rw [IntWalk.i64_in _ (by omega)]; omega
          have e3 : IntKind.i64.wrap ((k : Int) + 3) = ((k + 3 : Nat) : Int) := by rw [IntWalk.i64_in _ (by omega)]; omega
          by_cases h3 : k + 3 ≤ t.size
          case neg =>
            have h3b : (t.size : Int) < ((k + 3 : Nat) : Int) := by omega
            have hres : untR G (t.data.toList.drop k) st p none = ([], 2) := by
              rw [hd]
              have hl : (t.data.toList.drop (k + 1)).length ≤ 1 := by rw [List.length_drop, Array.length_toList]; have : t.size = t.data.size := rfl; omega
              match hm : t.data.toList.drop (k + 1), hl with
              | [], _ => rw [untR_g0]
              | [a], _ => rw [untR_g1]
            rw [hres] at hR
            have hrr := hrH.out
            rw [← hR] at hrr
            have hrrH := Lib.hid hrr
            have hBH := Lib.hid hB
            clear hR hU hJ hB hrr hd htk h103 h68 hres
            --{
            rcases hg with hg | ⟨hg1, hg2⟩
            all_goals go_wp2_with fail
            all_goals go_ret2
            all_goals rw [hrrH.out]
            all_goals exact ⟨_, rfl, .nil _ _ _ _ _, hBH.out⟩
            --}
          have h4 : k + 1 < t.size := by omega
          have h5 : k + 2 < t.size := by omega
          have hd3 : t.data.toList.drop k = 103 :: t[k + 1] :: t[k + 2] :: t.data.toList.drop (k + 3) := by rw [hd, drop_cons h4, drop_cons h5]
          have ht3 : t.data.toList.take (k + 3) = t.data.toList.take k ++ [103, t[k + 1], t[k + 2]] := by
            rw [take_cons h5, take_cons h4, htk]; simp
          have h3b : ¬ (t.size : Int) < ((k + 3 : Nat) : Int) := by omega
          have cd1 := fun W => digit_any t[k + 1] W
          have cd2 := fun W => digit_any t[k + 2] W
          rw [hd3, untR_g] at hR
          have hend : ([], (2 : Int)) = untR G t.data.toList [] [] none → untE G t = ([], 2) := fun h => by rw [hrH.out, ← h]
          have hBH := Lib.hid hB
          cases hx1 : isDig t[k + 1] with
          | false =>
            rw [if_neg (by rw [hx1]; simp)] at hR
            rw [hx1] at cd1
            have hrrH := Lib.hid (hend hR)
            have cd1H := Lib.hid cd1
            clear hR hU hJ hB hd htk h103 h68 hd3 ht3 cd1 cd2 hend hx1
            --{
            rcases hg with hg | ⟨hg1, hg2⟩
            all_goals go_wp2_with fail
            all_goals refine (cd1H.out _).mono ?_
            all_goals rintro e w1 ⟨rfl, rfl⟩
            all_goals go_wp2_with fail
            all_goals go_ret2
            all_goals rw [hrrH.out]
            all_goals exact ⟨_, rfl, .nil _ _ _ _ _, hBH.out⟩
            --}
          | true =>
            rw [hx1] at cd1
            cases hx2 : isDig t[k + 2] with
            | false =>
              rw [if_neg (by rw [hx2]; simp)] at hR
              rw [hx2] at cd2
              have hrrH := Lib.hid (hend hR)
              have cd1H := Lib.hid cd1
              have cd2H := Lib.hid cd2
              clear hR hU hJ hB hd htk h103 h68 hd3 ht3 cd1 cd2 hend hx1 hx2
              --{
              rcases hg with hg | ⟨hg1, hg2⟩
              all_goals go_wp2_with fail
              all_goals refine (cd1H.out _).mono ?_
              all_goals rintro e w1 ⟨rfl, rfl⟩
              all_goals go_wp2_with fail
              all_goals refine (cd2H.out _).mono ?_
              all_goals rintro e w1 ⟨rfl, rfl⟩
              all_goals go_wp2_with fail
              all_goals go_ret2
              all_goals rw [hrrH.out]
              all_goals exact ⟨_, rfl, .nil _ _ _ _ _, hBH.out⟩
              --}
            | true =>
              rw [hx2] at cd2
              obtain ⟨hse, hss⟩ := extract2 h3
              have ca := fun W => Atoi_any (t.extract (k + 1) (k + 3)) (numOf t[k + 1] t[k + 2] : Int) (by omega) (atoi2 hx1 hx2 hse) W
              have hn := numOf_le hx1 hx2
              by_cases hnG : (numOf t[k + 1] t[k + 2] : Int) < G
              case neg =>
                rw [if_neg (fun h => hnG h.2.2)] at hR
                have hrrH := Lib.hid (hend hR)
                have cd1H := Lib.hid cd1
                have cd2H := Lib.hid cd2
                have caH := Lib.hid ca
                have hnGb : (G ≤ (numOf t[k + 1] t[k + 2] : Int)) := by omega
                obtain ⟨N, hN⟩ : ∃ N, numOf t[k + 1] t[k + 2] = N := ⟨_, rfl⟩
                rw [hN] at caH hnGb
                clear hR hU hJ hB hd htk h103 h68 hd3 ht3 cd1 cd2 hend hx1 hx2 hN hnG ca hse
                --{
                rcases hg with hg | ⟨hg1, hg2⟩
                all_goals go_wp2_with fail
                all_goals refine (cd1H.out _).mono ?_
                all_goals rintro e w1 ⟨rfl, rfl⟩
                all_goals go_wp2_with fail
                all_goals refine (cd2H.out _).mono ?_
                all_goals rintro e w1 ⟨rfl, rfl⟩
                all_goals go_wp2_with fail
                all_goals refine (caH.out _).mono ?_
                all_goals rintro e w1 ⟨rfl, hb1⟩
                all_goals go_wp2_with fail
                all_goals go_ret2
                all_goals rw [hrrH.out]
                all_goals exact ⟨_, rfl, .nil _ _ _ _ _, bcall hBH.out hb1⟩
                --}
              rw [if_pos ⟨hx1, hx2, hnG⟩] at hR
              have hJg := hJ.g hx1 hx2 hnG
              rw [← ht3, List.length_take, Array.length_toList, Nat.min_eq_left (show k ≤ t.data.size from hk)] at hJg
              have hrt : stpR (1, (numOf t[k + 1] t[k + 2] : Int), 0) := ⟨(show inRange (1 : Int) by unfold inRange; omega), (show inRange (numOf t[k + 1] t[k + 2] : Int) by unfold inRange; omega), (show inRange (0 : Int) by unfold inRange; omega)⟩
              have cadd := fun W (hb : Below wr.heap.size wr W) => untadd_any (1, (numOf t[k + 1] t[k + 2] : Int), 0) W (hU.below hb) hrt (by omega) (by have := dnOf_len st; show (dnOf st).length ≤ 100000; omega)
              obtain ⟨N, hN⟩ : ∃ N, numOf t[k + 1] t[k + 2] = N := ⟨_, rfl⟩
              rw [hN] at ca hn hnG hR hJg cadd
              have hnGb : ¬ (G ≤ (N : Int)) := by omega
              have cd1H := Lib.hid cd1
              have cd2H := Lib.hid cd2
              have caH := Lib.hid ca
              have hJgH := Lib.hid hJg
              have hRH := Lib.hid hR
              have caddH := Lib.hid cadd
              clear hR hU hJ hB hd htk h103 h68 hd3 ht3 cd1 cd2 hend hx1 hx2 hN hnG ca hse hJg cadd
              rcases hg with hg | ⟨hg1, hg2⟩
              all_goals go_wp2_with fail
              all_goals refine (cd1H.out _).mono ?_
              all_goals rintro e w1 ⟨rfl, rfl⟩
              all_goals go_wp2_with fail
              all_goals refine (cd2H.out _).mono ?_
              all_goals rintro e w1 ⟨rfl, rfl⟩
              all_goals go_wp2_with fail
              all_goals refine (caH.out _).mono ?_
              all_goals rintro e w1 ⟨rfl, hb1⟩
              all_goals go_wp2_with fail
              all_goals refine (caddH.out w1 hb1).mono ?_
              all_goals rintro e w2 ⟨rfl, hU2, hb2⟩
              all_goals
                have hC0 : untC G t w k (.slice aO st.length cO) w2 := ⟨st, _, _, hJgH.out, hRH.out, hU2, bcall' hBH.out hb1 hb2 (by have := hb1.size; have := hBH.out.size; omega)⟩
                have hC0H := Lib.hid hC0
                clear hC0 hU2 hb1 hb2
                go_wp2_with fail
              all_goals
                go_loopw [9] (fun vO wr => untC G t w k vO wr) (fun vO _ => lenV vO)
                case atStart => exact hC0H.out
                case round =>
                  clear hC0H
                  obtain ⟨st, p, kk, hJ, hR, hU, hB⟩ := hrel
                  have hst60 : p.length + st.length ≤ 65536 := Nat.le_trans hJ.cnt (Nat.le_trans (take_size_le t (k + 3)) hs)
                  cases st with
                  | nil =>
                    obtain ⟨a1, c1, hv, -⟩ := OwnI.ints hU.o
                    rw [opOf_len] at hv
                    subst hv
                    have hrel : untI G t w (.slice a1 0 c1) (.int .i64 ((k + 3 : Nat) : Int)) wr := ⟨k + 3, [], p, some kk, rfl, by omega, hJ.done, hR, hU, hB⟩
                    have hrelH := Lib.hid hrel
                    clear hrel hU hB hJ hR
                    simp only [List.length_nil]
                    go_wp2_with fail
                    all_goals go_roundw
                    all_goals first | exact hrelH.out | (simp [intOf]; omega)
                  | cons o st =>
                    rw [List.length_cons] at hst60
                    have hL := opOf_len st
                    have eL : IntKind.i64.wrap (((st.length + 1 : Nat) : Int) - 1) = ((st.length : Nat) : Int) := by rw [IntWalk.i64_in _ (by omega)]; omega
                    cases o with
                    | none =>
                      obtain ⟨g, cap, hv, hcp, d1, d2, d3, d4, d5⟩ := Um.setO (l := opOf st) (x0 := 2) hU 1 (by unfold inRange; omega)
                      rw [hL] at hv d1 d2 d3 d4 d5 hcp
                      subst hv
                      have c1 := d1.out
                      have c2 := d2.out
                      have c3 := d5.out
                      have hrel : untI G t w (.slice (some ⟨g, 0, none⟩) (st.length + 1) cap) (.int .i64 ((k + 3 : Nat) : Int)) (wr.setCell ⟨g, st.length, none⟩ (.int .i64 1)) := ⟨k + 3, some kk :: st, p, none, rfl, by omega, hJ.wait, hR, d3.out, hB.trans d4.out⟩
                      have hrelH := Lib.hid hrel
                      clear hrel hU hB hJ hR d1 d2 d3 d4 d5 hL
                      go_wp2_with fail
                      all_goals go_roundw
                      all_goals first | exact hrelH.out | (simp [intOf]; omega)
                    | some m =>
                      have hm := hJ.stl m (by simp)
                      have hkk := hJ.kl
                      obtain ⟨g, cap, hv, hcp, d1, d2, d3, d4, d5⟩ := Um.setO (l := opOf st) (x0 := 1) hU 0 (by unfold inRange; omega)
                      rw [hL] at hv d1 d2 d3 d4 d5 hcp
                      subst hv
                      have c1 := d1.out
                      have c2 := d2.out
                      have c3 := d5.out
                      have hUt := Um.takeO (x0 := 0) d3.out (by rw [hL])
                      rw [hL] at hUt
                      obtain ⟨W2, hW2⟩ : ∃ W, wr.setCell ⟨g, st.length, none⟩ (.int .i64 0) = W := ⟨_, rfl⟩
                      rw [hW2] at hUt c3 d4
                      have hD := dnOf_len st
                      obtain ⟨gD, cD, hcD, f1, f2, f3, f4, f5, f6⟩ := Um.takeD (l := dnOf st) (x0 := (m : Int)) (x1 := (kk : Int)) hUt
                      obtain ⟨M, hM⟩ : ∃ M, (dnOf st).length = M := ⟨_, rfl⟩
                      rw [hM] at hcD f1 f3 f4 f5 f6 hD
                      have q1 := f1.out
                      have q2 := f2.out
                      have q3 := f3.out
                      have q4 := f4.out
                      have eM1 : IntKind.i64.wrap (((M + 1 + 1 : Nat) : Int) - 2) = ((M : Nat) : Int) := by rw [IntWalk.i64_in _ (by omega)]; omega
                      have eM2 : IntKind.i64.wrap (((M + 1 + 1 : Nat) : Int) - 1) = ((M + 1 : Nat) : Int) := by rw [IntWalk.i64_in _ (by omega)]; omega
                      have hJc := hJ.close
                      have cadd := fun W (hb : Below (W2.setCell ⟨w.heap.size + 3, 0, none⟩ (.slice (some ⟨gD, 0, none⟩) M cD)).heap.size (W2.setCell ⟨w.heap.size + 3, 0, none⟩ (.slice (some ⟨gD, 0, none⟩) M cD)) W) => untadd_any (2, (m : Int), (kk : Int)) W (f5.out.below hb) ⟨(show inRange (2 : Int) by unfold inRange; omega), (show inRange (m : Int) by unfold inRange; omega), (show inRange (kk : Int) by unfold inRange; omega)⟩ (by omega) (by omega)
                      have hB2 := hB.trans (d4.out.trans f6.out)
                      have hJH := Lib.hid hJc
                      have hRH := Lib.hid hR
                      have caddH := Lib.hid cadd
                      have hB2H := Lib.hid hB2
                      clear hU hB hJ hR d1 d2 d3 d4 d5 hL f1 f2 f3 f4 f5 f6 hUt hJc cadd hB2 hM
                      go_wp2_with fail
                      try rw [hW2]
                      go_quiet (fail)
                      go_wp2_with fail
                      refine (caddH.out _ (below_drewN (Below.refl _ _) nq)).mono ?_
                      rintro e w4 ⟨rfl, hU4, hb4⟩
                      have hrel : untC G t w k (.slice (some ⟨g, 0, none⟩) st.length cap) w4 := ⟨st, _, _, hJH.out, hRH.out, hU4, (below_drewN hB2H.out nq).trans hb4⟩
                      have hrelH := Lib.hid hrel
                      clear hrel hU4 hb4
                      go_wp2_with fail
                      all_goals go_roundw
                      all_goals first | exact hrelH.out | (simp only [lenV]; omega)
    · clear hcap
      obtain rfl : k = t.size := by omega
      rw [List.drop_of_length_le (by rw [Array.length_toList]; exact Nat.le_refl _)] at hR
      cases w0 with
      | none =>
        rw [untR_short] at hR
        have hrr := hrH.out
        rw [← hR] at hrr
        have hrrH := Lib.hid hrr
        have hBH := Lib.hid hB
        obtain ⟨vD, hbD, hoD, -⟩ := hU.d
        have cD := hbD.cell
        obtain ⟨aD, cD', hvD, -⟩ := OwnI.ints hoD
        subst hvD
        have hcase : (0 : Int) < (st.length : Int) ∨ (¬ (0 : Int) < (st.length : Int) ∧ (((dnW st none).length : Int) != 1) = true) := by
          cases st with
          | nil => right; exact ⟨by simp, rfl⟩
          | cons o st => left; simp
        clear hR hU hJ hB hrr hbD hoD holen hst60
        generalize st.length = n at *
        generalize (dnW st none).length = m at *
        rcases hcase with hg | ⟨hg1, hg2⟩
        all_goals go_wp2_with fail
        all_goals go_ret2
        all_goals rw [hrrH.out]
        all_goals exact ⟨_, rfl, .nil _ _ _ _ _, hBH.out⟩
      | some kk =>
        obtain ⟨rfl, -, -⟩ := hJ.whole kk rfl
        rw [untR_end] at hR
        have hBH := Lib.hid hB
        obtain ⟨vD, hbD, hoD, -⟩ := hU.d
        have cD := hbD.cell
        obtain ⟨aD, cD', hvD, -⟩ := OwnI.ints hoD
        subst hvD
        have hg1 : ¬ (0 : Int) < ((([] : List (Option Nat)).length : Nat) : Int) := by simp
        have hg2 : (((dnW [] (some kk)).length : Int) != 1) = false := rfl
        obtain ⟨vP, hbP, hoP⟩ := hU.p
        have cP := hbP.cell
        obtain ⟨aP, cP', hvP, -⟩ := OwnL.sl hoP
        subst hvP
        have hoH := Lib.hid (OwnL.baseMono (base' := w.heap.size) hoP (by omega))
        have hrr := hrH.out
        rw [← hR] at hrr
        by_cases h60 : p.length ≤ 60
        · rw [if_pos h60] at hrr
          have hrrH := Lib.hid hrr
          have h60b : ¬ (60 : Int) < (p.length : Int) := by omega
          clear hR hU hJ hB hrr hbD hoD hbP hoP h60
          go_wp2_with fail
          all_goals go_ret2
          all_goals rw [hrrH.out]
          all_goals exact ⟨_, rfl, hoH.out, hBH.out⟩
        · rw [if_neg h60] at hrr
          have hrrH := Lib.hid hrr
          have h60b : (60 : Int) < (p.length : Int) := by omega
          clear hR hU hJ hB hrr hbD hoD hbP hoP h60
          go_wp2_with fail
          all_goals go_ret2
          all_goals rw [hrrH.out]
          all_goals exact ⟨_, rfl, .nil _ _ _ _ _, hBH.out⟩
end Go.Proofs.YtgkddhakhapjlaaDoor

/- Walks of package kernel: halves, Detach, Detaches. -/
namespace Go.Proofs.YtgkddhakhapjlaaDoor
open Go Go.RowKit Go.Maps

def halvesRet (w : World) (A B : List Int) (e : Ending) (w' : World) : Prop :=
  ∃ a4 c4 a5 c5, e = .returned (.tuple #[.slice a4 A.length c4, .slice a5 B.length c5, .bool true]) ∧ Ints (fun _ => True) w' a4 c4 A ∧ Ints (fun _ => True) w' a5 c5 B ∧ Below w.heap.size w w'
set_option maxHeartbeats 1000000 in
theorem halves_yes {S1 S2 : Nat → Prop} (a1 a2 : Option Addr) (c1 c2 : Nat) (s : Sg) (m A B : List Int) (w : World) (h1 : Sign S1 w a1 c1 s) (h2 : Ints S2 w a2 c2 m) (hm : okT s m = true) (hL : argsT s m = [A, B]) (h0 : m.headD 0 = 0) :
    Calls Tryd.prog 33 #[.slice a1 s.length c1, .slice a2 m.length c2] w (halvesRet w A B) := by
  have m2 := h2.le
  have lm := (okT_parts hm).2.1
  obtain ⟨b, o, rfl, -, q, -⟩ := h2.int 0 (by omega)
  have hg : m[0] = m.headD 0 := by cases m with | nil => simp at lm | cons _ _ => rfl
  rw [hg, h0, Nat.add_zero] at q
  have ca := Args_any a1 (some ⟨b, o, none⟩) c1 c2 s m w h1 h2
  rw [argsE_ok hm, hL] at ca
  have caH := Lib.hid ca
  clear ca h1 h2 hm hL h0 hg
  go_enter Tryd.func33, Tryd.ntmps33
  go_wp2_with fail
  refine caH.out.mono ?_
  rintro e w1 ⟨v, rfl, ho, hb⟩
  obtain ⟨a, c, rfl, hT⟩ := ho.sl
  obtain ⟨b1, o1, a4, c4, rfl, -, q1, hA⟩ := hT.sub 0 (by simp)
  obtain ⟨b2, o2, a5, c5, he, -, q2, hB⟩ := hT.sub 1 (by simp)
  simp only [Option.some.injEq, Addr.mk.injEq, and_true] at he
  obtain ⟨rfl, rfl⟩ := he
  simp only [List.getElem_cons_zero, List.getElem_cons_succ] at q1 q2 hA hB
  rw [Nat.add_zero] at q1
  have hAH := Lib.hid hA.any
  have hBH := Lib.hid hB.any
  clear ho hT hA hB caH q
  go_wp2_with fail
  go_quiet (fail)
  all_goals go_wp2_with fail
  go_ret3
  exact ⟨_, _, _, _, rfl, hAH.out.drewN _, hBH.out.drewN _, below_drewN hb _⟩
set_option maxHeartbeats 1000000 in
theorem halves_no {S2 : Nat → Prop} (v : Value) (a2 : Option Addr) (c2 : Nat) (m : List Int) (w : World) (h2 : Ints S2 w a2 c2 m) (lm : 1 ≤ m.length) (h0 : m.headD 0 ≠ 0) :
    Calls Tryd.prog 33 #[v, .slice a2 m.length c2] w fun e w' => e = .returned (.tuple #[.slice none 0 0, .slice none 0 0, .bool false]) ∧ w = w' := by
  have m2 := h2.le
  obtain ⟨b, o, rfl, -, q, -⟩ := h2.int 0 (by omega)
  have hg : m[0] = m.headD 0 := by cases m with | nil => simp at lm | cons _ _ => rfl
  rw [hg, Nat.add_zero] at q
  have hne : (m.headD 0 != 0) = true := by simpa using h0
  obtain ⟨x, hx⟩ : ∃ x, m.headD 0 = x := ⟨_, rfl⟩
  rw [hx] at q hne
  clear h2 hg h0 hx
  go_enter Tryd.func33, Tryd.ntmps33
  go_wp2_with fail
  go_ret3
  exact ⟨rfl, rfl⟩
set_option maxHeartbeats 2000000 in
theorem Detached_any {S1 S2 S3 S4 : Nat → Prop} (a1 a2 a3 a4 : Option Addr) (c1 c2 c3 c4 : Nat) (s : Sg) (a t b : List Int) (w : World) (h1 : Sign S1 w a1 c1 s) (h2 : Ints S2 w a2 c2 a) (h3 : Ints S3 w a3 c3 t) (h4 : Ints S4 w a4 c4 b) (ha : okT s a = true) (hb : okT s b = true) :
    Calls Tryd.prog 34 #[.slice a1 s.length c1, .slice a2 a.length c2, .slice a3 t.length c3, .slice a4 b.length c4] w (retE (uniE s a (apartT b) t) w) := by
  have m2 := h2.le
  have m3 := h3.le
  have m4 := h4.le
  have v4 := apart_any a4 c4 b w h4 (by have := (okT_parts hb).2.2.1; unfold lim; omega) (okT_ne hb) (okT_rg hb)
  have v3 := fun W (hbl : Below w.heap.size w W) T a5 c5 (hi : Ints T W a5 c5 (apartT b)) => solved_any a1 a2 a5 c1 c2 c5 s a (apartT b) W (h1.below hbl) (h2.below hbl) hi (okT_parts ha).1 (okT_w1 ha) (apartT_w (okT_w1 hb)) (okT_Rg ha) (apartT_rg hb) (by have := (okT_parts ha).2.2.1; omega) (by rw [apartT_len]; have := (okT_parts hb).2.2.1; omega)
  have v5 : ∀ W, Below w.heap.size w W → T0 W a3 c3 t := fun W hb => (h3.below hb).lt.weak (fun _ h => h.2)
  have hal := apartT_len b
  have v3H := Lib.hid v3
  have v4H := Lib.hid v4
  have v5H := Lib.hid v5
  have halH := Lib.hid hal
  clear v3 v4 v5 h1 h2 h3 h4 hal ha hb
  go_enter Tryd.func34, Tryd.ntmps34
  go_wp2_with fail
  refine v4H.out.mono ?_
  rintro e w3 ⟨v, rfl, ho, hb3⟩
  obtain ⟨a5, c5, rfl, hI⟩ := OwnI.ints ho
  clear ho
  go_wp2_with fail
  refine (v3H.out _ hb3 _ _ _ hI).mono ?_
  rintro e w4 ⟨xb, mb, r, rfl, hb4, hf, ht⟩
  clear hI
  cases r with
  | false =>
    have hmH := Lib.hid (uniE_none (hf rfl) t)
    have hb5 := bcall hb3 hb4
    clear hf ht hb3 hb4
    go_wp2_with fail
    go_ret2
    exact ⟨_, by rw [hmH.out]; rfl, by rw [hmH.out]; exact .nil _ _ _ _ _, hb5⟩
  | true =>
    obtain ⟨B, θ, ρ, n, g1, g2, g3, g4⟩ := ht rfl
    have hmH := Lib.hid (uniE_some g3 t)
    have cm := made_any g4 g1 (v5H.out _ hb3)
    have hb5 := bcall hb3 hb4
    have cmH := Lib.hid cm
    clear hf ht hb3 hb4 cm g1 g2 g3 g4
    go_wp2_with fail
    refine cmH.out.mono ?_
    rintro e w5 ⟨v, rfl, ho, hb6⟩
    have hoH := Lib.hid (OwnL.baseMono (base' := w.heap.size) ho hb5.size)
    clear ho cmH
    go_wp2_with fail
    go_ret2
    exact ⟨_, by rw [hmH.out]; rfl, by rw [hmH.out]; exact hoH.out, bcall hb5 hb6⟩
set_option maxHeartbeats 2000000 in
theorem Detach_any {S1 S2 S3 : Nat → Prop} (a1 a2 a3 : Option Addr) (c1 c2 c3 : Nat) (s : Sg) (m n : List Int) (w : World) (h1 : Sign S1 w a1 c1 s) (h2 : Ints S2 w a2 c2 m) (h3 : Ints S3 w a3 c3 n) :
    Calls Tryd.prog 16 #[.slice a1 s.length c1, .slice a2 m.length c2, .slice a3 n.length c3] w (retE (detE s m n) w) := by
  have m2 := h2.le
  have m3 := h3.le
  have v1 := Valid_any a1 a2 c1 c2 s m w h1 h2
  have v2 := fun W (hb : Below w.heap.size w W) => Valid_any a1 a3 c1 c3 s n W (h1.below hb) (h3.below hb)
  obtain ⟨x, hx⟩ : ∃ x, okT s m = x := ⟨_, rfl⟩
  obtain ⟨y, hy⟩ : ∃ x, okT s n = x := ⟨_, rfl⟩
  rw [hx] at v1
  rw [hy] at v2
  have v1H := Lib.hid v1
  have v2H := Lib.hid v2
  clear v1 v2
  cases x with
  | false =>
    have hmH := Lib.hid (show detE s m n = ([], 1) by unfold detE; rw [if_neg (by rw [hx]; simp)])
    clear hx hy h1 h2 h3
    go_enter Tryd.func16, Tryd.ntmps16
    go_wp2_with (go_at_call 32; refine v1H.out.mono ?_; rintro e w1 ⟨rfl, hb1⟩)
    go_ret2
    exact ⟨_, by rw [hmH.out]; rfl, by rw [hmH.out]; exact .nil _ _ _ _ _, hb1⟩
  | true =>
  cases y with
  | false =>
    have hmH := Lib.hid (show detE s m n = ([], 1) by unfold detE; rw [if_neg (by rw [hy]; simp)])
    clear hx hy h1 h2 h3
    go_enter Tryd.func16, Tryd.ntmps16
    go_wp2_with fail
    refine v1H.out.mono ?_
    rintro e w1 ⟨rfl, hb1⟩
    go_wp2_with fail
    refine (v2H.out _ hb1).mono ?_
    rintro e w2 ⟨rfl, hb2⟩
    go_wp2_with fail
    go_ret2
    exact ⟨_, by rw [hmH.out]; rfl, by rw [hmH.out]; exact .nil _ _ _ _ _, bcall hb1 hb2⟩
  | true =>
    by_cases h0 : m.headD 0 = 0
    · obtain ⟨A, B, e1, e2, oA, oB⟩ := halves hx h0
      have hmH := Lib.hid (detE_at hx hy e2 (okT_w1 oA))
      have ch := fun W (hb : Below w.heap.size w W) => halves_yes a1 a2 c1 c2 s m A B W (h1.below hb) (h2.below hb) hx e1 h0
      have cd := fun W (hb : Below w.heap.size w W) a4 c4 a5 c5 (hA : Ints (fun _ => True) W a4 c4 A) (hB : Ints (fun _ => True) W a5 c5 B) => Detached_any a1 a4 a5 a3 c1 c4 c5 c3 s A B n W (h1.below hb) hA hB (h3.below hb) oA hy
      have chH := Lib.hid ch
      have cdH := Lib.hid cd
      clear ch cd hx hy h1 h2 h3 e1 e2 oA oB h0
      go_enter Tryd.func16, Tryd.ntmps16
      go_wp2_with fail
      refine v1H.out.mono ?_
      rintro e w1 ⟨rfl, hb1⟩
      go_wp2_with fail
      refine (v2H.out _ hb1).mono ?_
      rintro e w2 ⟨rfl, hb2⟩
      have hb2 := bcall hb1 hb2
      clear hb1
      go_wp2_with fail
      refine (chH.out _ hb2).mono ?_
      rintro e w3 ⟨a4, c4, a5, c5, rfl, hA, hB, hb3⟩
      have hb3 := bcall hb2 hb3
      clear hb2
      have cd := cdH.out _ hb3 _ _ _ _ hA hB
      have cdK := Lib.hid cd
      have lA := hA.le
      have lB := hB.le
      clear cd hA hB
      go_wp2_with fail
      refine cdK.out.mono ?_
      rintro e w4 ⟨v, rfl, ho, hb4⟩
      have hoH := Lib.hid (OwnL.baseMono (base' := w.heap.size) ho hb3.size)
      clear ho cdK
      go_wp2_with fail
      go_ret2
      exact ⟨_, by rw [hmH.out]; rfl, by rw [hmH.out]; exact hoH.out, bcall hb3 hb4⟩
    · have hmH := Lib.hid (detE_state hx hy h0)
      have ch := fun W (hb : Below w.heap.size w W) => halves_no (.slice a1 s.length c1) a2 c2 m W (h2.below hb) (okT_parts hx).2.1 h0
      have chH := Lib.hid ch
      clear ch hx hy h1 h2 h3 h0
      go_enter Tryd.func16, Tryd.ntmps16
      go_wp2_with fail
      refine v1H.out.mono ?_
      rintro e w1 ⟨rfl, hb1⟩
      go_wp2_with fail
      refine (v2H.out _ hb1).mono ?_
      rintro e w2 ⟨rfl, hb2⟩
      have hb2 := bcall hb1 hb2
      clear hb1
      go_wp2_with fail
      refine (chH.out _ hb2).mono ?_
      rintro e w3 ⟨rfl, rfl⟩
      go_wp2_with fail
      go_ret2
      exact ⟨_, by rw [hmH.out]; rfl, by rw [hmH.out]; exact .nil _ _ _ _ _, hb2⟩
end Go.Proofs.YtgkddhakhapjlaaDoor

/- A range over a function whose iterator keeps and changes lists of its own. No program is named. -/
namespace Go.Proofs.YtgkddhakhapjlaaDoor
open Go Go.RowKit

/-- what stands whatever blocks of the kind Rw, or that hold no cells, turn from B on -/
def OwnRows {β : Type} (Rw : World → Nat → Obj → Prop) (B : Nat) (I : β → World → Prop) : Prop :=
  ∀ s W W' row, I s W → W.grownBy W' row → (∀ r, row = some r → B ≤ r ∧ ∃ o : Obj, W.heap[r]? = some o ∧ (o.isCells = false ∨ Rw W r o)) → I s W'
theorem OwnRows.from {β : Type} {Rw : World → Nat → Obj → Prop} {B : Nat} {I : β → World → Prop} (h : OwnRows Rw B I) : OwnFrom B I := fun s W W' row hs hg hr =>
  h s W W' row hs hg (fun r e => by obtain ⟨g1, o, g2, g3⟩ := hr r e; exact ⟨g1, o, g2, .inl g3⟩)
/-- what stands whatever the iterator turns: blocks of the kind Rw, or marks of walks over maps, from B on -/
def AbidesRows {β : Type} (Rw : World → Nat → Obj → Prop) (B : Nat) (J : β → World → Prop) : Prop :=
  ∀ s W W' row, J s W → W.grownBy W' row → (∀ r, row = some r → B ≤ r ∧ ∃ o : Obj, W.heap[r]? = some o ∧ (o.isWalk = true ∨ Rw W r o)) → J s W'
theorem OwnRows.and {β : Type} {Rw : World → Nat → Obj → Prop} {B : Nat} {I I' : β → World → Prop} (h : OwnRows Rw B I) (h' : OwnRows Rw B I') : OwnRows Rw B (fun s W => I s W ∧ I' s W) := fun s W W' row hs hg hr => ⟨h s W W' row hs.1 hg hr, h' s W W' row hs.2 hg hr⟩
def SeqRelG {α : Type} (F : Fence) (n : Nat) (P : Program) (g : Nat) (lb : Array Value) (encs : α → Array Value) (R : α → World → Prop) (Kp : World → World → Prop) (Rw : World → Nat → Obj → Prop) (S Sp : List α → Prop) (N : Nat) (w : World) : Prop :=
  ∀ (l : Nat) (J Jx : List α → World → Prop) (W : World), Below w.heap.size w W → AbidesRows Rw W.heap.size J → AbidesRows Rw W.heap.size Jx →
    (∀ pre x W1, J pre W1 → R x W1 → pre.length < N → YieldAt F (n - 1) P l (encs x) W1 fun e W' =>
      (e = .returned (.bool true) ∧ J (pre ++ [x]) W' ∧ Kp W1 W') ∨ (e = .returned (.bool false) ∧ Jx (pre ++ [x]) W')) →
    J [] W → CallsIn F n P g (#[.func (.yield l) #[] #[]] ++ lb) W fun e W' => (∃ v, e = .returned v) ∧ ((∃ xs, S xs ∧ J xs W') ∨ (∃ pre, Sp pre ∧ Jx pre W'))
/-- how the body of a round may be left -/
def relPostG {α : Type} (B : Nat) (Kp : World → World → Prop) (I : List α → World → Prop) (Ix : Code → List α → World → Prop) (xs : List α) (W : World) (e : Exit) (_ : Act) (W' : World) : Prop :=
  KeepsFrom B W W' ∧ match e with
    | .normal => Kp W W' ∧ I xs W'
    | .ret => Ix .ret xs W'
    | .exit id => Ix (.exit id) xs W'
    | .goto t => Ix (.goto t) xs W'
    | .panic _ => False
    | .outgrown => False
section
variable {F : Fence} {n : Nat} {P : Program} {α : Type}
theorem Book.grownG {l d : Nat} {rec : Loop} {A B : World} {row : Option Nat} (h : Book l d rec A) (hg : A.grownBy B row) (hr : ∀ r, row = some r → ∃ o : Obj, A.heap[r]? = some o ∧ (o.isWalk = true ∨ o.isCells = true)) : Book l d rec B := by
  have k : ∀ {b : Nat} {o : Obj}, A.heap[b]? = some o → o.isWalk = false → o.isCells = false → B.heap[b]? = some o := fun hb h1 h2 => by
    refine (hg.block _ (Array.getElem?_eq_some_iff.1 hb).1 (fun e => ?_)).trans hb
    obtain ⟨o', g1, g2⟩ := hr _ e.symm
    rw [hb] at g1
    cases g1
    rcases g2 with g2 | g2
    · rw [h1] at g2; cases g2
    · rw [h2] at g2; cases g2
  exact ⟨k h.loop rfl rfl, k h.calls rfl rfl⟩
set_option maxHeartbeats 1000000 in
theorem range_relG {g : Operand} {ps : Array Tmp} {assign body : Code} {Q : Exit → Act → World → Prop} {a : Act} {w : World}
    (hro : F.round = none) (h1 : 1 ≤ n) {gf : Nat} {lb : Array Value} (hg : a.eval g = .func (.func gf) #[] lb) (hFg : F.fn gf) (eg : ∀ args w, (callFunc gf args).run P w = .ok (.enter gf args) w)
    {encs : α → Array Value} {R : α → World → Prop} {Kp : World → World → Prop} {Rw : World → Nat → Obj → Prop} {S Sp : List α → Prop} {N : Nat} {w0 : World} (hseq : SeqRelG F (n - 1) P gf lb encs R Kp Rw S Sp N w0) (hRw : ∀ W r o, Rw W r o → o.isCells = true)
    (hKt : ∀ {A B C : World}, Kp A B → Kp B C → Kp A C) (hKb : ∀ (W : World) (l : Nat) (o o' : Obj), w.heap.size ≤ l → W.heap[l]? = some o → o.isCells = false → o.isWalk = false → Kp W (W.putObj l o')) (hb0 : Below w0.heap.size w0 w) (hps : ∀ x, (encs x).size = ps.size)
    (I : List α → World → Prop) (Ix : Code → List α → World → Prop) (hI : OwnRows Rw w.heap.size I) (hIx : ∀ c, OwnRows Rw w.heap.size (Ix c)) (h0 : I [] w) (Ax : α → Act → World → Prop) (hAx : ∀ x a', OwnFrom w.heap.size (fun (_ : Unit) W => Ax x a' W))
    (hassign : ∀ (l : Nat) (pre : List α) (x : α) (W : World) (K : Act → World → Prop), I pre W → R x W → (∀ a' W', KeepsFrom w.heap.size W W' → Kp W W' → I pre W' → Ax x a' W' → K a' W') →
      assign.wpIn (F.inRound l) (n - 1 - 1) P (Exit.then K (fun _ _ _ => False)) { tmps := (ps.zip (encs x)).foldl (fun t (p, v) => t.setIfInBounds p v) a.tmps, defers := [] } W)
    (hbody : ∀ (l : Nat) (pre : List α) (x : α) (a' : Act) (W : World), w.heap.size ≤ l → (∃ r, W.heap[l]? = some (.loop r)) → I pre W → Ax x a' W → pre.length < N → body.wpIn (F.inRound l) (n - 1 - 1) P (relPostG w.heap.size Kp I Ix (pre ++ [x]) W) a' W)
    (hdone : ∀ (D : Nat) (xs : List α) (W : World), w.heap.size ≤ D → S xs → I xs W → W.heap[D]? = some (.deferred (some [])) → Q .normal { a with defers := { target := .collected D, args := #[] } :: a.defers } W)
    (hstop : ∀ (D : Nat) (c : Code) (pre : List α) (W : World), w.heap.size ≤ D → Sp pre → Ix c pre W → W.heap[D]? = some (.deferred (some [])) → c.wpIn F n P Q { a with defers := { target := .collected D, args := #[] } :: a.defers } W) :
    (Code.rangeFunc g ps assign body).wpIn F n P Q a w := by
  refine wpIn_rangeFunc fun fn hfn => ?_
  rw [hro]
  obtain ⟨d, hd⟩ : ∃ d, w.heap.size = d := ⟨_, rfl⟩
  rw [hd] at hKb hI hIx hAx hassign hbody hdone hstop
  obtain ⟨rec, hrec⟩ : ∃ rec : LoopState → Option Code → Loop, ∀ st pe, rec st pe = { state := st, pending := pe, fn, tmps := a.tmps, params := ps, assign, body, defers := d } := ⟨_, fun _ _ => rfl⟩
  have hz : (w.alloc (.deferred (some []))).heap.size = d + 1 := by simp [hd]
  have hB1 : Book (d + 1) d (rec .ready none) ((w.alloc (.deferred (some []))).alloc (.loop (rec .ready none))) := by
    refine ⟨by rw [← hz]; exact World.alloc_heap_new _ _, ?_⟩
    rw [Below.heap_alloc _ _ _ (by omega), ← hd]; exact World.alloc_heap_new w _
  have hIF := hI.from
  have hIxF := fun c => (hIx c).from
  have hI1 : I [] ((w.alloc (.deferred (some []))).alloc (.loop (rec .ready none))) := hIF.alloc _ (hIF.alloc _ h0)
  have hW1 : Below w0.heap.size w0 ((w.alloc (.deferred (some []))).alloc (.loop (rec .ready none))) := (hb0.alloc hb0.size _).alloc (by have := hb0.size; omega) _
  have hs1 : ((w.alloc (.deferred (some []))).alloc (.loop (rec .ready none))).heap.size = d + 2 := by rw [World.size_alloc, hz]
  have hen := run_enterLoop_outer (P := P) (w := w) fn a.tmps ps assign body
  rw [hd, ← hrec .ready none] at hen
  generalize (w.alloc (.deferred (some []))).alloc (.loop (rec .ready none)) = W1 at hB1 hI1 hW1 hs1 hen
  refine ⟨d + 1, [{ target := .collected d, args := #[] }], W1, { target := .fn (.func gf) lb, args := #[.func (.yield (d + 1)) #[] #[]] }, W1, gf, #[.func (.yield (d + 1)) #[] #[]] ++ lb, W1, hen, ?_, ?_, ?_, fun _ => h1, ?_⟩
  · simp only [resolve, hg]; simp [go_sem]
  · intro f' hf'
    simp [Target.leads] at hf'
    rw [← hf']; exact hFg
  · simp [invoke, go_sem, eg]
  have hcall := hseq (d + 1) (fun pre W => I pre W ∧ Book (d + 1) d (rec .ready none) W) (fun pre W => ∃ c, Ix c pre W ∧ Book (d + 1) d (rec .done (some c)) W) W1 hW1
    (fun s A B row hs hgr hr => ⟨hI s A B row hs.1 hgr (fun r e => by obtain ⟨g1, o, g2, g3⟩ := hr r e; exact ⟨by omega, o, g2, g3.imp Obj.not_cells_of_walk id⟩), hs.2.grownG hgr (fun r e => by obtain ⟨g1, o, g2, g3⟩ := hr r e; exact ⟨o, g2, g3.imp id (hRw _ _ _)⟩)⟩)
    (fun s A B row hs hgr hr => by obtain ⟨c, q1, q2⟩ := hs; exact ⟨c, hIx c s A B row q1 hgr (fun r e => by obtain ⟨g1, o, g2, g3⟩ := hr r e; exact ⟨by omega, o, g2, g3.imp Obj.not_cells_of_walk id⟩), q2.grownG hgr (fun r e => by obtain ⟨g1, o, g2, g3⟩ := hr r e; exact ⟨o, g2, g3.imp id (hRw _ _ _)⟩)⟩)
  refine (hcall ?_ ⟨hI1, hB1⟩).mono ?_
  · rintro pre x W ⟨hi, hb⟩ hR hlen
    have hy := run_yield (P := P) (args := encs x) hb.loop (by rw [hrec]; exact hps x)
    rw [hrec] at hy
    refine ⟨fn, _, assign, body, hy, roundIn_of_wpIn hfn (hassign (d + 1) pre x W _ hi hR fun a' Wa k1 k2 k3 k4 => ?_)⟩
    have hba := hb.keeps (by omega) (Nat.le_refl _) k1
    refine ⟨_, run_beginRound hba.loop (by rw [hrec]), ?_⟩
    have hb2 : Book (d + 1) d { rec .ready none with state := .busy } (Wa.putObj (d + 1) (.loop { rec .ready none with state := .busy })) := hba.turn (by omega)
    have hk2 : Kp Wa (Wa.putObj (d + 1) (.loop { rec .ready none with state := .busy })) := hKb _ _ _ _ (by omega) hba.loop rfl rfl
    have hi2 := hIF.putObj (.loop { rec .ready none with state := .busy }) k3 (by omega) hba.loop rfl
    have ha2 := (hAx x a').putObj (s := ()) (.loop { rec .ready none with state := .busy }) k4 (by omega) hba.loop rfl
    have hend : ∀ (jump : Option Code) (W3 : World), KeepsFrom d (Wa.putObj (d + 1) (.loop { rec .ready none with state := .busy })) W3 →
        (Instr.endRound (d + 1) jump).run P W3 = .ok (.bool jump.isNone) (W3.putObj (d + 1) (.loop (rec (if jump.isNone then .ready else .done) jump))) ∧
        W3.heap[d + 1]? = some (.loop { rec .ready none with state := .busy }) ∧ Book (d + 1) d (rec (if jump.isNone then .ready else .done) jump) (W3.putObj (d + 1) (.loop (rec (if jump.isNone then .ready else .done) jump))) := fun jump W3 k => by
      have hb3 := hb2.keeps (by omega) (Nat.le_refl _) k
      have hr := run_endRound (P := P) jump hb3.loop
      rw [hrec .ready none] at hr
      rw [hrec (if jump.isNone then .ready else .done) jump]
      exact ⟨hr, hb3.loop, hb3.turn (by omega)⟩
    refine wpIn_mono (hbody (d + 1) pre x a' _ (by omega) ⟨_, hb2.loop⟩ hi2 ha2 hlen) fun e a3 W3 hp => ?_
    obtain ⟨q1, q3⟩ := hp
    cases e with
    | normal =>
      obtain ⟨q2, q3⟩ := q3
      have hkk : ∀ o', Kp W (W3.putObj (d + 1) o') := fun o' => hKt k2 (hKt (hKt hk2 q2) (hKb _ _ _ _ (by omega) (hb2.keeps (by omega) (Nat.le_refl _) q1).loop rfl rfl))
      obtain ⟨r1, r2, r3⟩ := hend none W3 q1
      exact ⟨_, _, r1, .inl ⟨rfl, ⟨hIF.putObj _ q3 (by omega) r2 rfl, r3⟩, hkk _⟩⟩
    | ret =>
      obtain ⟨r1, r2, r3⟩ := hend (some .ret) W3 q1
      exact ⟨_, _, r1, .inr ⟨rfl, ⟨.ret, (hIxF _).putObj _ q3 (by omega) r2 rfl, r3⟩⟩⟩
    | exit id =>
      obtain ⟨r1, r2, r3⟩ := hend (some (.exit id)) W3 q1
      exact ⟨_, _, r1, .inr ⟨rfl, ⟨.exit id, (hIxF _).putObj _ q3 (by omega) r2 rfl, r3⟩⟩⟩
    | goto t =>
      obtain ⟨r1, r2, r3⟩ := hend (some (.goto t)) W3 q1
      exact ⟨_, _, r1, .inr ⟨rfl, ⟨.goto t, (hIxF _).putObj _ q3 (by omega) r2 rfl, r3⟩⟩⟩
    | panic ch => exact q3.elim
    | outgrown => exact q3.elim
  · rintro e W2 ⟨⟨v, rfl⟩, (⟨xs, hS, hi, hb⟩ | ⟨pre, hSp, c, hi, hb⟩)⟩
    · have hr := run_endLoop (P := P) hb.loop (by rw [hrec]; simp)
      rw [hrec] at hr
      exact ⟨none, _, hr, hdone d xs _ (Nat.le_refl _) hS (hIF.putObj _ hi (by omega) hb.loop rfl) ((World.putObj_heap_other (by omega)).trans hb.calls)⟩
    · have hr := run_endLoop (P := P) hb.loop (by rw [hrec]; simp)
      rw [hrec] at hr
      exact ⟨some c, _, hr, hstop d c pre _ (Nat.le_refl _) hSp ((hIxF c).putObj _ hi (by omega) hb.loop rfl) ((World.putObj_heap_other (by omega)).trans hb.calls)⟩
end
end Go.Proofs.YtgkddhakhapjlaaDoor

/- Lists of terms that are kept in a box, told apart by the types of their blocks. No function of the program is named. -/
namespace Go.Proofs.YtgkddhakhapjlaaDoor
open Go Go.RowKit Go.Maps

/-- a block of ints -/
def IntB (W : World) (b : Nat) : Prop := ∃ cs, W.heap[b]? = some (.cells cs 3 (0, 0))
def IntKeep (W W' : World) : Prop := ∀ b, IntB W b → W'.heap[b]? = W.heap[b]?
theorem IntB.lt {W : World} {b : Nat} (h : IntB W b) : b < W.heap.size := by obtain ⟨cs, h⟩ := h; exact (Array.getElem?_eq_some_iff.1 h).1
theorem IntKeep.refl (W : World) : IntKeep W W := fun _ _ => rfl
theorem IntKeep.b {W W' : World} (h : IntKeep W W') {b : Nat} (hb : IntB W b) : IntB W' b := by obtain ⟨cs, hc⟩ := hb; exact ⟨cs, (h b ⟨cs, hc⟩).trans hc⟩
theorem IntKeep.trans {W W' W2 : World} (h : IntKeep W W') (k : IntKeep W' W2) : IntKeep W W2 := fun b hb => (k b (h.b hb)).trans (h b hb)
theorem IntKeep.of_below {W W' : World} (h : Below W.heap.size W W') : IntKeep W W' := fun b hb => h.block b hb.lt
theorem IntKeep.of_grown {W W' : World} {row : Option Nat} (h : W.grownBy W' row) (hr : ∀ r, row = some r → ¬ IntB W r) : IntKeep W W' := fun b hb => h.block b hb.lt (fun e => hr b e.symm hb)
theorem IntKeep.putObj {W : World} {l : Nat} {o o' : Obj} (hl : W.heap[l]? = some o) (hc : o.isCells = false) : IntKeep W (W.putObj l o') := fun b hb => World.putObj_heap_other (fun e => by
  subst e; obtain ⟨cs, hb⟩ := hb; rw [hl] at hb; cases hb; cases hc)
theorem Ints.intKeep {W W' : World} {a : Option Addr} {c : Nat} {l : List Int} (h : Ints (IntB W) W a c l) (k : IntKeep W W') : Ints (IntB W') W' a c l := h.mono (fun _ _ hb => k.b hb) (fun b hb _ => k b hb)
theorem OwnI.intsB {w : World} {base : Nat} {v : Value} {l : List Int} (h : OwnI w base v l) : ∃ a c, v = .slice a l.length c ∧ Ints (IntB w) w a c l := by
  obtain ⟨a, c, hv, hI⟩ := h.ints
  refine ⟨a, c, hv, hI.cap, hI.max, hI.nil, fun hne => ?_⟩
  obtain ⟨b, off, ha, hb, hl, hc⟩ := hI.dat hne
  subst ha
  obtain ⟨cur, hcur⟩ := OwnL.rowCells h b (by rw [hv]; rfl)
  exact ⟨b, off, rfl, ⟨cur, hcur⟩, hl, hc⟩
theorem Ints.nilB {W : World} {a : Option Addr} {c : Nat} {S : Nat → Prop} (h : Ints S W a c []) : Ints (IntB W) W a c [] := ⟨h.cap, h.max, h.nil, fun hne => (hne rfl).elim⟩

abbrev OwnTT (W : World) (base : Nat) (v : Value) (l : List (List Int)) : Prop := OwnL (slE intE) (IntB W) W base 35 v l
theorem OwnTT.keep {W W' : World} {base : Nat} {v : Value} {l : List (List Int)} (h : OwnTT W base v l) (hr : ∀ k, v.ownBlock = some k → W'.heap[k]? = W.heap[k]?) (hi : IntKeep W W') : OwnTT W' base v l :=
  OwnL.weak (OwnL.kept h hr (fun b hb _ => hi b hb.1)) (fun _ _ hb => hi.b hb)
def TBox (W : World) (B base : Nat) (l : List (List Int)) : Prop := ∃ v, Boxed W B 24 v ∧ OwnTT W base v l
section
variable {W W' : World} {B base : Nat} {l : List (List Int)}
theorem TBox.new (W : World) : TBox (W.alloc (.cells #[.slice none 0 0] 24)) W.heap.size W.heap.size [] := ⟨_, Boxed.new W _ _, .nil _ _ _ _ _⟩
theorem TBox.lt (h : TBox W B base l) : B < W.heap.size := by obtain ⟨v, h, -⟩ := h; exact h.lt
theorem TBox.rowCells (h : TBox W B base l) : ∀ r, rowOf B W = some r → base ≤ r ∧ r < W.heap.size ∧ ∃ cur, W.heap[r]? = some (.cells cur 35 (0, 0)) := by
  obtain ⟨v, hv, ho⟩ := h
  intro r hr
  rw [rowOf_boxed hv] at hr
  exact ⟨(OwnL.lt ho r hr).1, (OwnL.lt ho r hr).2, OwnL.rowCells ho r hr⟩
theorem TBox.rowLt (h : TBox W B base l) : RowLt B W := ⟨h.lt, fun r hr => (h.rowCells r hr).2.1⟩
theorem TBox.boxCells (h : TBox W B base l) : ∃ cur, W.heap[B]? = some (.cells cur 24 (0, 0)) := by obtain ⟨v, hv, -⟩ := h; exact ⟨_, hv⟩
theorem not_intB {W : World} {b : Nat} {t : TypeId} {cur : Array Value} (h : W.heap[b]? = some (.cells cur t (0, 0))) (ht : t ≠ 3) : ¬ IntB W b := fun ⟨cs, hc⟩ => by
  rw [h] at hc; simp only [Option.some.injEq, Obj.cells.injEq] at hc; exact ht hc.2.1
theorem TBox.keep (h : TBox W B base l) (hB : W'.heap[B]? = W.heap[B]?) (hr : ∀ r, rowOf B W = some r → W'.heap[r]? = W.heap[r]?) (hi : IntKeep W W') : TBox W' B base l := by
  obtain ⟨v, hv, ho⟩ := h
  refine ⟨v, hB.trans hv, OwnTT.keep ho (fun k hk => hr k ?_) hi⟩
  rw [rowOf_boxed hv]; exact hk
theorem TBox.below (h : TBox W B base l) (hb : Below W.heap.size W W') : TBox W' B base l := h.keep (hb.block B h.lt) (fun r hr => hb.block r (h.rowCells r hr).2.1) (.of_below hb)
/-- what the box holds -/
theorem TBox.slice (h : TBox W B base l) : ∃ a c, W.cell? ⟨B, 0, none⟩ = some (.slice a l.length c) ∧ Terms (fun _ => True) W a c l := by
  obtain ⟨v, hv, ho⟩ := h
  obtain ⟨a, c, rfl, hT⟩ := ho.sl
  exact ⟨a, c, hv.cell, hT.any⟩
theorem infoTm : (Tryd.prog.info? 35).map (fun i => (i.zero, i.size, i.bytes)) = some (some (.slice none 0 0), 1, 24) := by kernel_rfl
/-- one term more -/
theorem TBox.push (h : TBox W B base l) (hbs : base ≤ W.heap.size) {W1 : World} (hb1 : Below W.heap.size W W1) {a : Option Addr} {c : Nat} {x : List Int} (hx : Ints (IntB W1) W1 a c x) (hl : l.length ≤ 1000) :
    ∃ v a' cap W2, RowKit.Hid (W1.cell? ⟨B, 0, none⟩ = some v) ∧ RowKit.Hid ((Builtin.append_ #[24, 24] 24 #[v, .slice (some ⟨W1.heap.size, 0, none⟩) 1 1]).run Tryd.prog (W1.alloc (.cells #[.slice a x.length c] 35)) = .ok (.slice a' (l.length + 1) cap) W2) ∧
      RowKit.Hid (W2.cell? ⟨B, 0, none⟩ = some v) ∧ RowKit.Hid (W2.frozen? ⟨B, 0, none⟩ = false) ∧ RowKit.Hid (TBox (W2.setCell ⟨B, 0, none⟩ (.slice a' (l.length + 1) cap)) B base (l ++ [x])) ∧
      RowKit.Hid (W1.grownBy W2 v.ownBlock) ∧ RowKit.Hid (W2.grownBy (W2.setCell ⟨B, 0, none⟩ (.slice a' (l.length + 1) cap)) (some B)) ∧ RowKit.Hid (rowOf B W = v.ownBlock) ∧ RowKit.Hid (W2.heap[B]? = some (.cells #[v] 24 (0, 0))) ∧ RowKit.Hid (IntKeep W1 (W2.setCell ⟨B, 0, none⟩ (.slice a' (l.length + 1) cap))) ∧
      RowKit.Hid (rowOf B (W2.setCell ⟨B, 0, none⟩ (.slice a' (l.length + 1) cap)) = v.ownBlock ∨ ∃ k, rowOf B (W2.setCell ⟨B, 0, none⟩ (.slice a' (l.length + 1) cap)) = some k ∧ W1.heap.size ≤ k) := by
  have h1 := h.below hb1
  obtain ⟨v, hv, ho⟩ := h1
  have hS : (slE intE).R (Off (IntB W1) v) W1 [.slice a x.length c] x := by
    refine ⟨a, c, rfl, hx.weak (fun b hb => ⟨hb, fun e => ?_⟩)⟩
    obtain ⟨cur, hc⟩ := OwnL.rowCells ho b e.symm
    exact not_intB hc (by decide) hb
  obtain ⟨v', W2, hrun, ho2, hg, hat⟩ := ho.push (P := Tryd.prog) (t := 24) (ty := 24) Tryd.underlying24 infoTm rfl hS (by omega) (by unfold big; omega) (Nat.le_trans hbs hb1.size)
  obtain ⟨a', cap, rfl, -⟩ := ho2.sl
  rw [List.length_append, List.length_singleton] at hrun ho2 hat
  have hnr : v.ownBlock ≠ some B := ho.notBox hv (by decide)
  have hv2 : Boxed W2 B 24 v := hv.kept hg (fun e => hnr e.symm)
  have hg3 : W2.grownBy (W2.setCell ⟨B, 0, none⟩ (.slice a' (l.length + 1) cap)) (some B) := grownBy_setCell' _ _ _
  have hnr2 := ho2.notBox hv2 (by decide)
  have hk12 : IntKeep W1 W2 := .of_grown hg (fun r e => by obtain ⟨cur, hc⟩ := OwnL.rowCells ho r e; exact not_intB hc (by decide))
  have hk23 : IntKeep W2 (W2.setCell ⟨B, 0, none⟩ (.slice a' (l.length + 1) cap)) := .of_grown hg3 (fun r e => by cases e; exact not_intB hv2 (by decide))
  have ho2' : OwnTT W2 base _ (l ++ [x]) := OwnL.weak ho2 (fun b _ hb => hk12.b hb)
  have ho3 := OwnTT.keep ho2' (fun k hk => hg3.block k (OwnL.lt ho2' k hk).2 (fun e => hnr2 (by rw [hk, e]))) hk23
  have hv3 : Boxed (W2.setCell ⟨B, 0, none⟩ (.slice a' (l.length + 1) cap)) B 24 (.slice a' (l.length + 1) cap) := hv2.set _
  have hrB : rowOf B W = v.ownBlock := by rw [← rowOf_boxed hv]; exact (rowOf_same (hb1.block B h.lt)).symm
  refine ⟨v, a', cap, W2, Lib.hid hv.cell, Lib.hid hrun, Lib.hid hv2.cell, Lib.hid hv2.frozen, Lib.hid ⟨_, hv3, ho3⟩, Lib.hid hg, Lib.hid hg3, Lib.hid hrB, Lib.hid hv2, Lib.hid (hk12.trans hk23), Lib.hid ?_⟩
  rw [rowOf_boxed hv3]
  exact hat
end
end Go.Proofs.YtgkddhakhapjlaaDoor

/- Walks of package kernel: what a step says. -/
namespace Go.Proofs.YtgkddhakhapjlaaDoor
open Go Go.RowKit Go.Maps

set_option maxRecDepth 20000 in
set_option maxHeartbeats 2000000 in
theorem cite_any {S1 S2 : Nat → Prop} (a1 ag : Option Addr) (c1 cg sb gb n : Nat) (B : Int) (s : Sg) (g : List (List Int)) (w : World) (h1 : Sign S1 w a1 c1 s) (h2 : Terms S2 w ag cg g) (hsb : w.cell? ⟨sb, 0, none⟩ = some (.slice a1 s.length c1)) (hgb : w.cell? ⟨gb, 0, none⟩ = some (.slice ag g.length cg)) (hn : n < g.length) (hok : okT s g[n] = true) :
    Calls Tryd.prog 86 #[.agg #[.int .i64 1, .int .i64 n, .int .i64 B], .pointer (some ⟨sb, 0, none⟩), .pointer (some ⟨gb, 0, none⟩)] w (retE (canon g[n], 0) w) := by
  have m2 := h2.le
  obtain ⟨b, o, at_, ct, rfl, -, q, hI⟩ := h2.sub n hn
  obtain ⟨W1, hW1⟩ : ∃ W, w.alloc (.cells #[.int .i64 1, .int .i64 n, .int .i64 B] 69) = W := ⟨_, rfl⟩
  have hb1 : Below w.heap.size w W1.drew := by rw [← hW1]; exact (below1 w _).drew
  have q1 : W1.cell? ⟨w.heap.size, 1, none⟩ = some (.int .i64 n) := by rw [← hW1]; clear hW1; go_simp
  have q1' : W1.drew.cell? ⟨w.heap.size, 1, none⟩ = some (.int .i64 n) := q1
  have cc := Canonical_any a1 at_ c1 ct s g[n] W1.drew (h1.below hb1) (hI.below hb1)
  have qs := cell_later hb1 hsb
  have qg := cell_later hb1 hgb
  have qt := cell_later hb1 q
  have mI := hI.le
  obtain ⟨t, ht⟩ : ∃ t, g[n] = t := ⟨_, rfl⟩
  rw [ht] at cc qt hok mI
  rw [ht]
  have ccH := Lib.hid cc
  have hokH := Lib.hid hok
  have hb1H := Lib.hid hb1
  clear cc h1 h2 hI hok hb1 q ht hsb hgb q1
  go_enter Tryd.func86, Tryd.ntmps86
  go_wp2_with fail
  try rw [hW1]
  refine wp_region_held_drew (S := fun w' => w'.cell? ⟨sb, 0, none⟩ = some (.slice a1 s.length c1) ∧ w'.cell? ⟨gb, 0, none⟩ = some (.slice (some ⟨b, o, none⟩) g.length cg) ∧ w'.cell? ⟨w.heap.size, 1, none⟩ = some (.int .i64 n) ∧ w'.cell? ⟨b, o + n, none⟩ = some (.slice at_ t.length ct)) (by kernel_rfl) ⟨qs, qg, q1', qt⟩ (fun hS => ?_)
  refine region_take 0 (some 6) (v := ?_) rfl rfl (by kernel_rfl) (by kernel_rfl) (by kernel_rfl) (fun _ _ _ h => h) rfl ?_ hS ?_
  rotate_left
  · (intro w9 hS9; obtain ⟨s91, s92, s93, s94⟩ := hS9; go_simp; try (with_reducible rfl))
  simp only [Act.put, List.setIfInBounds_toArray, List.set_cons_zero, List.set_cons_succ]
  refine region_take 1 (some 7) (v := ?_) rfl rfl (by kernel_rfl) (by kernel_rfl) (by kernel_rfl) (fun _ _ _ h => h) rfl ?_ hS ?_
  rotate_left
  · (intro w9 hS9; obtain ⟨s91, s92, s93, s94⟩ := hS9; go_simp; try (with_reducible rfl))
  simp only [Act.put, List.setIfInBounds_toArray, List.set_cons_zero, List.set_cons_succ]
  refine region_take 2 (some 8) (v := ?_) rfl rfl (by kernel_rfl) (by kernel_rfl) (by kernel_rfl) (fun _ _ _ h => h) rfl ?_ hS ?_
  rotate_left
  · (intro w9 hS9; obtain ⟨s91, s92, s93, s94⟩ := hS9; go_simp; try (with_reducible rfl))
  simp only [Act.put, List.setIfInBounds_toArray, List.set_cons_zero, List.set_cons_succ]
  refine region_take 3 (some 9) (v := ?_) rfl rfl (by kernel_rfl) (by kernel_rfl) (by kernel_rfl) (fun _ _ _ h => h) rfl ?_ hS ?_
  rotate_left
  · (intro w9 hS9; obtain ⟨s91, s92, s93, s94⟩ := hS9; go_simp; try (with_reducible rfl))
  simp only [Act.put, List.setIfInBounds_toArray, List.set_cons_zero, List.set_cons_succ]
  refine region_take 4 (some 10) (v := ?_) rfl rfl (by kernel_rfl) (by kernel_rfl) (by kernel_rfl) (fun _ _ _ h => h) rfl ?_ hS ?_
  rotate_left
  · (intro w9 hS9; obtain ⟨s91, s92, s93, s94⟩ := hS9; go_simp; try (with_reducible rfl))
  simp only [Act.put, List.setIfInBounds_toArray, List.set_cons_zero, List.set_cons_succ]
  refine region_take 5 (some 11) (v := ?_) rfl rfl (by kernel_rfl) (by kernel_rfl) (by kernel_rfl) (fun _ _ _ h => h) rfl ?_ hS ?_
  rotate_left
  · (intro w9 hS9; obtain ⟨s91, s92, s93, s94⟩ := hS9; go_simp; try (with_reducible rfl))
  simp only [Act.put, List.setIfInBounds_toArray, List.set_cons_zero, List.set_cons_succ]
  refine region_call 6 rfl (by kernel_rfl) (fun K hK => ?_)
  go_simp
  (with_reducible refine ccH.out.mono ?_)
  rintro e w8 ⟨v, n8, rfl, hb8, -, hv⟩
  obtain ⟨rfl, ho⟩ := hv hokH.out
  refine hK.out _ _ ⟨cell_later hb8 qs, cell_later hb8 qg, cell_later hb8 q1', cell_later hb8 qt⟩ ?_
  clear hS hK hv
  intro hS
  refine region_take 7 (some 13) (v := ?_) rfl rfl (by kernel_rfl) (by kernel_rfl) (by kernel_rfl) (fun _ _ _ h => h) rfl ?_ hS ?_
  rotate_left
  · (intro w9 hS9; obtain ⟨s91, s92, s93, s94⟩ := hS9; go_simp; try (with_reducible rfl))
  simp only [Act.put, List.setIfInBounds_toArray, List.set_cons_zero, List.set_cons_succ]
  refine region_take 8 (some 14) (v := ?_) rfl rfl (by kernel_rfl) (by kernel_rfl) (by kernel_rfl) (fun _ _ _ h => h) rfl ?_ hS ?_
  rotate_left
  · (intro w9 hS9; obtain ⟨s91, s92, s93, s94⟩ := hS9; go_simp; try (with_reducible rfl))
  simp only [Act.put, List.setIfInBounds_toArray, List.set_cons_zero, List.set_cons_succ]
  refine region_take 9 (some 4) (v := ?_) rfl rfl (by kernel_rfl) (by kernel_rfl) (by kernel_rfl) (fun _ _ _ h => h) rfl ?_ hS ?_
  rotate_left
  · (intro w9 hS9; obtain ⟨s91, s92, s93, s94⟩ := hS9; go_simp; try (with_reducible rfl))
  simp only [Act.put, List.setIfInBounds_toArray, List.set_cons_zero, List.set_cons_succ]
  refine region_take 10 (some 5) (v := ?_) rfl rfl (by kernel_rfl) (by kernel_rfl) (by kernel_rfl) (fun _ _ _ h => h) rfl ?_ hS ?_
  rotate_left
  · (intro w9 hS9; obtain ⟨s91, s92, s93, s94⟩ := hS9; go_simp; try (with_reducible rfl))
  simp only [Act.put, List.setIfInBounds_toArray, List.set_cons_zero, List.set_cons_succ]
  refine wpAnyH_done (by kernel_rfl) ?_ _
  have hoH := Lib.hid (OwnL.baseMono (base' := w.heap.size) ho hb1H.out.size)
  have hbH := Lib.hid (hb1H.out.trans (hb8.mono hb1H.out.size))
  clear hS ho hb8
  go_wp2_with fail
  go_ret2
  exact ⟨_, rfl, hoH.out, hbH.out⟩
set_option maxRecDepth 20000 in
set_option maxHeartbeats 2000000 in
theorem stepdet_any {S1 S2 : Nat → Prop} (a1 ag : Option Addr) (c1 cg sb gb n m : Nat) (s : Sg) (g : List (List Int)) (w : World) (h1 : Sign S1 w a1 c1 s) (h2 : Terms S2 w ag cg g) (hsb : w.cell? ⟨sb, 0, none⟩ = some (.slice a1 s.length c1)) (hgb : w.cell? ⟨gb, 0, none⟩ = some (.slice ag g.length cg)) (hn : n < g.length) (hm : m < g.length) :
    Calls Tryd.prog 88 #[.agg #[.int .i64 2, .int .i64 n, .int .i64 m], .pointer (some ⟨sb, 0, none⟩), .pointer (some ⟨gb, 0, none⟩)] w (retE (detE s g[n] g[m]) w) := by
  have m2 := h2.le
  obtain ⟨b, o, at_, ct, rfl, -, q, hI⟩ := h2.sub n hn
  obtain ⟨b', o', au, cu, he, -, q', hI'⟩ := h2.sub m hm
  simp only [Option.some.injEq, Addr.mk.injEq, and_true] at he
  obtain ⟨rfl, rfl⟩ := he
  obtain ⟨W1, hW1⟩ : ∃ W, w.alloc (.cells #[.int .i64 2, .int .i64 n, .int .i64 m] 69) = W := ⟨_, rfl⟩
  have hb1 : Below w.heap.size w W1.drew := by rw [← hW1]; exact (below1 w _).drew
  have q1 : W1.cell? ⟨w.heap.size, 1, none⟩ = some (.int .i64 n) := by rw [← hW1]; clear hW1; go_simp
  have q2 : W1.cell? ⟨w.heap.size, 2, none⟩ = some (.int .i64 m) := by rw [← hW1]; clear hW1; go_simp
  have q1' : W1.drew.cell? ⟨w.heap.size, 1, none⟩ = some (.int .i64 n) := q1
  have q2' : W1.drew.cell? ⟨w.heap.size, 2, none⟩ = some (.int .i64 m) := q2
  have cc := Detach_any a1 at_ au c1 ct cu s g[n] g[m] W1.drew (h1.below hb1) (hI.below hb1) (hI'.below hb1)
  have qs := cell_later hb1 hsb
  have qg := cell_later hb1 hgb
  have qt := cell_later hb1 q
  have qu := cell_later hb1 q'
  have mI := hI.le
  have mI' := hI'.le
  obtain ⟨t, ht⟩ : ∃ t, g[n] = t := ⟨_, rfl⟩
  obtain ⟨u, hu⟩ : ∃ t, g[m] = t := ⟨_, rfl⟩
  rw [ht, hu] at cc
  rw [ht] at qt mI
  rw [hu] at qu mI'
  rw [ht, hu]
  have ccH := Lib.hid cc
  have hb1H := Lib.hid hb1
  clear cc h1 h2 hI hI' hb1 q q' ht hu hsb hgb q1 q2
  go_enter Tryd.func88, Tryd.ntmps88
  go_wp2_with fail
  try rw [hW1]
  refine wp_region_held_drew (S := fun w' => w'.cell? ⟨sb, 0, none⟩ = some (.slice a1 s.length c1) ∧ w'.cell? ⟨gb, 0, none⟩ = some (.slice (some ⟨b, o, none⟩) g.length cg) ∧ w'.cell? ⟨w.heap.size, 1, none⟩ = some (.int .i64 n) ∧ w'.cell? ⟨w.heap.size, 2, none⟩ = some (.int .i64 m) ∧ w'.cell? ⟨b, o + n, none⟩ = some (.slice at_ t.length ct) ∧ w'.cell? ⟨b, o + m, none⟩ = some (.slice au u.length cu)) (by kernel_rfl) ⟨qs, qg, q1', q2', qt, qu⟩ (fun hS => ?_)
  refine region_take 0 (some 6) (v := ?_) rfl rfl (by kernel_rfl) (by kernel_rfl) (by kernel_rfl) (fun _ _ _ h => h) rfl ?_ hS ?_
  rotate_left
  · (intro w9 hS9; obtain ⟨s91, s92, s93, s94, s95, s96⟩ := hS9; go_simp; try (with_reducible rfl))
  simp only [Act.put, List.setIfInBounds_toArray, List.set_cons_zero, List.set_cons_succ]
  refine region_take 1 (some 7) (v := ?_) rfl rfl (by kernel_rfl) (by kernel_rfl) (by kernel_rfl) (fun _ _ _ h => h) rfl ?_ hS ?_
  rotate_left
  · (intro w9 hS9; obtain ⟨s91, s92, s93, s94, s95, s96⟩ := hS9; go_simp; try (with_reducible rfl))
  simp only [Act.put, List.setIfInBounds_toArray, List.set_cons_zero, List.set_cons_succ]
  refine region_take 2 (some 8) (v := ?_) rfl rfl (by kernel_rfl) (by kernel_rfl) (by kernel_rfl) (fun _ _ _ h => h) rfl ?_ hS ?_
  rotate_left
  · (intro w9 hS9; obtain ⟨s91, s92, s93, s94, s95, s96⟩ := hS9; go_simp; try (with_reducible rfl))
  simp only [Act.put, List.setIfInBounds_toArray, List.set_cons_zero, List.set_cons_succ]
  refine region_take 3 (some 9) (v := ?_) rfl rfl (by kernel_rfl) (by kernel_rfl) (by kernel_rfl) (fun _ _ _ h => h) rfl ?_ hS ?_
  rotate_left
  · (intro w9 hS9; obtain ⟨s91, s92, s93, s94, s95, s96⟩ := hS9; go_simp; try (with_reducible rfl))
  simp only [Act.put, List.setIfInBounds_toArray, List.set_cons_zero, List.set_cons_succ]
  refine region_take 4 (some 10) (v := ?_) rfl rfl (by kernel_rfl) (by kernel_rfl) (by kernel_rfl) (fun _ _ _ h => h) rfl ?_ hS ?_
  rotate_left
  · (intro w9 hS9; obtain ⟨s91, s92, s93, s94, s95, s96⟩ := hS9; go_simp; try (with_reducible rfl))
  simp only [Act.put, List.setIfInBounds_toArray, List.set_cons_zero, List.set_cons_succ]
  refine region_take 5 (some 11) (v := ?_) rfl rfl (by kernel_rfl) (by kernel_rfl) (by kernel_rfl) (fun _ _ _ h => h) rfl ?_ hS ?_
  rotate_left
  · (intro w9 hS9; obtain ⟨s91, s92, s93, s94, s95, s96⟩ := hS9; go_simp; try (with_reducible rfl))
  simp only [Act.put, List.setIfInBounds_toArray, List.set_cons_zero, List.set_cons_succ]
  refine region_take 6 (some 12) (v := ?_) rfl rfl (by kernel_rfl) (by kernel_rfl) (by kernel_rfl) (fun _ _ _ h => h) rfl ?_ hS ?_
  rotate_left
  · (intro w9 hS9; obtain ⟨s91, s92, s93, s94, s95, s96⟩ := hS9; go_simp; try (with_reducible rfl))
  simp only [Act.put, List.setIfInBounds_toArray, List.set_cons_zero, List.set_cons_succ]
  refine region_take 7 (some 13) (v := ?_) rfl rfl (by kernel_rfl) (by kernel_rfl) (by kernel_rfl) (fun _ _ _ h => h) rfl ?_ hS ?_
  rotate_left
  · (intro w9 hS9; obtain ⟨s91, s92, s93, s94, s95, s96⟩ := hS9; go_simp; try (with_reducible rfl))
  simp only [Act.put, List.setIfInBounds_toArray, List.set_cons_zero, List.set_cons_succ]
  refine region_take 8 (some 14) (v := ?_) rfl rfl (by kernel_rfl) (by kernel_rfl) (by kernel_rfl) (fun _ _ _ h => h) rfl ?_ hS ?_
  rotate_left
  · (intro w9 hS9; obtain ⟨s91, s92, s93, s94, s95, s96⟩ := hS9; go_simp; try (with_reducible rfl))
  simp only [Act.put, List.setIfInBounds_toArray, List.set_cons_zero, List.set_cons_succ]
  refine region_take 9 (some 15) (v := ?_) rfl rfl (by kernel_rfl) (by kernel_rfl) (by kernel_rfl) (fun _ _ _ h => h) rfl ?_ hS ?_
  rotate_left
  · (intro w9 hS9; obtain ⟨s91, s92, s93, s94, s95, s96⟩ := hS9; go_simp; try (with_reducible rfl))
  simp only [Act.put, List.setIfInBounds_toArray, List.set_cons_zero, List.set_cons_succ]
  refine region_take 10 (some 16) (v := ?_) rfl rfl (by kernel_rfl) (by kernel_rfl) (by kernel_rfl) (fun _ _ _ h => h) rfl ?_ hS ?_
  rotate_left
  · (intro w9 hS9; obtain ⟨s91, s92, s93, s94, s95, s96⟩ := hS9; go_simp; try (with_reducible rfl))
  simp only [Act.put, List.setIfInBounds_toArray, List.set_cons_zero, List.set_cons_succ]
  refine region_call 11 rfl (by kernel_rfl) (fun K hK => ?_)
  go_simp
  (with_reducible refine ccH.out.mono ?_)
  rintro e w8 ⟨v, rfl, ho, hb8⟩
  refine hK.out _ _ ⟨cell_later hb8 qs, cell_later hb8 qg, cell_later hb8 q1', cell_later hb8 q2', cell_later hb8 qt, cell_later hb8 qu⟩ ?_
  clear hS hK
  intro hS
  refine region_take 12 (some 18) (v := ?_) rfl rfl (by kernel_rfl) (by kernel_rfl) (by kernel_rfl) (fun _ _ _ h => h) rfl ?_ hS ?_
  rotate_left
  · (intro w9 hS9; obtain ⟨s91, s92, s93, s94, s95, s96⟩ := hS9; go_simp; try (with_reducible rfl))
  simp only [Act.put, List.setIfInBounds_toArray, List.set_cons_zero, List.set_cons_succ]
  refine region_take 13 (some 19) (v := ?_) rfl rfl (by kernel_rfl) (by kernel_rfl) (by kernel_rfl) (fun _ _ _ h => h) rfl ?_ hS ?_
  rotate_left
  · (intro w9 hS9; obtain ⟨s91, s92, s93, s94, s95, s96⟩ := hS9; go_simp; try (with_reducible rfl))
  simp only [Act.put, List.setIfInBounds_toArray, List.set_cons_zero, List.set_cons_succ]
  refine region_take 14 (some 4) (v := ?_) rfl rfl (by kernel_rfl) (by kernel_rfl) (by kernel_rfl) (fun _ _ _ h => h) rfl ?_ hS ?_
  rotate_left
  · (intro w9 hS9; obtain ⟨s91, s92, s93, s94, s95, s96⟩ := hS9; go_simp; try (with_reducible rfl))
  simp only [Act.put, List.setIfInBounds_toArray, List.set_cons_zero, List.set_cons_succ]
  refine region_take 15 (some 5) (v := ?_) rfl rfl (by kernel_rfl) (by kernel_rfl) (by kernel_rfl) (fun _ _ _ h => h) rfl ?_ hS ?_
  rotate_left
  · (intro w9 hS9; obtain ⟨s91, s92, s93, s94, s95, s96⟩ := hS9; go_simp; try (with_reducible rfl))
  simp only [Act.put, List.setIfInBounds_toArray, List.set_cons_zero, List.set_cons_succ]
  refine wpAnyH_done (by kernel_rfl) ?_ _
  have hoH := Lib.hid (OwnL.baseMono (base' := w.heap.size) ho hb1H.out.size)
  have hbH := Lib.hid (hb1H.out.trans (hb8.mono hb1H.out.size))
  clear hS ho hb8
  go_wp2_with fail
  go_ret2
  exact ⟨_, rfl, hoH.out, hbH.out⟩
end Go.Proofs.YtgkddhakhapjlaaDoor

/- Walks: Depth of the reference, Vars of the reference. -/
namespace Go.Proofs.YtgkddhakhapjlaaDoor
open Go Go.RowKit Go.Maps

def depRel (s : Sg) (t r : List Int) (p m F : Nat) (w : World) (most i : Value) (wr : World) : Prop :=
  ∃ j q D : Nat, i = .int .i64 j ∧ most = .int .i64 D ∧ j ≤ m ∧ q ≤ t.length ∧ p < q ∧ skip s j (t.drop (p + 1)) = some (t.drop q) ∧ skip s (m - j) (t.drop q) = some r ∧
    D ≤ F ∧ max D (depArgs (dep s F) s (m - j) (t.drop q)) = depArgs (dep s F) s m (t.drop (p + 1)) ∧ Below w.heap.size w wr
def depE (s : Sg) (t : List Int) : Int × Int := if okT s t = true then (((depth s t : Nat) : Int), 0) else (0, 1)
theorem depE_eq (s : Sg) (t : List Int) : (if okT s t then #[Value.int .i64 (depth s t : Nat), .int .i64 0] else #[.int .i64 0, .int .i64 1]) = #[.int .i64 (depE s t).1, .int .i64 (depE s t).2] := by
  unfold depE; split <;> rfl
end Go.Proofs.YtgkddhakhapjlaaDoor

/- Walks: lists of terms alike. -/
namespace Go.Proofs.YtgkddhakhapjlaaDoor
open Go Go.RowKit Go.Maps

end Go.Proofs.YtgkddhakhapjlaaDoor

/- The parts of a term with their paths, by where they begin. No program is named. -/
namespace Go.Proofs.YtgkddhakhapjlaaDoor

/-- the k-th, (k+1)-th .. of the lists, each path with its number in front -/
def glue (k : Nat) : List (List (List Int × List Int)) → List (List Int × List Int)
  | [] => []
  | x :: r => x.map (fun e => ((k : Int) :: e.1, e.2)) ++ glue (k + 1) r
/-- paths and parts -/
def PL (s : Sg) : Nat → List Int → List (List Int × List Int)
  | 0, _ => []
  | f + 1, u => ([], u) :: glue 0 ((argsT s u).map (PL s f))

theorem glue_get : ∀ {M : List (List (List Int × List Int))} {k j i : Nat} (hj : j < M.length) (hi : i < M[j].length),
    (glue k M)[((M.take j).map List.length).sum + i]? = some ((((k + j : Nat) : Int)) :: M[j][i].1, M[j][i].2)
  | [], _, _, _, hj, _ => by simp at hj
  | x :: r, k, 0, i, hj, hi => by
    simp only [List.getElem_cons_zero] at hi
    rw [glue, List.take_zero, List.map_nil, List.sum_nil, Nat.zero_add, List.getElem?_append_left (by simpa using hi)]
    simp [hi]
  | x :: r, k, j + 1, i, hj, hi => by
    simp only [List.getElem_cons_succ, List.length_cons] at hi hj
    have ih := glue_get (M := r) (k := k + 1) (j := j) (i := i) (by omega) hi
    rw [glue, List.take_succ_cons, List.map_cons, List.sum_cons, List.getElem?_append_right (by simp; omega), List.length_map, show x.length + ((r.take j).map List.length).sum + i - x.length = ((r.take j).map List.length).sum + i by omega, ih]
    simp only [List.getElem_cons_succ]
    rw [show k + 1 + j = k + (j + 1) by omega]
theorem glue_len : ∀ (k : Nat) (M : List (List (List Int × List Int))), (glue k M).length = (M.map List.length).sum
  | _, [] => rfl
  | k, x :: r => by rw [glue, List.length_append, List.length_map, glue_len, List.map_cons, List.sum_cons]
/-- an index below a sum lies in one of the summands -/
theorem sum_find : ∀ {l : List Nat} {i : Nat} (_ : i < l.sum), ∃ j i', ∃ hj : j < l.length, i = (l.take j).sum + i' ∧ i' < l[j]
  | [], i, h => by simp at h
  | x :: r, i, h => by
    by_cases hx : i < x
    · exact ⟨0, i, by simp, by simp, by simpa using hx⟩
    · rw [List.sum_cons] at h
      obtain ⟨j, i', hj, e1, e2⟩ := sum_find (l := r) (i := i - x) (by omega)
      refine ⟨j + 1, i', by simp; exact hj, ?_, by simpa using e2⟩
      rw [List.take_succ_cons, List.sum_cons]; omega
theorem flatten_len_sum (M : List (List Int)) : M.flatten.length = (M.map List.length).sum := by
  induction M with
  | nil => rfl
  | cons x r ih => rw [List.flatten_cons, List.length_append, List.map_cons, List.sum_cons, ih]

theorem PL_spec (s : Sg) (t : List Int) : ∀ (f a : Nat) (rest : List Int), skip s 1 (t.drop a) = some rest → (partAt s (t.drop a)).length ≤ f →
    (PL s f (partAt s (t.drop a))).length = (partAt s (t.drop a)).length ∧ ∀ i (h : i < (PL s f (partAt s (t.drop a))).length), place s t (PL s f (partAt s (t.drop a)))[i].1 a = some (a + i) ∧ (PL s f (partAt s (t.drop a)))[i].2 = partAt s (t.drop (a + i)) ∧ ∃ r', skip s 1 (t.drop (a + i)) = some r'
  | 0, a, rest, h, hl => by have := (partAt_eq h).2.2; omega
  | f + 1, a, rest, h, hl => by
    have hso := step_ok h
    obtain ⟨-, e2, e3⟩ := partAt_eq h
    obtain ⟨n, x, hx, hc, hs⟩ := skip_pos (k := 0) e2
    rw [Nat.zero_add] at hs
    have hfl : (partAt s (t.drop a)).length = 1 + (argsT s (partAt s (t.drop a))).flatten.length := by
      have h1 := (splitK_spec s _ _ _ hs).2.1
      rw [List.append_nil] at h1
      have h2 : argsT s (partAt s (t.drop a)) = splitK s (ar s n) x := by rw [hx]; rfl
      rw [h2, h1, hx, List.length_cons]; omega
    obtain ⟨L, hL⟩ : ∃ L, argsT s (partAt s (t.drop a)) = L := ⟨_, rfl⟩
    rw [hL] at hfl
    simp only [hL] at hso
    have hkid : ∀ j (hj : j < L.length), ∃ z, stepTo s t a j = some z ∧ z = a + 1 + (L.take j).flatten.length ∧ (PL s f L[j]).length = L[j].length ∧ ∀ i (hi : i < (PL s f L[j]).length), place s t (PL s f L[j])[i].1 z = some (z + i) ∧ (PL s f L[j])[i].2 = partAt s (t.drop (z + i)) ∧ ∃ r', skip s 1 (t.drop (z + i)) = some r' := by
      intro j hj
      obtain ⟨z, r', h1, h2, h3, h4, -⟩ := hso j hj
      have hle : L[j].length ≤ L.flatten.length := len_flatten (List.getElem_mem hj)
      have ih := PL_spec s t f z r' h3 (by rw [h4]; omega)
      rw [h4] at ih
      exact ⟨z, h1, h2, ih.1, ih.2⟩
    have hlens : (L.map (PL s f)).map List.length = L.map List.length := by
      apply List.ext_getElem
      · simp
      · intro j h1 h2
        have hj : j < L.length := by simpa using h2
        obtain ⟨z, -, -, h5, -⟩ := hkid j hj
        simpa using h5
    have hPL : PL s (f + 1) (partAt s (t.drop a)) = ([], partAt s (t.drop a)) :: glue 0 (L.map (PL s f)) := by rw [PL, hL]
    have hlen : (PL s (f + 1) (partAt s (t.drop a))).length = (partAt s (t.drop a)).length := by
      rw [hPL, List.length_cons, glue_len, hlens, ← flatten_len_sum, hfl]; omega
    refine ⟨hlen, fun i hi => ?_⟩
    cases i with
    | zero =>
      simp only [hPL, List.getElem_cons_zero]
      exact ⟨rfl, rfl, rest, h⟩
    | succ i =>
      rw [hlen, hfl] at hi
      obtain ⟨j, i', hj, e5, e6⟩ := sum_find (l := L.map List.length) (i := i) (by rw [← flatten_len_sum]; omega)
      have hj' : j < L.length := by simpa using hj
      obtain ⟨z, h1, h2, h5, h6⟩ := hkid j hj'
      have e6' : i' < L[j].length := by simpa using e6
      have hg := glue_get (M := L.map (PL s f)) (k := 0) (j := j) (i := i') (by simpa using hj') (by simp only [List.getElem_map]; omega)
      have hsum : (((L.map (PL s f)).take j).map List.length).sum = ((L.map List.length).take j).sum := by rw [← hlens, List.map_take]
      rw [hsum, ← e5] at hg
      have hget : (PL s (f + 1) (partAt s (t.drop a)))[i + 1]? = some (((j : Nat) : Int) :: (PL s f L[j])[i'].1, (PL s f L[j])[i'].2) := by
        rw [hPL, List.getElem?_cons_succ, hg]
        simp only [List.getElem_map, Nat.zero_add]
      have hsum2 : (L.take j).flatten.length = ((L.map List.length).take j).sum := by rw [flatten_len_sum, List.map_take]
      have hzi : z + i' = a + (i + 1) := by omega
      obtain ⟨g1, g2, g3⟩ := h6 i' (by omega)
      rw [hzi] at g1 g2 g3
      have hgg : ∀ (hh : i + 1 < (PL s (f + 1) (partAt s (t.drop a))).length), (PL s (f + 1) (partAt s (t.drop a)))[i + 1] = (((j : Nat) : Int) :: (PL s f L[j])[i'].1, (PL s f L[j])[i'].2) := by
        intro hh
        rw [List.getElem?_eq_getElem hh] at hget
        exact Option.some.inj hget
      rw [hgg]
      refine ⟨?_, g2, g3⟩
      show place s t (((j : Nat) : Int) :: (PL s f L[j])[i'].1) a = some (a + (i + 1))
      rw [place, h1]; exact g1
end Go.Proofs.YtgkddhakhapjlaaDoor

/- Paths are fixed by where they lead. No program is named. -/
namespace Go.Proofs.YtgkddhakhapjlaaDoor

theorem place_bound {s : Sg} {t : List Int} : ∀ {q : List Int} {a j : Nat} {rest : List Int} (_ : skip s 1 (t.drop a) = some rest) (_ : place s t q a = some j), a ≤ j ∧ j < t.length - rest.length
  | [], a, j, rest, h, hp => by
    simp only [place, Option.some.injEq] at hp
    subst hp
    obtain ⟨-, -, g3, -⟩ := endOf_some s t a rest h
    exact ⟨Nat.le_refl _, g3⟩
  | k :: ks, a, j, rest, h, hp => by
    rw [place] at hp
    cases hy : stepTo s t a k with
    | none => rw [hy] at hp; cases hp
    | some y =>
      rw [hy, Option.bind_some] at hp
      obtain ⟨n, rfl, hn, h1, h2, h3, ry, h4, h5⟩ := step_skip h hy
      have ih := place_bound h4 hp
      have := skip_len _ _ _ _ h5
      omega
theorem step_order {s : Sg} {t : List Int} {a : Nat} {rest : List Int} (h : skip s 1 (t.drop a) = some rest) {k k' : Int} {y y' : Nat} (hy : stepTo s t a k = some y) (hy' : stepTo s t a k' = some y') (hlt : k < k') {ry : List Int} (hr : skip s 1 (t.drop y) = some ry) : t.length - ry.length ≤ y' := by
  obtain ⟨n, rfl, hn, h1, h2, h3, r1, h4, h5⟩ := step_skip h hy
  obtain ⟨n', rfl, hn', g1, g2, g3, r2, g4, g5⟩ := step_skip h hy'
  obtain ⟨d, rfl⟩ : ∃ d, n' = n + (1 + d) := ⟨n' - n - 1, by omega⟩
  rw [skip_add, h1, Option.bind_some, skip_add, hr, Option.bind_some] at g1
  have := skip_len _ _ _ _ g1
  rw [List.length_drop] at this
  omega
theorem place_inj {s : Sg} {t : List Int} : ∀ {q q' : List Int} {a j : Nat} {rest : List Int} (_ : skip s 1 (t.drop a) = some rest) (_ : place s t q a = some j) (_ : place s t q' a = some j), q = q'
  | [], [], _, _, _, _, _, _ => rfl
  | [], k :: ks, a, j, rest, h, hp, hp' => by
    simp only [place, Option.some.injEq] at hp
    subst hp
    rw [place] at hp'
    cases hy : stepTo s t a k with
    | none => rw [hy] at hp'; cases hp'
    | some y =>
      rw [hy, Option.bind_some] at hp'
      obtain ⟨n, rfl, hn, h1, h2, h3, ry, h4, h5⟩ := step_skip h hy
      have := (place_bound h4 hp').1
      omega
  | k :: ks, [], a, j, rest, h, hp, hp' => by
    simp only [place, Option.some.injEq] at hp'
    subst hp'
    rw [place] at hp
    cases hy : stepTo s t a k with
    | none => rw [hy] at hp; cases hp
    | some y =>
      rw [hy, Option.bind_some] at hp
      obtain ⟨n, rfl, hn, h1, h2, h3, ry, h4, h5⟩ := step_skip h hy
      have := (place_bound h4 hp).1
      omega
  | k :: ks, k' :: ks', a, j, rest, h, hp, hp' => by
    rw [place] at hp hp'
    cases hy : stepTo s t a k with
    | none => rw [hy] at hp; cases hp
    | some y =>
      cases hy' : stepTo s t a k' with
      | none => rw [hy'] at hp'; cases hp'
      | some y' =>
        rw [hy, Option.bind_some] at hp
        rw [hy', Option.bind_some] at hp'
        obtain ⟨-, -, -, -, -, -, ry, h4, -⟩ := step_skip h hy
        obtain ⟨-, -, -, -, -, -, ry', h4', -⟩ := step_skip h hy'
        have b1 := place_bound h4 hp
        have b2 := place_bound h4' hp'
        rcases Int.lt_trichotomy k k' with hk | hk | hk
        · have := step_order h hy hy' hk h4; omega
        · subst hk
          rw [hy] at hy'
          obtain rfl := Option.some.inj hy'
          rw [place_inj h4 hp hp']
        · have := step_order h hy' hy hk h4'; omega
theorem place_append {s : Sg} {t : List Int} : ∀ (q : List Int) (k : Int) (a : Nat), place s t (q ++ [k]) a = (place s t q a).bind (fun p => stepTo s t p k)
  | [], k, a => by
    simp only [List.nil_append, place, Option.bind_some]
    cases stepTo s t a k <;> rfl
  | x :: q, k, a => by
    rw [List.cons_append, place, place]
    cases stepTo s t a x with
    | none => rfl
    | some y => rw [Option.bind_some, Option.bind_some]; exact place_append q k y
theorem snoc_cases (q : List Int) (h : q ≠ []) : ∃ q0 k, q = q0 ++ [k] := ⟨q.dropLast, q.getLast h, (List.dropLast_concat_getLast h).symm⟩
/-- each place but the first is an argument of one before it -/
theorem place_parent {s : Sg} {t q : List Int} {j : Nat} (h : place s t q 0 = some j) (hj : 0 < j) : ∃ q0 k p, q = q0 ++ [k] ∧ place s t q0 0 = some p ∧ stepTo s t p k = some j := by
  have hq : q ≠ [] := by
    intro e; subst e
    simp only [place, Option.some.injEq] at h
    omega
  obtain ⟨q0, k, rfl⟩ := snoc_cases q hq
  rw [place_append] at h
  cases hp : place s t q0 0 with
  | none => rw [hp] at h; cases h
  | some p => rw [hp, Option.bind_some] at h; exact ⟨q0, k, p, rfl, hp, h⟩
/-- the path to a place -/
def way (s : Sg) (t : List Int) (j : Nat) : List Int := (((PL s t.length t)[j]?).getD ([], [])).1
theorem way_place {s : Sg} {t : List Int} (h : okT s t = true) : (PL s t.length t).length = t.length ∧ ∀ j, j < t.length → place s t (way s t j) 0 = some j ∧ (∃ hj : j < (PL s t.length t).length, (PL s t.length t)[j] = (way s t j, partAt s (t.drop j))) ∧ ∃ r, skip s 1 (t.drop j) = some r := by
  have hp := PL_spec s t t.length 0 [] (okT_skip0 h) (by rw [partAt_all h]; exact Nat.le_refl _)
  rw [partAt_all h] at hp
  refine ⟨hp.1, fun j hj => ?_⟩
  have hj' : j < (PL s t.length t).length := by omega
  obtain ⟨g1, g2, g3⟩ := hp.2 j hj'
  rw [Nat.zero_add] at g1 g2 g3
  have hw : way s t j = (PL s t.length t)[j].1 := by unfold way; rw [List.getElem?_eq_getElem hj']; rfl
  exact ⟨by rw [hw]; exact g1, ⟨hj', Prod.ext hw.symm g2⟩, g3⟩
theorem way_zero {s : Sg} {t : List Int} (h : okT s t = true) : way s t 0 = [] := by
  have hl := (okT_parts h).2.1
  exact place_inj (okT_skip0 h) ((way_place h).2 0 (by omega)).1 rfl
theorem way_step {s : Sg} {t : List Int} (h : okT s t = true) {p j : Nat} {k : Int} (hp : p < t.length) (hs : stepTo s t p k = some j) : j < t.length ∧ p < j ∧ way s t j = way s t p ++ [k] := by
  obtain ⟨g1, -, r, g3⟩ := (way_place h).2 p hp
  obtain ⟨n, rfl, hn, h1, h2, h3, ry, h4, h5⟩ := step_skip g3 hs
  have hl := skip_len _ _ _ _ h4
  rw [List.length_drop] at hl
  have hj : j < t.length := by omega
  refine ⟨hj, h2, place_inj (okT_skip0 h) ((way_place h).2 j hj).1 ?_⟩
  rw [place_append, g1]; exact hs
/-- the parts that are equal to a term: their paths -/
def pathsT (s : Sg) (t v : List Int) : List (List Int) := ((PL s t.length t).filter (fun e => decide (e.2 = v))).map (·.1)
def pathsE (s : Sg) (t v : List Int) : List (List Int) × Int := if okT s t = true ∧ okT s v = true then (pathsT s t v, 0) else ([], 1)
theorem pathsT_at {s : Sg} {t v : List Int} (h : okT s t = true) : ∀ q ∈ pathsT s t v, atE s t q = (v, 0) := by
  intro q hq
  obtain ⟨e, he, rfl⟩ := List.mem_map.1 hq
  rw [List.mem_filter, decide_eq_true_eq] at he
  obtain ⟨he, hv⟩ := he
  obtain ⟨j, hj, rfl⟩ := List.getElem_of_mem he
  obtain ⟨hl, hw⟩ := way_place h
  obtain ⟨g1, ⟨hj', g2⟩, -⟩ := hw j (by omega)
  rw [g2] at hv ⊢
  rw [atE_some h g1]
  simpa using hv
end Go.Proofs.YtgkddhakhapjlaaDoor

/- Walks: lists of paths. -/
namespace Go.Proofs.YtgkddhakhapjlaaDoor
open Go Go.RowKit Go.Maps

abbrev OwnPs (S : Nat → Prop) (w : World) (base : Nat) (v : Value) (l : List (List Int)) : Prop := OwnL (slE intE) S w base 34 v l
theorem infoPath : (Tryd.prog.info? 34).map (fun i => (i.zero, i.size, i.bytes)) = some (some (.slice none 0 0), 1, 24) := by kernel_rfl
section
variable {S : Nat → Prop} {w : World} {base g n cap : Nat} {l : List (List Int)}
theorem OwnPs.ones {xs : List (List Value)} {T : Nat → Prop} (hl : xs.length = l.length) (hx : ∀ i (h1 : i < xs.length) (h2 : i < l.length), (slE intE).R T w xs[i] l[i]) : ∀ x ∈ xs, x.length = 1 := by
  intro x hxm
  obtain ⟨i, hi, rfl⟩ := List.getElem_of_mem hxm
  exact (slE intE).len (hx i hi (by omega))
theorem OwnPs.cell (h : OwnPs S w base (.slice (some ⟨g, 0, none⟩) n cap) l) (hn : n = l.length) (i : Nat) (hi : i < l.length) :
    ∃ a c, w.cell? ⟨g, i, none⟩ = some (.slice a l[i].length c) ∧ Ints (Off S (.slice (some ⟨g, 0, none⟩) n cap)) w a c l[i] ∧ w.frozen? ⟨g, i, none⟩ = false := by
  subst hn
  obtain ⟨xs, ho, hl, hx⟩ := h
  have hi' : i < xs.length := by omega
  obtain ⟨a, c, he, hI⟩ := hx i hi' hi
  have h1 := OwnPs.ones hl hx
  refine ⟨a, c, ?_, hI, ho.frozenAt i⟩
  rw [ho.cellAt i (by show i < l.length * 1; omega)]
  have := flatten_get h1 i hi' 0 (by rw [he]; simp)
  rw [Nat.mul_one, Nat.add_zero] at this
  rw [this]; simp [he]
theorem OwnPs.set (h : OwnPs S w base (.slice (some ⟨g, 0, none⟩) n cap) l) (hn : n = l.length) (i : Nat) {a : Option Addr} {c : Nat} {u : List Int} (hu : Ints (Off S (.slice (some ⟨g, 0, none⟩) n cap)) w a c u) :
    OwnPs S (w.setCell ⟨g, i, none⟩ (.slice a u.length c)) base (.slice (some ⟨g, 0, none⟩) n cap) (l.set i u) ∧ w.grownBy (w.setCell ⟨g, i, none⟩ (.slice a u.length c)) (some g) := by
  subst hn
  obtain ⟨xs, ho, hl, hx⟩ := h
  have h1 := OwnPs.ones hl hx
  obtain ⟨r1, r2⟩ := ho.stored i (.slice a u.length c)
  have hA : Agree (Off S (.slice (some ⟨g, 0, none⟩) l.length cap)) w (w.setCell ⟨g, i, none⟩ (.slice a u.length c)) := .of_grown r2 (fun b hb e => hb.2 (by rw [e]; rfl))
  refine ⟨⟨xs.set i [.slice a u.length c], by rw [List.length_set, flatten_set1 h1]; exact r1, by simp [hl], fun j h1 h2 => ?_⟩, r2⟩
  by_cases hj : i = j
  · subst hj
    simp only [List.getElem_set_self]
    exact (slE intE).mono (w := w) (S := Off S (.slice (some ⟨g, 0, none⟩) l.length cap)) ⟨a, c, rfl, hu⟩ (fun _ _ h => h) hA
  · rw [List.getElem_set_ne hj, List.getElem_set_ne hj]
    exact (slE intE).mono (hx j (by simpa using h1) (by simpa using h2)) (fun _ _ h => h) hA
end

end Go.Proofs.YtgkddhakhapjlaaDoor

/- Walks: Counts, of both; Vars of the reference; slices.Contains. -/
namespace Go.Proofs.YtgkddhakhapjlaaDoor
open Go Go.RowKit Go.Maps

def varsE (s : Sg) (t : List Int) : List Int × Int := errE s t (varsV t)
/-! ### Counts -/
def cntL (n : Nat) (t : List Int) : List Int := (List.range n).map (fun (j : Nat) => ((t.count ((j : Nat) : Int) : Nat) : Int))
theorem cntL_length (n : Nat) (t : List Int) : (cntL n t).length = n := by simp [cntL]
theorem cntL_nil (n : Nat) : cntL n [] = List.replicate n 0 := by
  apply List.ext_getElem
  · simp [cntL]
  · intro i h1 h2; simp [cntL]
theorem cntL_get {n k : Nat} {t : List Int} (h : k < n) : (cntL n t)[k]'(by rw [cntL_length]; exact h) = ((t.count (k : Int) : Nat) : Int) := by simp [cntL]
theorem cntL_pos {n x k : Nat} {t : List Int} (hk : k < t.length) (hx : t[k] = (x : Int)) (_hn : x < n) : (cntL n (t.take k)).set x (((t.take k).count (x : Int) : Nat) + 1) = cntL n (t.take (k + 1)) := by
  rw [List.take_succ_eq_append_getElem hk]
  apply List.ext_getElem
  · simp [cntL]
  · intro i h1 h2
    rw [List.length_set, cntL_length] at h1
    rw [List.getElem_set, cntL_get h1, cntL_get h1]
    by_cases hi : x = i
    · subst hi
      rw [if_pos rfl, List.count_append, hx]; simp
    · rw [if_neg hi, List.count_append, hx]
      have : ([(x : Int)] : List Int).count (i : Int) = 0 := by rw [List.count_eq_zero]; simp; omega
      rw [this]; simp
theorem cntL_neg {n k : Nat} {t : List Int} (hk : k < t.length) (hx : t[k] < 0) : cntL n (t.take (k + 1)) = cntL n (t.take k) := by
  rw [List.take_succ_eq_append_getElem hk]
  apply List.ext_getElem
  · simp [cntL]
  · intro i h1 h2
    rw [cntL_length] at h1
    rw [cntL_get h1, cntL_get h1, List.count_append]
    have : ([t[k]] : List Int).count (i : Int) = 0 := by rw [List.count_eq_zero]; simp; omega
    rw [this]; simp
theorem okT_codes {s : Sg} {t : List Int} (h : okT s t = true) : ∀ x ∈ t, x < 0 ∨ (0 ≤ x ∧ x < s.length) := by
  intro x hx
  have := skip_codes s 1 t (okT_parts h).2.2.2 x hx
  simp [codeOk] at this
  omega
def cntE (s : Sg) (t : List Int) : List Int × Int := errE s t (cntL s.length t)
def cntRel (n : Nat) (t : List Int) (w : World) (B g cap : Nat) (i : Value) (wr : World) : Prop := ∃ k : Nat, i = .int .i64 k ∧ k ≤ t.length ∧ OwnI wr B (.slice (some ⟨g, 0, none⟩) n cap) (cntL n (t.take k)) ∧ Below B w wr
theorem makeZeros {W : World} (n : Nat) (hn : n ≤ 100) : (Instr.makeSlice 34 (.int .i64 (n : Int)) (.int .i64 (n : Int))).run Tryd.prog W = .ok (.slice (some ⟨W.heap.size, 0, none⟩) n n) (W.alloc (.cells (Array.replicate n (.int .i64 0)) 3)) := by
  obtain ⟨i, hi, hz0, hz1, hz2⟩ := info_parts infoInt
  have := run_make (P := Tryd.prog) W 34 3 i (.int .i64 0) Tryd.underlying34 hi hz0 .i64 .i64 n n (by omega) (by omega) (by rw [hz2]; omega) (by omega)
  rw [this, hz1, Int.toNat_natCast, Nat.mul_one]
  have hm : madeCells (Value.int .i64 0).cells n = Array.replicate n (.int .i64 0) := by
    apply Array.ext
    · simp [madeCells]
    · intro i h1 h2; simp [madeCells, Value.cells, Nat.mod_one]
  rw [hm]
end Go.Proofs.YtgkddhakhapjlaaDoor

/- Walks: Ways, Paths of the reference. -/
namespace Go.Proofs.YtgkddhakhapjlaaDoor
open Go Go.RowKit Go.Maps

noncomputable abbrev runApp (x y : Value) (w : World) : Result Value := (Builtin.append_ #[34, 34] 34 #[x, y]).run Tryd.prog w
theorem app24 {S2 : Nat → Prop} {w : World} {base : Nat} {v : Value} {l l2 : List Int} {a : Option Addr} {c : Nat} (ho : OwnI w base v l) (h2 : Ints S2 w a c l2) (hl : l.length + l2.length ≤ 10000000) (hb : base ≤ w.heap.size) :
    ∃ v' w', runApp v (.slice a l2.length c) w = .ok v' w' ∧ OwnI w' base v' (l ++ l2) ∧ w.grownBy w' v.ownBlock ∧ Below base w w' := by
  obtain ⟨v', w', hrun, ho', hg, -, -⟩ := ho.append_run (P := Tryd.prog) (t := 34) (ty := 34) Tryd.underlying34 infoInt rfl h2 (fun _ _ _ h => h) (by omega) (by unfold big; omega) hb
  exact ⟨v', w', hrun, ho', hg, (Below.refl _ _).grown hg hb (fun k e => (ho.lt k e).1)⟩
theorem lit1 {w : World} (m : Int) (hm : inRange m) : Ints (fun b => b = w.heap.size) (w.alloc (.cells #[.int .i64 m] 3)) (some ⟨w.heap.size, 0, none⟩) 1 [m] := by
  have := Sl.new (E := intE) (S := fun _ => False) w [[.int .i64 m]] [m] 3 rfl (by unfold big; simp) (fun i g1 g2 => by
    match i, g1 with
    | 0, _ => exact ⟨rfl, hm⟩)
  exact this.weak (fun b h => h.resolve_left (fun h => h))
theorem lit0 {w : World} (base : Nat) (hb : base ≤ w.heap.size) : OwnI (w.alloc (.cells #[] 3)) base (.slice (some ⟨w.heap.size, 0, none⟩) 0 0) [] := OwnL.made intE _ w base 3 hb
/-- the three orders in which a path with one number more is made -/
theorem ways3 {T : Nat → Prop} {w : World} {a : Option Addr} {c : Nat} {u : List Int} (hu : Ints T w a c u) (m : Int) (hm : inRange m) (hl : u.length ≤ 1000) :
    (∃ x1 w2 x2 w4, RowKit.Hid (Below w.heap.size w w2) ∧ RowKit.Hid (runApp (.slice (some ⟨w.heap.size, 0, none⟩) 0 0) (.slice a u.length c) (w.alloc (.cells #[] 3)) = .ok x1 w2) ∧ RowKit.Hid (runApp x1 (.slice (some ⟨w2.heap.size, 0, none⟩) 1 1) (w2.alloc (.cells #[.int .i64 m] 3)) = .ok x2 w4) ∧ RowKit.Hid (OwnI w4 w.heap.size x2 (u ++ [m])) ∧ RowKit.Hid (Below w.heap.size w w4)) ∧
    (∃ x1 w3 x2 w4, RowKit.Hid (Below w.heap.size w w3) ∧ RowKit.Hid (runApp (.slice (some ⟨w.heap.size, 0, none⟩) 0 0) (.slice a u.length c) ((w.alloc (.cells #[] 3)).alloc (.cells #[.int .i64 m] 3)) = .ok x1 w3) ∧ RowKit.Hid (runApp x1 (.slice (some ⟨w.heap.size + 1, 0, none⟩) 1 1) w3 = .ok x2 w4) ∧ RowKit.Hid (OwnI w4 w.heap.size x2 (u ++ [m])) ∧ RowKit.Hid (Below w.heap.size w w4)) ∧
    (∃ x1 w3 x2 w4, RowKit.Hid (Below w.heap.size w w3) ∧ RowKit.Hid (runApp (.slice (some ⟨w.heap.size + 1, 0, none⟩) 0 0) (.slice a u.length c) ((w.alloc (.cells #[.int .i64 m] 3)).alloc (.cells #[] 3)) = .ok x1 w3) ∧ RowKit.Hid (runApp x1 (.slice (some ⟨w.heap.size, 0, none⟩) 1 1) w3 = .ok x2 w4) ∧ RowKit.Hid (OwnI w4 w.heap.size x2 (u ++ [m])) ∧ RowKit.Hid (Below w.heap.size w w4)) := by
  refine ⟨?_, ?_, ?_⟩
  · have hb0 := below1 w (.cells #[] 3)
    obtain ⟨x1, w2, r1, o1, -, b1⟩ := app24 (lit0 (w := w) w.heap.size (Nat.le_refl _)) (hu.below hb0) (by simp; omega) hb0.size
    have B1 := hb0.trans b1
    have hb2 := below1 w2 (.cells #[.int .i64 m] 3)
    obtain ⟨x2, w4, r2, o2, -, b2⟩ := app24 (o1.call hb2) (lit1 m hm) (by simp; omega) (by have := B1.size; simp; omega)
    exact ⟨x1, w2, x2, w4, Lib.hid B1, Lib.hid r1, Lib.hid r2, Lib.hid (by simpa using o2), Lib.hid ((B1.trans (hb2.mono B1.size)).trans b2)⟩
  · have hb0 := below2 w (.cells #[] 3) (.cells #[.int .i64 m] 3)
    have hI := lit1 (w := w.alloc (.cells #[] 3)) m hm
    obtain ⟨x1, w3, r1, o1, g1, b1⟩ := app24 ((lit0 (w := w) w.heap.size (Nat.le_refl _)).call (below1 _ (.cells #[.int .i64 m] 3))) (hu.below hb0) (by simp; omega) hb0.size
    have B1 := hb0.trans b1
    have hI3 := hI.same (.of_grown g1 (fun b hb e => by simp [Value.ownBlock] at e hb; omega))
    obtain ⟨x2, w4, r2, o2, -, b2⟩ := app24 o1 hI3 (by simp; omega) B1.size
    rw [World.size_alloc] at r2
    exact ⟨x1, w3, x2, w4, Lib.hid B1, Lib.hid r1, Lib.hid r2, Lib.hid (by simpa using o2), Lib.hid (B1.trans b2)⟩
  · have hb0 := below2 w (.cells #[.int .i64 m] 3) (.cells #[] 3)
    have hI := (lit1 (w := w) m hm).below (below1 _ (.cells #[] 3))
    have o0 := lit0 (w := w.alloc (.cells #[.int .i64 m] 3)) w.heap.size (by simp)
    rw [World.size_alloc] at o0
    obtain ⟨x1, w3, r1, o1, g1, b1⟩ := app24 o0 (hu.below hb0) (by simp; omega) hb0.size
    have B1 := hb0.trans b1
    have hI3 := hI.same (.of_grown g1 (fun b hb e => by simp [Value.ownBlock] at e hb; omega))
    obtain ⟨x2, w4, r2, o2, -, b2⟩ := app24 o1 hI3 (by simp; omega) B1.size
    exact ⟨x1, w3, x2, w4, Lib.hid B1, Lib.hid r1, Lib.hid r2, Lib.hid (by simpa using o2), Lib.hid (B1.trans b2)⟩

section
variable {P : Program} {Q : Exit → Act → World → Prop} {md : Region.Mode} {S : World → Prop} {l : List Oper} {listed : Array Bool} {fuel : Nat} {a : Act} {w : World}
/-- two operations either of which may come up -/
theorem region_two (i j : Nat) {o o' : Oper} (hi : l[i]? = some o) (hj : l[j]? = some o') (hr : Region.ready md l.toArray listed = [i, j])
    (h : ∀ K' : Act → World → Prop, Shut (∀ a w, S w → (S w → wpAnyH P md l.toArray Q S fuel (listed.setIfInBounds i true) a w) → K' a w) → if Region.wanted o (yielded l.toArray a.tmps) = true then Oper.wp P o a w K' Q else K' (a.put o.dst undef) w)
    (h' : ∀ K' : Act → World → Prop, Shut (∀ a w, S w → (S w → wpAnyH P md l.toArray Q S fuel (listed.setIfInBounds j true) a w) → K' a w) → if Region.wanted o' (yielded l.toArray a.tmps) = true then Oper.wp P o' a w K' Q else K' (a.put o'.dst undef) w) :
    wpAnyH P md l.toArray Q S (fuel + 1) listed a w :=
  wpAnyH_ready hr (by simp) (AllReadyH.cons (by simpa using hi) h (AllReadyH.cons (by simpa using hj) h' AllReadyH.nil))
end

theorem ite_yes {c : Prop} [Decidable c] {p q : Prop} (h : c) (hp : p) : if c then p else q := by rw [if_pos h]; exact hp
theorem place_len {s : Sg} {t : List Int} : ∀ {q : List Int} {a j : Nat} {rest : List Int} (_ : skip s 1 (t.drop a) = some rest) (_ : place s t q a = some j), a + q.length ≤ j
  | [], a, j, rest, h, hp => by
    simp only [place, Option.some.injEq] at hp
    simp; omega
  | k :: ks, a, j, rest, h, hp => by
    rw [place] at hp
    cases hy : stepTo s t a k with
    | none => rw [hy] at hp; cases hp
    | some y =>
      rw [hy, Option.bind_some] at hp
      obtain ⟨n, rfl, hn, h1, h2, h3, ry, h4, h5⟩ := step_skip h hy
      have ih := place_len h4 hp
      rw [List.length_cons]; omega
def waysOk (s : Sg) (t : List Int) (at_ m : Nat) (L : List (List Int)) : Prop :=
  L.length = t.length ∧ ∀ j (hj : j < L.length), (j = 0 ∨ (∃ (p : Nat) (k : Int), p < at_ ∧ stepTo s t p k = some j) ∨ (∃ k : Nat, k < m ∧ stepTo s t at_ k = some j)) → L[j] = way s t j
theorem waysOk_start {s : Sg} {t : List Int} (h : okT s t = true) : waysOk s t 0 0 (List.replicate t.length []) := by
  refine ⟨by simp, fun j hj hc => ?_⟩
  rcases hc with rfl | ⟨p, k, hp, -⟩ | ⟨k, hk, -⟩
  · simp [way_zero h]
  · omega
  · omega
theorem waysOk_next {s : Sg} {t : List Int} {LL : List (List Int)} {at_ M : Nat} (h : waysOk s t at_ M LL) {r : List Int} (hs : skip s 1 (t.drop at_) = some r) (hM : ar s (t.getD at_ 0) = M) : waysOk s t (at_ + 1) 0 LL := by
  refine ⟨h.1, fun j hj hc => h.2 j hj ?_⟩
  rcases hc with rfl | ⟨p, k, hp, hk⟩ | ⟨k, hk, -⟩
  · exact .inl rfl
  · by_cases hp2 : p < at_
    · exact .inr (.inl ⟨p, k, hp2, hk⟩)
    · obtain rfl : p = at_ := by omega
      obtain ⟨n, rfl, hn, -⟩ := step_skip hs hk
      exact .inr (.inr ⟨n, by omega, hk⟩)
  · omega
theorem waysOk_at {s : Sg} {t : List Int} (h : okT s t = true) {LL : List (List Int)} {at_ m : Nat} (ho : waysOk s t at_ m LL) (ha : at_ < LL.length) : LL[at_] = way s t at_ := by
  have hl : at_ < t.length := by rw [← ho.1]; exact ha
  refine ho.2 at_ ha ?_
  rcases Nat.eq_zero_or_pos at_ with h0 | h0
  · exact .inl h0
  · obtain ⟨q0, k, p, -, hp, hk⟩ := place_parent ((way_place h).2 at_ hl).1 h0
    have hpb := place_bound (okT_skip0 h) hp
    obtain ⟨-, hlt, -⟩ := way_step h (by omega) hk
    exact .inr (.inl ⟨p, k, hlt, hk⟩)
theorem waysOk_set {s : Sg} {t : List Int} (h : okT s t = true) {LL : List (List Int)} {at_ m y : Nat} (ho : waysOk s t at_ m LL) (ha : at_ < t.length) (hy : stepTo s t at_ m = some y) : waysOk s t at_ (m + 1) (LL.set y (way s t at_ ++ [(m : Int)])) := by
  refine ⟨by rw [List.length_set]; exact ho.1, fun j hj hc => ?_⟩
  rw [List.length_set] at hj
  rw [List.getElem_set]
  by_cases hjy : y = j
  · subst hjy
    rw [if_pos rfl, (way_step h ha hy).2.2]
  · rw [if_neg hjy]
    refine ho.2 j hj ?_
    rcases hc with h1 | h1 | ⟨k, hk, h1⟩
    · exact .inl h1
    · exact .inr (.inl h1)
    · by_cases hkm : k = m
      · subst hkm; rw [hy] at h1; exact (hjy (Option.some.inj h1)).elim
      · exact .inr (.inr ⟨k, by omega, h1⟩)
def wayRel1 (s : Sg) (t : List Int) (w : World) (B g : Nat) (i : Value) (wr : World) : Prop :=
  ∃ (at_ : Nat) (L : List (List Int)), i = .int .i64 at_ ∧ at_ ≤ t.length ∧ waysOk s t at_ 0 L ∧ OwnPs (fun _ => True) wr B (.slice (some ⟨g, 0, none⟩) t.length t.length) L ∧ Below B w wr
def wayRel2 (s : Sg) (t : List Int) (w : World) (B g at_ M : Nat) (a4 : Option Addr) (c4 : Nat) (P : List Int) (i : Value) (wr : World) : Prop :=
  ∃ (m : Nat) (L : List (List Int)), i = .int .i64 m ∧ m ≤ M ∧ waysOk s t at_ m L ∧ OwnPs (fun _ => True) wr B (.slice (some ⟨g, 0, none⟩) t.length t.length) L ∧ Below B w wr ∧ Ints (fun b => g < b) wr a4 c4 P
end Go.Proofs.YtgkddhakhapjlaaDoor

/- Walks: At, of both; lists of terms alike; all valid. -/
namespace Go.Proofs.YtgkddhakhapjlaaDoor
open Go Go.RowKit Go.Maps

def spanV (s : Sg) (t p : List Int) : Value := match place s t p 0 with
  | some z => .tuple #[.int .i64 z, .int .i64 (z + (partAt s (t.drop z)).length : Nat), .bool true]
  | none => .tuple #[.int .i64 0, .int .i64 0, .bool false]
def spanRel (s : Sg) (t p : List Int) (w : World) (fr to i : Value) (wr : World) : Prop :=
  ∃ (j a : Nat) (rest : List Int), i = .int .i64 j ∧ fr = .int .i64 a ∧ to = .int .i64 (t.length - rest.length : Nat) ∧ j ≤ p.length ∧ skip s 1 (t.drop a) = some rest ∧ place s t (p.drop j) a = place s t p 0 ∧ Below w.heap.size w wr
def sumRel (L : List (List Int)) (a k : Nat) (w1 : World) (fr i : Value) (wr : World) : Prop :=
  ∃ q : Nat, i = .int .i64 q ∧ q ≤ k ∧ fr = .int .i64 (a + 1 + (L.take q).flatten.length : Nat) ∧ wr = w1
theorem len_take_flatten {L : List (List Int)} {q : Nat} : (L.take q).flatten.length ≤ L.flatten.length := by
  have : L.flatten.length = (L.take q).flatten.length + (L.drop q).flatten.length := by rw [← List.length_append, ← List.flatten_append, List.take_append_drop]
  omega
theorem take_flatten_succ {L : List (List Int)} {q : Nat} (h : q < L.length) : (L.take (q + 1)).flatten.length = (L.take q).flatten.length + L[q].length := by
  rw [List.take_succ_eq_append_getElem h, List.flatten_append, List.length_append]; simp
end Go.Proofs.YtgkddhakhapjlaaDoor

/- Walks: Vars: a range over a function. -/
namespace Go.Proofs.YtgkddhakhapjlaaDoor
open Go Go.RowKit Go.Shelf

attribute [local go_sem] Oper.semAt_some

abbrev I64 := { x : Int // inRange x }
/-- the variables of a list as they come -/
def yl (t : List Int) : List Int := (t.filter (fun x => decide (x < 0))).map vnum
theorem yl_neg {t : List Int} {k : Nat} (hk : k < t.length) (hx : t[k] < 0) : yl (t.take (k + 1)) = yl (t.take k) ++ [vnum t[k]] := by
  rw [List.take_succ_eq_append_getElem hk]
  unfold yl
  rw [List.filter_append, List.map_append, List.filter_cons_of_pos (by simpa using hx)]; rfl
theorem yl_pos {t : List Int} {k : Nat} (hk : k < t.length) (hx : ¬ t[k] < 0) : yl (t.take (k + 1)) = yl (t.take k) := by
  rw [List.take_succ_eq_append_getElem hk]
  unfold yl
  rw [List.filter_append, List.map_append, List.filter_cons_of_neg (by simpa using hx)]; simp
theorem yl_len (t : List Int) : (yl t).length ≤ t.length := by unfold yl; rw [List.length_map]; exact List.length_filter_le _ _

/-- each number once -/
def ddA (acc : List Int) (x : Int) : List Int := if x ∈ acc then acc else acc ++ [x]
def ddp (l : List I64) : List Int := (l.map (·.1)).foldl ddA []
theorem ddp_snoc (l : List I64) (x : I64) : ddp (l ++ [x]) = ddA (ddp l) x.1 := by simp [ddp]
theorem ddA_len (acc : List Int) (x : Int) : (ddA acc x).length ≤ acc.length + 1 := by unfold ddA; split <;> simp
theorem ddp_len (l : List I64) : (ddp l).length ≤ l.length := by
  have : ∀ (m : List Int) (acc : List Int), (m.foldl ddA acc).length ≤ acc.length + m.length := by
    intro m
    induction m with
    | nil => intro acc; simp
    | cons x r ih => intro acc; rw [List.foldl_cons]; have := ih (ddA acc x); have := ddA_len acc x; simp; omega
  have := this (l.map (·.1)) []
  simpa [ddp] using this
theorem foldl_yl : ∀ (t : List Int) (acc : List Int), (yl t).foldl ddA (acc.map vnum) = (t.foldl addV acc).map vnum
  | [], acc => rfl
  | x :: r, acc => by
    by_cases hx : x < 0
    · have h1 : yl (x :: r) = vnum x :: yl r := by unfold yl; rw [List.filter_cons_of_pos (by simpa using hx)]; rfl
      rw [h1, List.foldl_cons, List.foldl_cons]
      have h2 : ddA (acc.map vnum) (vnum x) = (addV acc x).map vnum := by
        unfold ddA addV
        by_cases hm : x ∈ acc
        · rw [if_pos (mem_map_vnum.2 hm), if_neg (fun e => e.2 hm)]
        · rw [if_neg (fun e => hm (mem_map_vnum.1 e)), if_pos ⟨hx, hm⟩, List.map_append]; rfl
      rw [h2]; exact foldl_yl r _
    · have h1 : yl (x :: r) = yl r := by unfold yl; rw [List.filter_cons_of_neg (by simpa using hx)]
      have h2 : addV acc x = acc := by unfold addV; rw [if_neg (fun e => hx e.1)]
      rw [h1, List.foldl_cons, h2]; exact foldl_yl r _
theorem ddp_yl {ys : List I64} {t : List Int} (h : ys.map (·.1) = yl t) : ddp ys = varsV t := by
  unfold ddp; rw [h]; exact foldl_yl t []
theorem ddA_range {acc : List Int} {x : Int} (h : ∀ y ∈ acc, inRange y) (hx : inRange x) : ∀ y ∈ ddA acc x, inRange y := by
  intro y hy
  unfold ddA at hy
  split at hy
  · exact h y hy
  · rcases List.mem_append.1 hy with h' | h'
    · exact h y h'
    · simp at h'; rw [h']; exact hx

end Go.Proofs.YtgkddhakhapjlaaDoor

/- Paths and parts, one argument behind the other. No program is named. -/
namespace Go.Proofs.YtgkddhakhapjlaaDoor

theorem glue_snoc : ∀ (k : Nat) (M : List (List (List Int × List Int))) (x : List (List Int × List Int)), glue k (M ++ [x]) = glue k M ++ x.map (fun e => (((k + M.length : Nat) : Int) :: e.1, e.2))
  | k, [], x => by simp [glue]
  | k, y :: r, x => by
    rw [List.cons_append, glue, glue_snoc (k + 1) r x, glue, List.append_assoc]
    simp only [List.length_cons]
    rw [show k + 1 + r.length = k + (r.length + 1) by omega]
theorem PL_len {s : Sg} {u : List Int} (h : okT s u = true) {f : Nat} (hf : u.length ≤ f) : (PL s f u).length = u.length := by
  have := PL_spec s u f 0 [] (okT_skip0 h) (by rw [partAt_all h]; exact hf)
  rw [partAt_all h] at this
  exact this.1
/-- what the first k arguments and the head give, each path behind p -/
def PK (s : Sg) (f : Nat) (p u : List Int) (k : Nat) : List (List Int × List Int) := (([], u) :: glue 0 (((argsT s u).take k).map (PL s f))).map (fun e => (p ++ e.1, e.2))
theorem PK_zero (s : Sg) (f : Nat) (p u : List Int) : PK s f p u 0 = [(p, u)] := by simp [PK, glue]
theorem PK_succ {s : Sg} {f : Nat} {p u : List Int} {k : Nat} (hk : k < (argsT s u).length) : PK s f p u (k + 1) = PK s f p u k ++ (PL s f (argsT s u)[k]).map (fun e => ((p ++ [(k : Int)]) ++ e.1, e.2)) := by
  have hl : (((argsT s u).take k).map (PL s f)).length = k := by simp; omega
  have h2 : ((argsT s u).take (k + 1)).map (PL s f) = ((argsT s u).take k).map (PL s f) ++ [PL s f (argsT s u)[k]] := by rw [List.take_succ_eq_append_getElem hk]; simp only [List.map_append, List.map_cons, List.map_nil]
  unfold PK
  rw [h2, glue_snoc, hl]
  simp [Function.comp_def, List.append_assoc]
theorem PK_all {s : Sg} {f : Nat} {p u : List Int} {k : Nat} (hk : (argsT s u).length ≤ k) : PK s f p u k = (PL s (f + 1) u).map (fun e => (p ++ e.1, e.2)) := by
  unfold PK; rw [List.take_of_length_le hk]; rfl
theorem PK_len {s : Sg} {f : Nat} {p u : List Int} {k : Nat} (h : okT s u = true) (hf : u.length ≤ f + 1) : (PK s f p u k).length = 1 + ((argsT s u).take k).flatten.length := by
  obtain ⟨-, h2, h3⟩ := argsT_spec h
  unfold PK
  rw [List.length_map, List.length_cons, glue_len, flatten_len_sum, List.map_map]
  have : ((argsT s u).take k).map (List.length ∘ PL s f) = ((argsT s u).take k).map List.length := by
    apply List.map_congr_left
    intro v hv
    have hm := List.mem_of_mem_take hv
    have hl := len_flatten hm
    have := congrArg List.length h2
    rw [List.length_cons] at this
    exact PL_len (h3 v hm) (by omega)
  rw [this]; omega
end Go.Proofs.YtgkddhakhapjlaaDoor

/- Walks: the iterator over the parts of a term. -/
namespace Go.Proofs.YtgkddhakhapjlaaDoor
open Go Go.RowKit Go.Shelf

attribute [local go_sem] Oper.semAt_some

theorem RoundIn.wideAny {m m' : Nat} {P : Program} {l : Nat} {f : FuncId} {tmps : Array Value} {assign body : Code} {w : World} {R : Ending → World → Prop}
    (h : RoundIn Fence.wide m P l f tmps assign body w R) : RoundIn Fence.wide m' P l f tmps assign body w R := ⟨h.1, fun c cs _ => h.2 c cs (room_wide _)⟩
theorem YieldAt.wideAny {m : Nat} (m' : Nat) {P : Program} {l : Nat} {args : Array Value} {W : World} {R : Ending → World → Prop} (h : YieldAt Fence.wide m P l args W R) : YieldAt Fence.wide m' P l args W R := by
  obtain ⟨fn, tmps, assign, body, hy, hR⟩ := h
  exact ⟨fn, tmps, assign, body, hy, RoundIn.wideAny hR⟩

/-- a path and a part, as they are handed over -/
structure El where
  ap : Option Addr
  cp : Nat
  p : List Int
  au : Option Addr
  cu : Nat
  u : List Int
def El.enc (x : El) : Array Value := #[.slice x.ap x.p.length x.cp, .slice x.au x.u.length x.cu]
def El.pt (x : El) : List Int × List Int := (x.p, x.u)
def ElR (x : El) (W : World) : Prop := Ints (fun _ => True) W x.ap x.cp x.p ∧ Ints (fun _ => True) W x.au x.cu x.u ∧ x.p.length ≤ 60 ∧ x.u.length ≤ 60

/-- append of a number to a list that is full -/
theorem app_full {S : Nat → Prop} {w : World} {a : Option Addr} {l : List Int} (h : Ints S w a l.length l) (hn : l = [] → a = none) (x : Int) (hx : inRange x) (hl : l.length ≤ 1000) :
    ∃ v w', RowKit.Hid (runApp (.slice a l.length l.length) (.slice (some ⟨w.heap.size, 0, none⟩) 1 1) (w.alloc (.cells #[.int .i64 x] 3)) = .ok v w') ∧ RowKit.Hid (OwnI w' w.heap.size v (l ++ [x])) ∧ RowKit.Hid (Below w.heap.size w w') := by
  have hb1 := below1 w (.cells #[.int .i64 x] 3)
  have hI := lit1 (w := w) x hx
  by_cases hne : l = []
  · subst hne
    obtain rfl := hn rfl
    obtain ⟨v, w', r, o, -, b⟩ := app24 (base := w.heap.size) (OwnL.nil intE (fun _ => False) _ _ 3) hI (by simp) hb1.size
    exact ⟨v, w', Lib.hid r, Lib.hid o, Lib.hid (hb1.trans b)⟩
  · obtain ⟨i, hi, hz0, hz1, hz2⟩ := info_parts infoInt
    have h' := h.below hb1
    obtain ⟨b, off, rfl, -, -, hc⟩ := h'.dat hne
    obtain ⟨v, w', r, o, g⟩ := run_append_arg_grows (P := Tryd.prog) (w.alloc (.cells #[.int .i64 x] 3)) 34 34 3 i (.int .i64 0) 1 8 Tryd.underlying34 hi hz0 hz1 hz2 rfl (by decide)
      ⟨b, off, none⟩ l.length l.length (l.map (.int .i64)) (by simp) (fun j u hu => by
        rw [List.getElem?_map] at hu
        cases hj : l[j]? with
        | none => rw [hj] at hu; cases hu
        | some y =>
          rw [hj] at hu
          cases hu
          obtain ⟨hjl, rfl⟩ := List.getElem?_eq_some_iff.1 hj
          obtain ⟨b2, off2, he, -, q, -⟩ := h'.int j hjl
          cases he
          rw [Addr.add_lit]; exact q)
      ⟨w.heap.size, 0, none⟩ 1 1 [.int .i64 x] (by simp) (fun j u hu => by
        cases j with
        | zero => cases hu; rw [Addr.add_lit, World.cell?_alloc_at _ _ _ _ rfl]; rfl
        | succ j => simp at hu) (by omega) (by unfold maxLen; omega) (by omega)
    rw [World.size_alloc] at o
    refine ⟨v, w', Lib.hid r, Lib.hid ((OwnL.of_row (S := fun _ => False) (l := l ++ [x]) (by simpa using o) (fun y hy => ?_)).baseMono (Nat.le_succ _)), Lib.hid (hb1.trans ((Below.refl _ _).grown g (by simp) (fun k e => by cases e)))⟩
    rcases List.mem_append.1 hy with h6 | h6
    · exact h.rng y h6
    · simp at h6; rw [h6]; exact hx

def pwRel (s : Sg) (f : Nat) (p u : List Int) (m B0 : Nat) (J : List El → World → Prop) (pre : List El) (W2 : World) (i : Value) (wr : World) : Prop :=
  ∃ (k : Nat) (ys : List El), i = .int .i64 k ∧ k ≤ m ∧ ys.map El.pt = PK s f p u k ∧ J (pre ++ ys) wr ∧ Leaves B0 W2 wr
end Go.Proofs.YtgkddhakhapjlaaDoor

/- Walks: the iterator over the parts of a term, as a caller takes it. -/
namespace Go.Proofs.YtgkddhakhapjlaaDoor
open Go Go.RowKit Go.Shelf

attribute [local go_sem] Oper.semAt_some

theorem abides_below {β : Type} {B : Nat} {J : β → World → Prop} (h : AbidesFrom B J) {s : β} {A A' : World} (hs : J s A) (hb : Below A.heap.size A A') : J s A' :=
  h s A A' none hs (Below.grow hb) (fun r e => by cases e)

theorem El.size (x : El) : x.enc.size = 2 := rfl
end Go.Proofs.YtgkddhakhapjlaaDoor

/- A region that draws its order, in a round of a range over a function. No program is named. -/
namespace Go.Proofs.YtgkddhakhapjlaaDoor
open Go Go.RowKit
section
variable {F : Fence} {n : Nat} {P : Program} {Q : Exit → Act → World → Prop} {md : Region.Mode} {l : List Oper} {listed : Array Bool} {fuel : Nat} {a : Act} {w : World}
/-- what is asked of an operation that comes up next -/
def NextIn (F : Fence) (n : Nat) (P : Program) (Q : Exit → Act → World → Prop) (ops : Array Oper) (o : Oper) (a : Act) (w : World) (K : Act → World → Prop) : Prop :=
  if Region.wanted o (yielded ops a.tmps) = true then Oper.wpIn F n P o a w K Q else (∀ f, o.about P w a.eval = some f → F.fn f) ∧ K (a.put o.dst undef) w
theorem region_in1 (i : Nat) {o : Oper} (hi : l[i]? = some o) (hr : Region.ready md l.toArray listed = [i])
    (h : ∀ K' : Act → World → Prop, Shut (∀ a w, wpAnyIn F n P md l.toArray Q fuel (listed.setIfInBounds i true) a w → K' a w) → NextIn F n P Q l.toArray o a w K') : wpAnyIn F n P md l.toArray Q (fuel + 1) listed a w :=
  wpAnyIn_ready hr (by simp) (AllReadyIn.cons (by simpa using hi) h AllReadyIn.nil)
theorem region_in2 (i j : Nat) {o o' : Oper} (hi : l[i]? = some o) (hj : l[j]? = some o') (hr : Region.ready md l.toArray listed = [i, j])
    (h : ∀ K' : Act → World → Prop, Shut (∀ a w, wpAnyIn F n P md l.toArray Q fuel (listed.setIfInBounds i true) a w → K' a w) → NextIn F n P Q l.toArray o a w K')
    (h' : ∀ K' : Act → World → Prop, Shut (∀ a w, wpAnyIn F n P md l.toArray Q fuel (listed.setIfInBounds j true) a w → K' a w) → NextIn F n P Q l.toArray o' a w K') : wpAnyIn F n P md l.toArray Q (fuel + 1) listed a w :=
  wpAnyIn_ready hr (by simp) (AllReadyIn.cons (by simpa using hi) h (AllReadyIn.cons (by simpa using hj) h' AllReadyIn.nil))
/-- an operation that yields a value, in the world at hand -/
theorem NextIn.value {ops : Array Oper} {o : Oper} {K : Act → World → Prop} (hg : Region.wanted o (yielded ops a.tmps) = true) (hd : ∀ c, o.op ≠ .defer c) {v : Value} {w' : World} (hab : o.about P w a.eval = none)
    (hr : (execOp a.eval o).run P w = .ok (.value v) w') (h : K (a.put o.dst v) w') : NextIn F n P Q ops o a w K := by
  unfold NextIn Oper.wpIn
  rw [if_pos hg, Oper.semAt_eq _ _ _ hd, hr, hab]
  exact ⟨fun f hf => (by cases hf), h⟩
theorem NextIn.skip {ops : Array Oper} {o : Oper} {K : Act → World → Prop} (hg : Region.wanted o (yielded ops a.tmps) = true) (hd : ∀ c, o.op ≠ .defer c) {w' : World} (hab : o.about P w a.eval = none)
    (hr : (execOp a.eval o).run P w = .ok .skip w') (h : K (a.put o.dst undef) w') : NextIn F n P Q ops o a w K := by
  unfold NextIn Oper.wpIn
  rw [if_pos hg, Oper.semAt_eq _ _ _ hd, hr, hab]
  exact ⟨fun f hf => (by cases hf), h⟩
theorem NextIn.append {ops : Array Oper} {o : Oper} {K : Act → World → Prop} (hg : Region.wanted o (yielded ops a.tmps) = true) (s x : Operand) (t : TypeId)
    (ho : o.op = .call { callee := .builtin .append, args := #[s, x], argTypes := #[t, t] }) {vs vx : Value} (hs : a.eval s = vs) (hx : a.eval x = vx) {v' : Value} {w' : World}
    (hr : (Builtin.append_ #[t, t] o.type #[vs, vx]).run P w = .ok v' w') (h : K (a.put o.dst v') w') : NextIn F n P Q ops o a w K := by
  refine NextIn.value hg (fun c => by rw [ho]; simp) (v := v') (w' := w') ?_ ?_ h
  · unfold Oper.about
    simp only [ho, resolve, Sem.run_pure, List.map_toArray, List.map_cons, List.map_nil]
    rfl
  · unfold execOp
    simp only [ho, resolve, invoke, builtin, Sem.run_bind, Sem.run_pure, Result.andThen_ok, List.map_toArray, List.map_cons, List.map_nil, hs, hx, hr]
theorem NextIn.call {ops : Array Oper} {o : Oper} {K : Act → World → Prop} (hg : Region.wanted o (yielded ops a.tmps) = true) (hd : ∀ c, o.op ≠ .defer c) (hfn : ∀ f, F.fn f) (hdp : F.depth = none) {f : Nat} {args : Array Value}
    (hr : (execOp a.eval o).run P w = .ok (.enter f args) w) (h : CallsIn F (n - 1) P f args w fun e w' => ∃ v, e = .returned v ∧ K (a.put o.dst v) w') : NextIn F n P Q ops o a w K := by
  unfold NextIn Oper.wpIn
  rw [if_pos hg, Oper.semAt_eq _ _ _ hd, hr]
  refine ⟨fun f _ => hfn f, fun e => (by rw [hdp] at e; cases e), h.mono fun e w' he => ?_⟩
  obtain ⟨v, rfl, hk⟩ := he
  exact hk
end
end Go.Proofs.YtgkddhakhapjlaaDoor

/- Walks of package kernel: the iterator over what the steps say. -/
namespace Go.Proofs.YtgkddhakhapjlaaDoor
open Go Go.RowKit Go.Maps Go.Shelf

attribute [local go_sem] Oper.semAt_some

theorem wpListIn_append_run {F : Fence} {n : Nat} {P : Program} {Q : Exit → Act → World → Prop} {ops : Array Oper} {rest : List Oper} {o : Oper} {a : Act} {w : World} (hg : Region.wanted o (yielded ops a.tmps) = true) (s x : Operand) (t : TypeId)
    (ho : o.op = .call { callee := .builtin .append, args := #[s, x], argTypes := #[t, t] }) {vs vx : Value} (hs : a.eval s = vs) (hx : a.eval x = vx) {v' : Value} {w' : World}
    (hr : (Builtin.append_ #[t, t] o.type #[vs, vx]).run P w = .ok v' w') (h : wpListIn F n P ops Q rest (a.put o.dst v') w') : wpListIn F n P ops Q (o :: rest) a w :=
  NextIn.append (K := wpListIn F n P ops Q rest) hg s x t ho hs hx hr h
/-- what a step says, as it is handed over -/
structure Td where
  ap : Option Addr
  cp : Nat
  t : List Int
  e : Int
def Td.enc (x : Td) : Array Value := #[.agg #[.slice x.ap x.t.length x.cp, .int .i64 x.e]]
def Td.pt (x : Td) : List Int × Int := (x.t, x.e)
def TdR (x : Td) (W : World) : Prop := Ints (IntB W) W x.ap x.cp x.t ∧ x.t.length ≤ 60
theorem Td.size (x : Td) : x.enc.size = 1 := rfl
def Rw (B0 : Nat) (W : World) (r : Nat) (o : Obj) : Prop := ∃ cs t, o = .cells cs t (0, 0) ∧ t ≠ 3 ∧ r ≠ B0 ∧ some r ≠ rowOf B0 W
def Kp (B0 : Nat) (W W' : World) : Prop := Leaves B0 W W' ∧ IntKeep W W'
theorem Kp.trans {B0 : Nat} {A B C : World} (h : Kp B0 A B) (k : Kp B0 B C) : Kp B0 A C := ⟨h.1.trans k.1, h.2.trans k.2⟩
/-- what is told, step by step, up to the first that says nothing -/
noncomputable def toldL (s : Sg) (g : List (List Int)) : List Stp → List (List Int) → List (List Int × Int)
  | [], _ => []
  | x :: p, l => stepE s g l x :: (if (stepE s g l x).2 = 0 then toldL s g p (l ++ [(stepE s g l x).1]) else [])
theorem toldL_drop {s : Sg} {g l : List (List Int)} {p : List Stp} {k : Nat} (h : k < p.length) : toldL s g (p.drop k) l = stepE s g l p[k] :: (if (stepE s g l p[k]).2 = 0 then toldL s g (p.drop (k + 1)) (l ++ [(stepE s g l p[k]).1]) else []) := by
  rw [List.drop_eq_getElem_cons h, toldL]
theorem stepE_len {s : Sg} {g l : List (List Int)} {x : Stp} (hg : ∀ t ∈ g, okT s t = true) (hl : ∀ t ∈ l, okT s t = true) (hr : rightB g.length l.length x = true) : (stepE s g l x).1.length ≤ 60 := by
  by_cases h : (stepE s g l x).2 = 0
  · exact (okT_parts (step_okT hg hr h)).2.2.1
  · have : (stepE s g l x).1 = [] := by
      unfold stepE at h ⊢
      by_cases h1 : x.1 = 1
      · rw [if_pos h1] at h; exact (h rfl).elim
      · rw [if_neg h1] at h ⊢
        obtain ⟨-, d1, d2, d3, d4⟩ := rightB_detach hr h1
        rcases det_err (hl _ (getD_mem [] (show x.2.1.toNat < l.length by omega))) (hl _ (getD_mem [] (show x.2.2.toNat < l.length by omega))) with e | e
        · exact (h e).elim
        · exact e.1
    rw [this]; simp
theorem getD_get {l : List (List Int)} {n : Nat} (h : n < l.length) : l.getD n [] = l[n] := by rw [List.getD_eq_getElem?_getD, List.getElem?_eq_getElem h]; rfl
theorem okSteps_get {G : Int} : ∀ (p : List Stp) (n k : Nat) (h : k < p.length), okSteps G n p = true → rightB G (n + k) p[k] = true
  | x :: p, n, 0, _, h => by simp only [okSteps, Bool.and_eq_true] at h; simpa using h.1
  | x :: p, n, k + 1, hk, h => by
    simp only [okSteps, Bool.and_eq_true] at h
    have := okSteps_get p (n + 1) k (by simpa using hk) h.2
    rw [show n + 1 + k = n + (k + 1) by omega] at this
    simpa using this

structure SI (K B0 L0 sb gb pb ab : Nat) (a1 ag ap : Option Addr) (c1 cg cp : Nat) (s : Sg) (g : List (List Int)) (p : List Stp) (acc : List (List Int)) (W : World) : Prop where
  row : RowLt B0 W
  kle : K ≤ W.heap.size
  fcs : W.cell? ⟨sb, 0, none⟩ = some (.slice a1 s.length c1)
  ss : sb < K ∧ Safe B0 W sb
  fcg : W.cell? ⟨gb, 0, none⟩ = some (.slice ag g.length cg)
  fsg : gb < K ∧ Safe B0 W gb
  ca0 : W.cell? ⟨ab, 0, none⟩ = some (.func (.func 86) #[] #[.pointer (some ⟨sb, 0, none⟩), .pointer (some ⟨gb, 0, none⟩)])
  ca1 : W.cell? ⟨ab, 1, none⟩ = some (.func (.func 88) #[] #[.pointer (some ⟨sb, 0, none⟩), .pointer (some ⟨L0, 0, none⟩)])
  ta : ∃ cs, W.heap[ab]? = some (.cells cs 137 (0, 0))
  sa : Safe B0 W ab
  box : TBox W L0 K acc
  kL : K ≤ L0
  sL : Safe B0 W L0
  sR : ∀ r, rowOf L0 W = some r → Safe B0 W r
  sig : Sign (fun b => b < K ∧ Safe B0 W b) W a1 c1 s
  giv : Terms (fun b => b < K ∧ Safe B0 W b) W ag cg g
  prf : Steps (fun b => b < K ∧ Safe B0 W b) W ap cp p
section
variable {K B0 L0 sb gb pb ab : Nat} {a1 ag ap : Option Addr} {c1 cg cp : Nat} {s : Sg} {g : List (List Int)} {p : List Stp} {acc : List (List Int)} {W W' : World}
theorem SI.keep (h : SI K B0 L0 sb gb pb ab a1 ag ap c1 cg cp s g p acc W) (k : Leaves B0 W W') (i : IntKeep W W') : SI K B0 L0 sb gb pb ab a1 ag ap c1 cg cp s g p acc W' := by
  have hm : ∀ b, b < W.heap.size → (b < K ∧ Safe B0 W b) → b < K ∧ Safe B0 W' b := fun b _ hb => ⟨hb.1, k.safe hb.2⟩
  have hA : Agree (fun b => b < K ∧ Safe B0 W b) W W' := fun b hb _ => k.same b hb.2
  have hr := rowOf_same (k.same L0 h.sL)
  exact ⟨k.lt h.row, Nat.le_trans h.kle k.size, k.cell h.ss.2 h.fcs, ⟨h.ss.1, k.safe h.ss.2⟩, k.cell h.fsg.2 h.fcg, ⟨h.fsg.1, k.safe h.fsg.2⟩, k.cell h.sa h.ca0, k.cell h.sa h.ca1, by obtain ⟨cs, hc⟩ := h.ta; exact ⟨cs, (k.same ab h.sa).trans hc⟩, k.safe h.sa,
    h.box.keep (k.same L0 h.sL) (fun r hr => k.same r (h.sR r hr)) i, h.kL, k.safe h.sL, fun r e => k.safe (h.sR r (by rw [← hr]; exact e)), h.sig.mono hm hA, h.giv.mono hm hA, h.prf.mono hm hA⟩
theorem SI.below (h : SI K B0 L0 sb gb pb ab a1 ag ap c1 cg cp s g p acc W) (hb : Below W.heap.size W W') : SI K B0 L0 sb gb pb ab a1 ag ap c1 cg cp s g p acc W' := h.keep (.of_below h.row.1 hb) (.of_below hb)
/-- all but the box's list and the box has stayed -/
theorem SI.pushed (h : SI K B0 L0 sb gb pb ab a1 ag ap c1 cg cp s g p acc W) {acc' : List (List Int)} (hsz : W.heap.size ≤ W'.heap.size) (hsame : ∀ b, b < W.heap.size → b ≠ L0 → some b ≠ rowOf L0 W → W'.heap[b]? = W.heap[b]?) (hbox : TBox W' L0 K acc')
    (hrow : rowOf L0 W' = rowOf L0 W ∨ ∃ k, rowOf L0 W' = some k ∧ W.heap.size ≤ k) : SI K B0 L0 sb gb pb ab a1 ag ap c1 cg cp s g p acc' W' ∧ rowOf B0 W' = rowOf B0 W := by
  have hrK : ∀ r, rowOf L0 W = some r → K ≤ r := fun r hr => (h.box.rowCells r hr).1
  have hB : W'.heap[B0]? = W.heap[B0]? := hsame B0 h.row.1 (fun e => h.sL.1 e.symm) (fun e => (h.sR B0 e.symm).1 rfl)
  have hrB := rowOf_same hB
  have hlow : ∀ b, b < K → W'.heap[b]? = W.heap[b]? := fun b hb => hsame b (Nat.lt_of_lt_of_le hb h.kle) (by have := h.kL; omega) (fun e => by have := hrK b e.symm; omega)
  have hsafe : ∀ b, Safe B0 W b → W'.heap[b]? = W.heap[b]? → Safe B0 W' b := fun b hb he => ⟨hb.1, by rw [hrB]; exact hb.2.1, hb.2.2.same he⟩
  have hab : W'.heap[ab]? = W.heap[ab]? := by
    obtain ⟨cs, hc⟩ := h.ta
    refine hsame ab h.sa.2.2.lt (fun e => ?_) (fun e => ?_)
    · obtain ⟨cur, hcur⟩ := h.box.boxCells
      rw [← e, hc] at hcur
      simp at hcur
    · obtain ⟨-, -, cur, hcur⟩ := h.box.rowCells ab e.symm
      rw [hc] at hcur
      simp at hcur
  have hm : ∀ b, b < W.heap.size → (b < K ∧ Safe B0 W b) → b < K ∧ Safe B0 W' b := fun b _ hb => ⟨hb.1, hsafe b hb.2 (hlow b hb.1)⟩
  have hA : Agree (fun b => b < K ∧ Safe B0 W b) W W' := fun b hb _ => hlow b hb.1
  have hcell : ∀ {b off : Nat} {v : Value}, W'.heap[b]? = W.heap[b]? → W.cell? ⟨b, off, none⟩ = some v → W'.cell? ⟨b, off, none⟩ = some v := fun he hc => (World.cell?_of_block (w := W) he).trans hc
  refine ⟨⟨⟨Nat.lt_of_lt_of_le h.row.1 hsz, fun r hr => by rw [hrB] at hr; exact Nat.lt_of_lt_of_le (h.row.2 r hr) hsz⟩, Nat.le_trans h.kle hsz, hcell (hlow _ h.ss.1) h.fcs, ⟨h.ss.1, hsafe _ h.ss.2 (hlow _ h.ss.1)⟩, hcell (hlow _ h.fsg.1) h.fcg, ⟨h.fsg.1, hsafe _ h.fsg.2 (hlow _ h.fsg.1)⟩,
    hcell hab h.ca0, hcell hab h.ca1, by obtain ⟨cs, hc⟩ := h.ta; exact ⟨cs, hab.trans hc⟩, hsafe _ h.sa hab, hbox, h.kL, ⟨h.sL.1, by rw [hrB]; exact h.sL.2.1, ?_⟩, fun r hr => ?_, h.sig.mono hm hA, h.giv.mono hm hA, h.prf.mono hm hA⟩, hrB⟩
  · obtain ⟨cur, hc⟩ := hbox.boxCells
    exact ⟨_, hc, rfl⟩
  · have hcells : CellsAt W' r := by obtain ⟨-, -, cur, hc⟩ := hbox.rowCells r hr; exact ⟨_, hc, rfl⟩
    rcases hrow with e | ⟨k, e, hk⟩
    · rw [e] at hr
      have hs := h.sR r hr
      exact ⟨hs.1, by rw [hrB]; exact hs.2.1, hcells⟩
    · rw [e] at hr
      cases hr
      exact ⟨by have := h.row.1; omega, fun e2 => by rw [hrB] at e2; have := h.row.2 _ e2.symm; omega, hcells⟩
end
theorem SI.more {K B0 L0 sb gb pb ab : Nat} {a1 ag ap : Option Addr} {c1 cg cp : Nat} {s : Sg} {g : List (List Int)} {p : List Stp} {acc acc' : List (List Int)} {W W2 W3 : World} {J : List Td → World → Prop} {pre : List Td}
    (hab : ∀ pre W W' row, J pre W → W.grownBy W' row → (∀ r, row = some r → K ≤ r ∧ ∃ o : Obj, W.heap[r]? = some o ∧ Rw B0 W r o) → J pre W')
    (h : SI K B0 L0 sb gb pb ab a1 ag ap c1 cg cp s g p acc W) (hJ : J pre W) {v : Value} (hg : W.grownBy W2 v.ownBlock) (hg3 : W2.grownBy W3 (some L0)) (hrB : rowOf L0 W = v.ownBlock) (hv2 : W2.heap[L0]? = some (.cells #[v] 24 (0, 0))) (hbox : TBox W3 L0 K acc')
    (hrow : rowOf L0 W3 = v.ownBlock ∨ ∃ k, rowOf L0 W3 = some k ∧ W.heap.size ≤ k) : SI K B0 L0 sb gb pb ab a1 ag ap c1 cg cp s g p acc' W3 ∧ J pre W3 := by
  have hB2 : rowOf B0 W2 = rowOf B0 W := rowOf_same (hg.block B0 h.row.1 (fun e => (h.sR B0 (hrB.trans e.symm)).1 rfl))
  have hJ2 := hab pre W W2 v.ownBlock hJ hg (fun r e => by
    have e2 := hrB.trans e
    obtain ⟨g1, g2, cur, g3⟩ := h.box.rowCells r e2
    have hs := h.sR r e2
    exact ⟨g1, _, g3, cur, _, rfl, by decide, hs.1, hs.2.1⟩)
  have hJ3 := hab pre W2 W3 (some L0) hJ2 hg3 (fun r e => by
    cases e
    exact ⟨h.kL, _, hv2, _, _, rfl, by decide, h.sL.1, by rw [hB2]; exact h.sL.2.1⟩)
  refine ⟨(h.pushed (Nat.le_trans hg.size hg3.size) (fun b hb h1 h2 => ?_) hbox (by rw [hrB]; exact hrow)).1, hJ3⟩
  exact (hg3.block b (Nat.lt_of_lt_of_le hb hg.size) (fun e => h1 (by injection e))).trans (hg.block b hb (by rw [← hrB]; exact h2))
def stRel (K B0 L0 sb gb pb ab : Nat) (a1 ag ap : Option Addr) (c1 cg cp : Nat) (s : Sg) (g : List (List Int)) (p : List Stp) (J : List Td → World → Prop) (i : Value) (wr : World) : Prop :=
  ∃ (k : Nat) (acc : List (List Int)) (pre : List Td), i = .int .i64 k ∧ k ≤ p.length ∧ pre.map Td.pt ++ toldL s g (p.drop k) acc = toldL s g p [] ∧ J pre wr ∧ SI K B0 L0 sb gb pb ab a1 ag ap c1 cg cp s g p acc wr ∧ acc.length = k ∧ pre.length = k ∧ ∀ t ∈ acc, okT s t = true
set_option maxRecDepth 100000 in
set_option maxHeartbeats 8000000 in
theorem steps1_in (n l sb gb pb B0 : Nat) (a1 ag ap : Option Addr) (c1 cg cp : Nat) (s : Sg) (g : List (List Int)) (p : List Stp) (J Jx : List Td → World → Prop) (Wst : World)
    (hab : ∀ pre W W' row, J pre W → W.grownBy W' row → (∀ r, row = some r → Wst.heap.size ≤ r ∧ ∃ o : Obj, W.heap[r]? = some o ∧ Rw B0 W r o) → J pre W')
    (hY : ∀ m pre x W, J pre W → TdR x W → pre.length < p.length → YieldAt Fence.wide m Tryd.prog l x.enc W fun e W' => (e = .returned (.bool true) ∧ J (pre ++ [x]) W' ∧ Kp B0 W W') ∨ (e = .returned (.bool false) ∧ Jx (pre ++ [x]) W'))
    (hg : ∀ t ∈ g, okT s t = true) (hp : okSteps g.length 0 p = true) (hlp : p.length ≤ 60) (hrow : RowLt B0 Wst) (hcs : Wst.cell? ⟨sb, 0, none⟩ = some (.slice a1 s.length c1)) (hss : Safe B0 Wst sb) (hcg : Wst.cell? ⟨gb, 0, none⟩ = some (.slice ag g.length cg)) (hsg : Safe B0 Wst gb)
    (hcp : Wst.cell? ⟨pb, 0, none⟩ = some (.slice ap p.length cp)) (hsig : Sign (Safe B0 Wst) Wst a1 c1 s) (hgiv : Terms (Safe B0 Wst) Wst ag cg g) (hprf : Steps (Safe B0 Wst) Wst ap cp p) (hJ : J [] Wst) :
    CallsIn Fence.wide n Tryd.prog 85 #[.func (.yield l) #[] #[], .pointer (some ⟨sb, 0, none⟩), .pointer (some ⟨gb, 0, none⟩), .pointer (some ⟨pb, 0, none⟩)] Wst fun e W' => (∃ v, e = .returned v) ∧
      ((∃ xs : List Td, xs.map Td.pt = toldL s g p [] ∧ J xs W') ∨ (∃ pre : List Td, pre.map Td.pt <+: toldL s g p [] ∧ Jx pre W')) := by
  have hro : Fence.wide.round = none := rfl
  obtain ⟨W2, hW2⟩ : ∃ W2, (Wst.alloc (.cells #[.slice none 0 0] 24)).alloc (.cells #[.func (.func 86) #[] #[.pointer (some ⟨sb, 0, none⟩), .pointer (some ⟨gb, 0, none⟩)], .func (.func 88) #[] #[.pointer (some ⟨sb, 0, none⟩), .pointer (some ⟨Wst.heap.size, 0, none⟩)]] 137) = W2 := ⟨_, rfl⟩
  have hb2 : Below Wst.heap.size Wst W2 := by rw [← hW2]; exact below2 Wst _ _
  have hl2 : Leaves B0 Wst W2 := .of_below hrow.1 hb2
  have ca0 : W2.cell? ⟨Wst.heap.size + 1, 0, none⟩ = some (.func (.func 86) #[] #[.pointer (some ⟨sb, 0, none⟩), .pointer (some ⟨gb, 0, none⟩)]) := by rw [← hW2]; clear hW2; go_simp
  have ca1 : W2.cell? ⟨Wst.heap.size + 1, 1, none⟩ = some (.func (.func 88) #[] #[.pointer (some ⟨sb, 0, none⟩), .pointer (some ⟨Wst.heap.size, 0, none⟩)]) := by rw [← hW2]; clear hW2; go_simp
  have cL : W2.cell? ⟨Wst.heap.size, 0, none⟩ = some (.slice none 0 0) := by rw [← hW2]; clear hW2; go_simp
  have hTB : TBox W2 Wst.heap.size Wst.heap.size [] := by rw [← hW2]; exact (TBox.new Wst).below (below1 _ _)
  have hta : W2.heap[Wst.heap.size + 1]? = some (.cells #[.func (.func 86) #[] #[.pointer (some ⟨sb, 0, none⟩), .pointer (some ⟨gb, 0, none⟩)], .func (.func 88) #[] #[.pointer (some ⟨sb, 0, none⟩), .pointer (some ⟨Wst.heap.size, 0, none⟩)]] 137 (0, 0)) := by
    rw [← hW2]
    have := World.alloc_heap_new (Wst.alloc (.cells #[.slice none 0 0] 24)) (.cells #[.func (.func 86) #[] #[.pointer (some ⟨sb, 0, none⟩), .pointer (some ⟨gb, 0, none⟩)], .func (.func 88) #[] #[.pointer (some ⟨sb, 0, none⟩), .pointer (some ⟨Wst.heap.size, 0, none⟩)]] 137)
    rw [World.size_alloc] at this
    exact this
  have hrL : rowOf Wst.heap.size W2 = none := by unfold rowOf; rw [cL]; rfl
  have hm : ∀ b, b < Wst.heap.size → Safe B0 Wst b → b < Wst.heap.size ∧ Safe B0 W2 b := fun b hlt hb => ⟨hlt, hl2.safe hb⟩
  have hSI : SI Wst.heap.size B0 Wst.heap.size sb gb pb (Wst.heap.size + 1) a1 ag ap c1 cg cp s g p [] W2 :=
    ⟨hl2.lt hrow, hb2.size, hl2.cell hss hcs, ⟨hss.2.2.lt, hl2.safe hss⟩, hl2.cell hsg hcg, ⟨hsg.2.2.lt, hl2.safe hsg⟩, ca0, ca1, ⟨_, hta⟩, .fresh hrow hb2 (Nat.le_succ _) (.of_cell ca0), hTB, Nat.le_refl _, .fresh hrow hb2 (Nat.le_refl _) (.of_cell cL), (fun r hr => by rw [hrL] at hr; cases hr),
      hsig.mono hm hl2.agree, hgiv.mono hm hl2.agree, hprf.mono hm hl2.agree⟩
  have hJ2 := hab [] Wst W2 none hJ (Below.grow hb2) (fun r e => by cases e)
  have hpb := cell_later hb2 hcp
  have hst : stRel Wst.heap.size B0 Wst.heap.size sb gb pb (Wst.heap.size + 1) a1 ag ap c1 cg cp s g p J (.int .i64 ((0 : Nat) : Int)) W2 := ⟨0, [], [], rfl, Nat.zero_le _, rfl, hJ2, hSI, rfl, rfl, fun t h => by cases h⟩
  have hstH := Lib.hid hst
  have habH := Lib.hid hab
  have hYH := Lib.hid hY
  have hgH := Lib.hid hg
  have hpH := Lib.hid hp
  have mp := hprf.le
  clear hst hab hY hg hp hrow hcs hss hcg hsg hcp hsig hgiv hprf hJ hb2 hl2 ca0 ca1 cL hTB hta hrL hm hSI hJ2
  refine callsIn_of_wp Tryd.func85 rfl trivial ?_ hro
  simp only [Tryd.ntmps85, List.size_toArray, List.length_cons, List.length_nil, Nat.reduceAdd, Nat.reduceSub, Array.replicate_succ, Array.replicate_zero, List.push_toArray, List.append_toArray, List.nil_append, List.cons_append]
  gi_wp2_with fail
  gi_loopw [16] (fun i wr => stRel Wst.heap.size B0 Wst.heap.size sb gb pb (Wst.heap.size + 1) a1 ag ap c1 cg cp s g p J i wr) (fun i _ => p.length - (intOf i).toNat)
  case atStart => exact hstH.out
  case round =>
    clear hstH hpb
    obtain ⟨k, acc, pre, rfl, hk, hpre, hJ, hS, hka, hkp, hacc⟩ := hrel
    subst hka
    by_cases hlt : acc.length < p.length
    · obtain ⟨bp, op, rfl, -, q0, q1, q2, hr⟩ := hS.prf.stp acc.length hlt
      have hright := okSteps_get p 0 acc.length hlt hpH.out
      have htd := toldL_drop (s := s) (g := g) (l := acc) hlt
      rw [Nat.zero_add] at hright
      obtain ⟨x, hx⟩ : ∃ x, p[acc.length] = x := ⟨_, rfl⟩
      rw [hx] at hright htd q0 q1 q2
      have hlen60 := stepE_len hgH.out hacc hright
      have hokn := fun h => step_okT (l := acc) hgH.out hright h
      obtain ⟨kd, A, Bv⟩ := x
      simp only at q0 q1 q2
      obtain ⟨W1, hW1⟩ : ∃ W, wr.alloc (.cells #[.int .i64 kd, .int .i64 A, .int .i64 Bv] 69) = W := ⟨_, rfl⟩
      have hb1 : Below wr.heap.size wr W1.drew := by rw [← hW1]; exact (below1 wr _).drew
      have x0 : W1.drew.cell? ⟨wr.heap.size, 0, none⟩ = some (.int .i64 kd) := (by rw [← hW1]; clear hW1; go_simp : W1.cell? ⟨wr.heap.size, 0, none⟩ = some (.int .i64 kd))
      have x1 : W1.drew.cell? ⟨wr.heap.size, 1, none⟩ = some (.int .i64 A) := (by rw [← hW1]; clear hW1; go_simp : W1.cell? ⟨wr.heap.size, 1, none⟩ = some (.int .i64 A))
      have x2 : W1.drew.cell? ⟨wr.heap.size, 2, none⟩ = some (.int .i64 Bv) := (by rw [← hW1]; clear hW1; go_simp : W1.cell? ⟨wr.heap.size, 2, none⟩ = some (.int .i64 Bv))
      have hSd := hS.below hb1
      obtain ⟨aL, cL, hcL, hTL⟩ := hSd.box.slice
      obtain ⟨⟨rt, re⟩, hre⟩ : ∃ r, stepE s g acc (kd, A, Bv) = r := ⟨_, rfl⟩
      have hcase : (kd = 1 ∧ Calls Tryd.prog 86 #[.agg #[.int .i64 kd, .int .i64 A, .int .i64 Bv], .pointer (some ⟨sb, 0, none⟩), .pointer (some ⟨gb, 0, none⟩)] W1.drew (retE (rt, re) W1.drew)) ∨
          (kd = 2 ∧ Calls Tryd.prog 88 #[.agg #[.int .i64 kd, .int .i64 A, .int .i64 Bv], .pointer (some ⟨sb, 0, none⟩), .pointer (some ⟨Wst.heap.size, 0, none⟩)] W1.drew (retE (rt, re) W1.drew)) := by
        by_cases h1 : kd = 1
        · left
          subst h1
          obtain ⟨g1, g2, -⟩ := rightB_cite hright rfl
          simp only at g1 g2
          obtain ⟨n1, rfl⟩ := Int.eq_ofNat_of_zero_le g1
          have hn1 : n1 < g.length := by omega
          have hst : stepE s g acc (1, (n1 : Int), Bv) = (canon g[n1], 0) := by
            unfold stepE
            rw [if_pos rfl]
            simp only [Int.toNat_natCast]
            rw [getD_get hn1]
          rw [← hre, hst]
          exact ⟨rfl, cite_any a1 ag c1 cg sb gb n1 Bv s g W1.drew hSd.sig hSd.giv hSd.fcs hSd.fcg hn1 (hgH.out _ (List.getElem_mem hn1))⟩
        · right
          obtain ⟨h2, d1, d2, d3, d4⟩ := rightB_detach hright h1
          simp only at h2 d1 d2 d3 d4
          subst h2
          obtain ⟨n1, rfl⟩ := Int.eq_ofNat_of_zero_le d1
          obtain ⟨m1, rfl⟩ := Int.eq_ofNat_of_zero_le d3
          have hn1 : n1 < acc.length := by omega
          have hm1 : m1 < acc.length := by omega
          have hst : stepE s g acc (2, (n1 : Int), (m1 : Int)) = detE s acc[n1] acc[m1] := by
            unfold stepE
            rw [if_neg h1]
            simp only [Int.toNat_natCast]
            rw [getD_get hn1, getD_get hm1]
          rw [← hre, hst]
          exact ⟨rfl, stepdet_any a1 aL c1 cL sb Wst.heap.size n1 m1 s acc W1.drew hSd.sig hTL hSd.fcs hcL hn1 hm1⟩
      rw [hre] at htd hlen60 hokn
      simp only at htd hlen60 hokn
      have hf0 := hSd.ca0
      have hf1 := hSd.ca1
      have hSdH := Lib.hid hSd
      have hJdH := Lib.hid (habH.out pre wr W1.drew none hJ (Below.grow hb1) (fun r e => by cases e))
      have hpreH := Lib.hid hpre
      have htdH := Lib.hid htd
      have hl60H := Lib.hid hlen60
      have hoknH := Lib.hid hokn
      have haccH := Lib.hid hacc
      clear hS hJ hSd hpre htd hlen60 hokn hacc hTL hcL hright hx hre hr
      have hz0 : IntKind.i64.wrap 0 = 0 := IntWalk.i64_in _ (by omega)
      have hz1 : IntKind.i64.wrap 1 = 1 := IntWalk.i64_in _ (by omega)
      rcases hcase with ⟨rfl, cc⟩ | ⟨rfl, cc⟩
      · have ccH := Lib.hid cc
        clear cc hf1
        gi_wp2
        try rw [hW1]
        refine wpIn_wide.2 ?_
        refine wp_region_held_drew (S := fun w' => w'.cell? ⟨wr.heap.size, 0, none⟩ = some (.int .i64 1) ∧ w'.cell? ⟨wr.heap.size, 1, none⟩ = some (.int .i64 A) ∧ w'.cell? ⟨wr.heap.size, 2, none⟩ = some (.int .i64 Bv) ∧ w'.cell? ⟨Wst.heap.size + 1, 0, none⟩ = some (.func (.func 86) #[] #[.pointer (some ⟨sb, 0, none⟩), .pointer (some ⟨gb, 0, none⟩)])) (by kernel_rfl) ⟨x0, x1, x2, hf0⟩ (fun hS => ?_)
        refine region_take 0 (some 21) (v := ?_) rfl rfl (by kernel_rfl) (by kernel_rfl) (by kernel_rfl) (fun _ _ _ h => h) rfl ?_ hS ?_
        rotate_left
        · (intro w9 hS9; obtain ⟨s91, s92, s93, s94⟩ := hS9; go_simp; try (with_reducible rfl))
        simp only [Act.put, List.setIfInBounds_toArray, List.set_cons_zero, List.set_cons_succ]
        refine region_take 1 (some 22) (v := ?_) rfl rfl (by kernel_rfl) (by kernel_rfl) (by kernel_rfl) (fun _ _ _ h => h) rfl ?_ hS ?_
        rotate_left
        · (intro w9 hS9; obtain ⟨s91, s92, s93, s94⟩ := hS9; go_simp; try (with_reducible rfl))
        simp only [Act.put, List.setIfInBounds_toArray, List.set_cons_zero, List.set_cons_succ]
        refine region_take 2 (some 23) (v := ?_) rfl rfl (by kernel_rfl) (by kernel_rfl) (by kernel_rfl) (fun _ _ _ h => h) rfl ?_ hS ?_
        rotate_left
        · (intro w9 hS9; obtain ⟨s91, s92, s93, s94⟩ := hS9; go_simp; try (with_reducible rfl))
        simp only [Act.put, List.setIfInBounds_toArray, List.set_cons_zero, List.set_cons_succ]
        refine region_take 3 (some 24) (v := ?_) rfl rfl (by kernel_rfl) (by kernel_rfl) (by kernel_rfl) (fun _ _ _ h => h) rfl ?_ hS ?_
        rotate_left
        · (intro w9 hS9; obtain ⟨s91, s92, s93, s94⟩ := hS9; go_simp; try (with_reducible rfl))
        simp only [Act.put, List.setIfInBounds_toArray, List.set_cons_zero, List.set_cons_succ]
        refine region_take 4 (some 25) (v := ?_) rfl rfl (by kernel_rfl) (by kernel_rfl) (by kernel_rfl) (fun _ _ _ h => h) rfl ?_ hS ?_
        rotate_left
        · (intro w9 hS9; obtain ⟨s91, s92, s93, s94⟩ := hS9; go_simp; try (with_reducible rfl))
        simp only [Act.put, List.setIfInBounds_toArray, List.set_cons_zero, List.set_cons_succ]
        refine region_take 5 (some 26) (v := ?_) rfl rfl (by kernel_rfl) (by kernel_rfl) (by kernel_rfl) (fun _ _ _ h => h) rfl ?_ hS ?_
        rotate_left
        · (intro w9 hS9; obtain ⟨s91, s92, s93, s94⟩ := hS9; go_simp; try (with_reducible rfl))
        simp only [Act.put, List.setIfInBounds_toArray, List.set_cons_zero, List.set_cons_succ]
        refine region_call 6 rfl (by kernel_rfl) (fun K hK => ?_)
        go_simp
        (with_reducible refine ccH.out.mono ?_)
        rintro e w8 ⟨v, rfl, ho, hb8⟩
        refine hK.out _ _ ⟨cell_later hb8 x0, cell_later hb8 x1, cell_later hb8 x2, cell_later hb8 hf0⟩ ?_
        clear hS hK
        intro hS
        refine region_take 7 (some 20) (v := ?_) rfl rfl (by kernel_rfl) (by kernel_rfl) (by kernel_rfl) (fun _ _ _ h => h) rfl ?_ hS ?_
        rotate_left
        · (intro w9 hS9; obtain ⟨s91, s92, s93, s94⟩ := hS9; go_simp; try (with_reducible rfl))
        simp only [Act.put, List.setIfInBounds_toArray, List.set_cons_zero, List.set_cons_succ]
        refine region_take 8 (some 28) (v := ?_) rfl rfl (by kernel_rfl) (by kernel_rfl) (by kernel_rfl) (fun _ _ _ h => h) rfl ?_ hS ?_
        rotate_left
        · (intro w9 hS9; obtain ⟨s91, s92, s93, s94⟩ := hS9; go_simp; try (with_reducible rfl))
        simp only [Act.put, List.setIfInBounds_toArray, List.set_cons_zero, List.set_cons_succ]
        refine region_take 9 (some 29) (v := ?_) rfl rfl (by kernel_rfl) (by kernel_rfl) (by kernel_rfl) (fun _ _ _ h => h) rfl ?_ hS ?_
        rotate_left
        · (intro w9 hS9; obtain ⟨s91, s92, s93, s94⟩ := hS9; go_simp; try (with_reducible rfl))
        simp only [Act.put, List.setIfInBounds_toArray, List.set_cons_zero, List.set_cons_succ]
        refine region_take 10 (some 9) (v := ?_) rfl rfl (by kernel_rfl) (by kernel_rfl) (by kernel_rfl) (fun _ _ _ h => h) rfl ?_ hS ?_
        rotate_left
        · (intro w9 hS9; obtain ⟨s91, s92, s93, s94⟩ := hS9; go_simp; try (with_reducible rfl))
        simp only [Act.put, List.setIfInBounds_toArray, List.set_cons_zero, List.set_cons_succ]
        refine region_take 11 (some 10) (v := ?_) rfl rfl (by kernel_rfl) (by kernel_rfl) (by kernel_rfl) (fun _ _ _ h => h) rfl ?_ hS ?_
        rotate_left
        · (intro w9 hS9; obtain ⟨s91, s92, s93, s94⟩ := hS9; go_simp; try (with_reducible rfl))
        simp only [Act.put, List.setIfInBounds_toArray, List.set_cons_zero, List.set_cons_succ]
        refine wpAnyH_done (by kernel_rfl) ?_ _
        clear hS
        have hS8 := hSdH.out.below hb8
        have hJ8 := habH.out pre W1.drew w8 none hJdH.out (Below.grow hb8) (fun r e => by cases e)
        obtain ⟨a4, c4, rfl, hI4⟩ := OwnI.intsB ho
        simp only at hI4
        obtain ⟨vL, a', cap, W9, k1, k2, k3, k4, k5, k6, k7, k8, k9, k10, k11⟩ := hS8.box.push hS8.kle (.refl _ _) hI4 (by omega)
        obtain ⟨hS10, hJ10⟩ := SI.more habH.out hS8 hJ8 k6.out k7.out k8.out k9.out k5.out k11.out
        have hR10 : TdR ⟨a4, c4, rt, re⟩ (W9.setCell ⟨Wst.heap.size, 0, none⟩ (.slice a' (acc.length + 1) cap)) := ⟨hI4.intKeep k10.out, hl60H.out⟩
        have hy0 := hYH.out (n - 1) pre ⟨a4, c4, rt, re⟩ _ hJ10 hR10 (by omega)
        obtain ⟨fn, tmps, assign, body, hy, hR⟩ := hy0
        dsimp only [Td.enc] at hy
        have k1 := k1.out
        have k2 := k2.out
        have k3 := k3.out
        have k4 := k4.out
        have hS10H := Lib.hid hS10
        have hRH := Lib.hid hR
        clear hS10 hR hR10 hJ10 hJ8 hS8 k5 k6 k7 k8 k9 k10 k11 hI4 ho hb8
        gi_wp2_with (refine wpListIn_append_run rfl (.tmp 30) (.tmp 32) 24 rfl rfl rfl k2 ?_)
        refine ⟨fun h => (by cases h), ?_⟩
        refine hRH.out.mono ?_
        clear hy k1 k2 k3 k4
        rintro e W11 (⟨rfl, hJ1, hk1⟩ | ⟨rfl, hJx1⟩)
        · by_cases hr0 : re = 0
          · subst hr0
            have hst : stRel Wst.heap.size B0 Wst.heap.size sb gb pb (Wst.heap.size + 1) a1 ag (some ⟨bp, op, none⟩) c1 cg cp s g p J (.int .i64 ((acc.length + 1 : Nat) : Int)) W11 := by
              refine ⟨acc.length + 1, acc ++ [rt], pre ++ [⟨a4, c4, rt, 0⟩], rfl, by omega, ?_, hJ1, hS10H.out.keep hk1.1 hk1.2, by simp, by simp [hkp], fun t ht => ?_⟩
              · have h1 := hpreH.out
                rw [htdH.out, if_pos rfl] at h1
                rw [List.map_append, List.append_assoc, ← h1]; rfl
              · rcases List.mem_append.1 ht with h2 | h2
                · exact haccH.out t h2
                · rw [List.mem_singleton] at h2; rw [h2]; exact hoknH.out rfl
            have hstH := Lib.hid hst
            clear hst hJ1 hk1
            gi_wp2
            go_roundw
            case rel => exact hstH.out
            case measure => simp [intOf]; omega
          · have hrb : (re != 0) = true := by simpa using hr0
            have hfin : ∃ xs : List Td, xs.map Td.pt = toldL s g p [] ∧ J xs W11 := by
              refine ⟨pre ++ [⟨a4, c4, rt, re⟩], ?_, hJ1⟩
              have h1 := hpreH.out
              rw [htdH.out, if_neg hr0] at h1
              rw [List.map_append, ← h1]; rfl
            have hfinH := Lib.hid hfin
            clear hfin hJ1 hk1 hr0
            gi_wp2
            try simp only [Exit.inBlock, Exit.then]
            refine bodyPost_ret (results_none rfl _ _ _) rfl ?_
            exact ⟨⟨_, rfl⟩, .inl hfinH.out⟩
        · have hpf : (pre ++ [(⟨a4, c4, rt, re⟩ : Td)]).map Td.pt <+: toldL s g p [] := by
            have h1 := hpreH.out
            rw [htdH.out] at h1
            rw [← h1, List.map_append]
            exact ⟨_, by rw [List.append_assoc]; rfl⟩
          have hpfH := Lib.hid hpf
          clear hpf
          gi_wp2
          try simp only [Exit.inBlock, Exit.then]
          refine bodyPost_ret (results_none rfl _ _ _) rfl ?_
          exact ⟨⟨_, rfl⟩, .inr ⟨_, hpfH.out, hJx1⟩⟩
      · have ccH := Lib.hid cc
        clear cc hf0
        gi_wp2
        try rw [hW1]
        refine wpIn_wide.2 ?_
        refine wp_region_held_drew (S := fun w' => w'.cell? ⟨wr.heap.size, 0, none⟩ = some (.int .i64 2) ∧ w'.cell? ⟨wr.heap.size, 1, none⟩ = some (.int .i64 A) ∧ w'.cell? ⟨wr.heap.size, 2, none⟩ = some (.int .i64 Bv) ∧ w'.cell? ⟨Wst.heap.size + 1, 1, none⟩ = some (.func (.func 88) #[] #[.pointer (some ⟨sb, 0, none⟩), .pointer (some ⟨Wst.heap.size, 0, none⟩)])) (by kernel_rfl) ⟨x0, x1, x2, hf1⟩ (fun hS => ?_)
        refine region_take 0 (some 21) (v := ?_) rfl rfl (by kernel_rfl) (by kernel_rfl) (by kernel_rfl) (fun _ _ _ h => h) rfl ?_ hS ?_
        rotate_left
        · (intro w9 hS9; obtain ⟨s91, s92, s93, s94⟩ := hS9; go_simp; try (with_reducible rfl))
        simp only [Act.put, List.setIfInBounds_toArray, List.set_cons_zero, List.set_cons_succ]
        refine region_take 1 (some 22) (v := ?_) rfl rfl (by kernel_rfl) (by kernel_rfl) (by kernel_rfl) (fun _ _ _ h => h) rfl ?_ hS ?_
        rotate_left
        · (intro w9 hS9; obtain ⟨s91, s92, s93, s94⟩ := hS9; go_simp; try (with_reducible rfl))
        simp only [Act.put, List.setIfInBounds_toArray, List.set_cons_zero, List.set_cons_succ]
        refine region_take 2 (some 23) (v := ?_) rfl rfl (by kernel_rfl) (by kernel_rfl) (by kernel_rfl) (fun _ _ _ h => h) rfl ?_ hS ?_
        rotate_left
        · (intro w9 hS9; obtain ⟨s91, s92, s93, s94⟩ := hS9; go_simp; try (with_reducible rfl))
        simp only [Act.put, List.setIfInBounds_toArray, List.set_cons_zero, List.set_cons_succ]
        refine region_take 3 (some 24) (v := ?_) rfl rfl (by kernel_rfl) (by kernel_rfl) (by kernel_rfl) (fun _ _ _ h => h) rfl ?_ hS ?_
        rotate_left
        · (intro w9 hS9; obtain ⟨s91, s92, s93, s94⟩ := hS9; go_simp; try (with_reducible rfl))
        simp only [Act.put, List.setIfInBounds_toArray, List.set_cons_zero, List.set_cons_succ]
        refine region_take 4 (some 25) (v := ?_) rfl rfl (by kernel_rfl) (by kernel_rfl) (by kernel_rfl) (fun _ _ _ h => h) rfl ?_ hS ?_
        rotate_left
        · (intro w9 hS9; obtain ⟨s91, s92, s93, s94⟩ := hS9; go_simp; try (with_reducible rfl))
        simp only [Act.put, List.setIfInBounds_toArray, List.set_cons_zero, List.set_cons_succ]
        refine region_take 5 (some 26) (v := ?_) rfl rfl (by kernel_rfl) (by kernel_rfl) (by kernel_rfl) (fun _ _ _ h => h) rfl ?_ hS ?_
        rotate_left
        · (intro w9 hS9; obtain ⟨s91, s92, s93, s94⟩ := hS9; go_simp; try (with_reducible rfl))
        simp only [Act.put, List.setIfInBounds_toArray, List.set_cons_zero, List.set_cons_succ]
        refine region_call 6 rfl (by kernel_rfl) (fun K hK => ?_)
        go_simp
        (with_reducible refine ccH.out.mono ?_)
        rintro e w8 ⟨v, rfl, ho, hb8⟩
        refine hK.out _ _ ⟨cell_later hb8 x0, cell_later hb8 x1, cell_later hb8 x2, cell_later hb8 hf1⟩ ?_
        clear hS hK
        intro hS
        refine region_take 7 (some 20) (v := ?_) rfl rfl (by kernel_rfl) (by kernel_rfl) (by kernel_rfl) (fun _ _ _ h => h) rfl ?_ hS ?_
        rotate_left
        · (intro w9 hS9; obtain ⟨s91, s92, s93, s94⟩ := hS9; go_simp; try (with_reducible rfl))
        simp only [Act.put, List.setIfInBounds_toArray, List.set_cons_zero, List.set_cons_succ]
        refine region_take 8 (some 28) (v := ?_) rfl rfl (by kernel_rfl) (by kernel_rfl) (by kernel_rfl) (fun _ _ _ h => h) rfl ?_ hS ?_
        rotate_left
        · (intro w9 hS9; obtain ⟨s91, s92, s93, s94⟩ := hS9; go_simp; try (with_reducible rfl))
        simp only [Act.put, List.setIfInBounds_toArray, List.set_cons_zero, List.set_cons_succ]
        refine region_take 9 (some 29) (v := ?_) rfl rfl (by kernel_rfl) (by kernel_rfl) (by kernel_rfl) (fun _ _ _ h => h) rfl ?_ hS ?_
        rotate_left
        · (intro w9 hS9; obtain ⟨s91, s92, s93, s94⟩ := hS9; go_simp; try (with_reducible rfl))
        simp only [Act.put, List.setIfInBounds_toArray, List.set_cons_zero, List.set_cons_succ]
        refine region_take 10 (some 9) (v := ?_) rfl rfl (by kernel_rfl) (by kernel_rfl) (by kernel_rfl) (fun _ _ _ h => h) rfl ?_ hS ?_
        rotate_left
        · (intro w9 hS9; obtain ⟨s91, s92, s93, s94⟩ := hS9; go_simp; try (with_reducible rfl))
        simp only [Act.put, List.setIfInBounds_toArray, List.set_cons_zero, List.set_cons_succ]
        refine region_take 11 (some 10) (v := ?_) rfl rfl (by kernel_rfl) (by kernel_rfl) (by kernel_rfl) (fun _ _ _ h => h) rfl ?_ hS ?_
        rotate_left
        · (intro w9 hS9; obtain ⟨s91, s92, s93, s94⟩ := hS9; go_simp; try (with_reducible rfl))
        simp only [Act.put, List.setIfInBounds_toArray, List.set_cons_zero, List.set_cons_succ]
        refine wpAnyH_done (by kernel_rfl) ?_ _
        clear hS
        have hS8 := hSdH.out.below hb8
        have hJ8 := habH.out pre W1.drew w8 none hJdH.out (Below.grow hb8) (fun r e => by cases e)
        obtain ⟨a4, c4, rfl, hI4⟩ := OwnI.intsB ho
        simp only at hI4
        obtain ⟨vL, a', cap, W9, k1, k2, k3, k4, k5, k6, k7, k8, k9, k10, k11⟩ := hS8.box.push hS8.kle (.refl _ _) hI4 (by omega)
        obtain ⟨hS10, hJ10⟩ := SI.more habH.out hS8 hJ8 k6.out k7.out k8.out k9.out k5.out k11.out
        have hR10 : TdR ⟨a4, c4, rt, re⟩ (W9.setCell ⟨Wst.heap.size, 0, none⟩ (.slice a' (acc.length + 1) cap)) := ⟨hI4.intKeep k10.out, hl60H.out⟩
        have hy0 := hYH.out (n - 1) pre ⟨a4, c4, rt, re⟩ _ hJ10 hR10 (by omega)
        obtain ⟨fn, tmps, assign, body, hy, hR⟩ := hy0
        dsimp only [Td.enc] at hy
        have k1 := k1.out
        have k2 := k2.out
        have k3 := k3.out
        have k4 := k4.out
        have hS10H := Lib.hid hS10
        have hRH := Lib.hid hR
        clear hS10 hR hR10 hJ10 hJ8 hS8 k5 k6 k7 k8 k9 k10 k11 hI4 ho hb8
        gi_wp2_with (refine wpListIn_append_run rfl (.tmp 30) (.tmp 32) 24 rfl rfl rfl k2 ?_)
        refine ⟨fun h => (by cases h), ?_⟩
        refine hRH.out.mono ?_
        clear hy k1 k2 k3 k4
        rintro e W11 (⟨rfl, hJ1, hk1⟩ | ⟨rfl, hJx1⟩)
        · by_cases hr0 : re = 0
          · subst hr0
            have hst : stRel Wst.heap.size B0 Wst.heap.size sb gb pb (Wst.heap.size + 1) a1 ag (some ⟨bp, op, none⟩) c1 cg cp s g p J (.int .i64 ((acc.length + 1 : Nat) : Int)) W11 := by
              refine ⟨acc.length + 1, acc ++ [rt], pre ++ [⟨a4, c4, rt, 0⟩], rfl, by omega, ?_, hJ1, hS10H.out.keep hk1.1 hk1.2, by simp, by simp [hkp], fun t ht => ?_⟩
              · have h1 := hpreH.out
                rw [htdH.out, if_pos rfl] at h1
                rw [List.map_append, List.append_assoc, ← h1]; rfl
              · rcases List.mem_append.1 ht with h2 | h2
                · exact haccH.out t h2
                · rw [List.mem_singleton] at h2; rw [h2]; exact hoknH.out rfl
            have hstH := Lib.hid hst
            clear hst hJ1 hk1
            gi_wp2
            go_roundw
            case rel => exact hstH.out
            case measure => simp [intOf]; omega
          · have hrb : (re != 0) = true := by simpa using hr0
            have hfin : ∃ xs : List Td, xs.map Td.pt = toldL s g p [] ∧ J xs W11 := by
              refine ⟨pre ++ [⟨a4, c4, rt, re⟩], ?_, hJ1⟩
              have h1 := hpreH.out
              rw [htdH.out, if_neg hr0] at h1
              rw [List.map_append, ← h1]; rfl
            have hfinH := Lib.hid hfin
            clear hfin hJ1 hk1 hr0
            gi_wp2
            try simp only [Exit.inBlock, Exit.then]
            refine bodyPost_ret (results_none rfl _ _ _) rfl ?_
            exact ⟨⟨_, rfl⟩, .inl hfinH.out⟩
        · have hpf : (pre ++ [(⟨a4, c4, rt, re⟩ : Td)]).map Td.pt <+: toldL s g p [] := by
            have h1 := hpreH.out
            rw [htdH.out] at h1
            rw [← h1, List.map_append]
            exact ⟨_, by rw [List.append_assoc]; rfl⟩
          have hpfH := Lib.hid hpf
          clear hpf
          gi_wp2
          try simp only [Exit.inBlock, Exit.then]
          refine bodyPost_ret (results_none rfl _ _ _) rfl ?_
          exact ⟨⟨_, rfl⟩, .inr ⟨_, hpfH.out, hJx1⟩⟩
    · have hkl : p.length ≤ acc.length := by omega
      have hfin : ∃ xs : List Td, xs.map Td.pt = toldL s g p [] ∧ J xs wr := by
        refine ⟨pre, ?_, hJ⟩
        have h1 := hpre
        rw [List.drop_of_length_le (by omega), toldL, List.append_nil] at h1
        exact h1
      have hfinH := Lib.hid hfin
      clear hfin hJ hpre hS
      gi_wp2
      go_end0
      exact ⟨⟨_, rfl⟩, .inl hfinH.out⟩
end Go.Proofs.YtgkddhakhapjlaaDoor
