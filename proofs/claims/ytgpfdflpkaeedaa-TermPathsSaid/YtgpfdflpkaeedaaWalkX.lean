/- Walks: Vars: a range over a function. -/
import Derived.Test.YtgpfdflpkaeedaaWalkW
import Derived.RangeFuncBox
import Derived.RangeFuncNested
import Derived.RangeFuncBound
import Derived.RangeFuncCalls
import Derived.RangeFuncLeaves
import Derived.Shelf.Abstract
import Derived.Shelf.RegionOpen
import Derived.OwnWalkIn
import Derived.TacticsInMore
import Derived.LoopNIn
import Derived.LoopIn
import Derived.Maps.AppendAt
namespace Go.Proofs.Ytgpfdflpkaeedaa
open Go Go.RowKit Go.Shelf

attribute [local go_sem] Oper.semAt_some

abbrev I64 := { x : Int // inRange x }
/-- the variables of a list as they come -/
def yl (t : List Int) : List Int := (t.filter (fun x => decide (x < 0))).map vnum
theorem yl_neg {t : List Int} {k : Nat} (hk : k < t.length) (hx : t[k] < 0) : yl (t.take (k + 1)) = yl (t.take k) ++ [vnum t[k]] := by
  rw [List.take_succ_eq_append_getElem hk]
  unfold yl
  rw [List.filter_append, List.map_append, List.filter_cons_of_pos (by simpa using hx)]; rfl
theorem yl_pos {t : List Int} {k : Nat} (hk : k < t.length) (hx : ¬ t[k] < 0) : yl (t.take (k + 1)) = yl (t.take k) := by
  rw [List.take_succ_eq_append_getElem hk]
  unfold yl
  rw [List.filter_append, List.map_append, List.filter_cons_of_neg (by simpa using hx)]; simp
theorem yl_len (t : List Int) : (yl t).length ≤ t.length := by unfold yl; rw [List.length_map]; exact List.length_filter_le _ _

set_option maxRecDepth 100000 in
set_option maxHeartbeats 2000000 in
theorem variables1_in {S : Nat → Prop} (F : Fence) (n : Nat) (hf : F.fn 83) (hro : F.round = none) (hn : 1 ≤ n) (l Bs n₀ : Nat) (a : Option Addr) (c : Nat) (t : List Int) (hS : ∀ b, S b → b < n₀) (htm : tame t) (J Jx : List I64 → World → Prop)
    (hY : ∀ pre x W, J pre W → pre.length < t.length → YieldAt F (n - 1) Try.prog l #[.int .i64 x.1] W fun e W' =>
      (e = .returned (.bool true) ∧ J (pre ++ [x]) W' ∧ Below n₀ W W') ∨ (e = .returned (.bool false) ∧ Jx (pre ++ [x]) W'))
    (W : World) (hBs : W.cell? ⟨Bs, 0, none⟩ = some (.slice a t.length c)) (ht : Ints S W a c t) (h0 : J [] W) :
    CallsIn F n Try.prog 83 #[.func (.yield l) #[] #[], .pointer (some ⟨Bs, 0, none⟩)] W fun e W' => (∃ v, e = .returned v) ∧
      ((∃ ys : List I64, ys.map (·.1) = yl t ∧ J ys W') ∨ (∃ pre : List I64, True ∧ Jx pre W')) := by
  have m := ht.le
  refine callsIn_of_wp Try.func83 rfl hf ?_ hro
  simp only [Try.ntmps83, List.size_toArray, List.length_cons, List.length_nil, Nat.reduceAdd, Nat.reduceSub, Array.replicate_succ, Array.replicate_zero, List.push_toArray, List.append_toArray, List.nil_append, List.cons_append]
  gi_wp2
  gi_loopw [7] (fun i wr => ∃ (k : Nat) (pre : List I64), k ≤ t.length ∧ i = .int .i64 k ∧ pre.map (·.1) = yl (t.take k) ∧ J pre wr ∧ Below n₀ W wr)
    (fun i _ => t.length - (intOf i).toNat)
  case atStart => exact ⟨0, [], Nat.zero_le _, rfl, rfl, h0, Below.refl _ _⟩
  case round =>
    obtain ⟨k, pre, hk, rfl, hpre, hJs, hB⟩ := hrel
    have hpreH := Lib.hid hpre
    by_cases hlt : k < t.length
    · obtain ⟨b, o, rfl, hSb, q, hrg⟩ := ht.int k hlt
      have q' := (hB.cell (p := ⟨b, o + k, none⟩) (hS b hSb)).trans q
      have hp1 : pre.length < t.length := by
        have := congrArg List.length hpre
        rw [List.length_map] at this
        have h2 := yl_len (t.take k)
        rw [List.length_take] at h2
        omega
      have htk := htm t[k] (List.getElem_mem hlt)
      obtain ⟨x, hx⟩ : ∃ x, t[k] = x := ⟨_, rfl⟩
      by_cases hneg : x < 0
      · have hyn := Lib.hid (yl_neg hlt (by rw [hx]; exact hneg))
        rw [hx] at q' htk
        have hxr : inRange (-x - 1) := by clear hx hyn; unfold inRange; omega
        have hYk := hY pre ⟨-x - 1, hxr⟩ wr hJs hp1
        obtain ⟨fn, tmps, assign, body, hy, hR⟩ := hYk
        dsimp only at hy
        have hxH := Lib.hid hx
        clear hpre ht q hx hp1 hrg
        gi_wp2
        refine hR.mono ?_
        rintro e W3 (⟨rfl, hJ3, hk3⟩ | ⟨rfl, hJx3⟩)
        · gi_wp2
          go_roundw
          case rel => exact ⟨k + 1, _, by omega, by simp, by rw [hyn.out, List.map_append, hpreH.out, hxH.out]; rfl, hJ3, hB.trans hk3⟩
          case measure => simp [intOf]; omega
        · gi_wp2
          refine bodyPost_ret (results_none rfl _ _ _) rfl ?_
          exact ⟨⟨_, rfl⟩, .inr ⟨_, trivial, hJx3⟩⟩
      · have hyn := Lib.hid (yl_pos hlt (by rw [hx]; exact hneg))
        rw [hx] at q' htk
        clear hpre ht q hx hp1 hrg hY
        gi_wp2
        all_goals try (refine ⟨fun _ h => (by cases h), ?_⟩; gi_wp2)
        go_roundw
        case rel => exact ⟨k + 1, pre, by omega, by simp, by rw [hyn.out]; exact hpreH.out, hJs, hB⟩
        case measure => simp [intOf]; omega
    · have hall : yl (t.take k) = yl t := by rw [List.take_of_length_le (by omega)]
      rw [hall] at hpre
      have hpH := Lib.hid hpre
      clear hpre hpreH ht hY
      gi_wp2
      go_end0
      exact ⟨⟨_, rfl⟩, .inl ⟨_, hpH.out, hJs⟩⟩

set_option maxHeartbeats 1000000 in
theorem variables_in (F : Fence) (n : Nat) (hf : F.fn 60) (hro : F.round = none) (a : Option Addr) (len c : Nat) (w : World) :
    CallsIn F n Try.prog 60 #[.slice a len c] w fun e w' => e = .returned (.func (.func 83) #[] #[.pointer (some ⟨w.heap.size, 0, none⟩)]) ∧ w' = w.alloc (.cells #[.slice a len c] 25) := by
  refine callsIn_of_wp Try.func60 rfl hf ?_ hro
  simp only [Try.ntmps60, List.size_toArray, List.length_cons, List.length_nil, Nat.reduceAdd, Nat.reduceSub, Array.replicate_succ, Array.replicate_zero, List.push_toArray, List.append_toArray, List.nil_append, List.cons_append]
  gi_wp2
  go_ret
  exact ⟨rfl, rfl⟩
theorem variables_stops {S : Nat → Prop} (F : Fence) (n : Nat) (hf : F.fn 83) (hro : F.round = none) (hn : 1 ≤ n) (Bs n₀ : Nat) (a : Option Addr) (c : Nat) (t : List Int) (w : World) (hBs : Bs < w.heap.size) (hn₀ : n₀ ≤ w.heap.size) (hS : ∀ b, S b → b < n₀) (htm : tame t)
    (hc : w.cell? ⟨Bs, 0, none⟩ = some (.slice a t.length c)) (ht : Ints S w a c t) :
    SeqStopsK F n Try.prog 83 #[.pointer (some ⟨Bs, 0, none⟩)] (fun x : I64 => #[Value.int .i64 x.1]) (Below n₀) (fun ys => ys.map (·.1) = yl t) (fun _ => True) t.length w := fun l J Jx W hW _ _ hY h0 =>
  variables1_in F n hf hro hn l Bs n₀ a c t hS htm J Jx hY W ((hW.cell (p := ⟨Bs, 0, none⟩) hBs).trans hc) (ht.same (.of_below hW (fun b hb _ => Nat.lt_of_lt_of_le (hS b hb) hn₀))) h0

/-- each number once -/
def ddA (acc : List Int) (x : Int) : List Int := if x ∈ acc then acc else acc ++ [x]
def ddp (l : List I64) : List Int := (l.map (·.1)).foldl ddA []
theorem ddp_snoc (l : List I64) (x : I64) : ddp (l ++ [x]) = ddA (ddp l) x.1 := by simp [ddp]
theorem ddA_len (acc : List Int) (x : Int) : (ddA acc x).length ≤ acc.length + 1 := by unfold ddA; split <;> simp
theorem ddp_len (l : List I64) : (ddp l).length ≤ l.length := by
  have : ∀ (m : List Int) (acc : List Int), (m.foldl ddA acc).length ≤ acc.length + m.length := by
    intro m
    induction m with
    | nil => intro acc; simp
    | cons x r ih => intro acc; rw [List.foldl_cons]; have := ih (ddA acc x); have := ddA_len acc x; simp; omega
  have := this (l.map (·.1)) []
  simpa [ddp] using this
theorem foldl_yl : ∀ (t : List Int) (acc : List Int), (yl t).foldl ddA (acc.map vnum) = (t.foldl addV acc).map vnum
  | [], acc => rfl
  | x :: r, acc => by
    by_cases hx : x < 0
    · have h1 : yl (x :: r) = vnum x :: yl r := by unfold yl; rw [List.filter_cons_of_pos (by simpa using hx)]; rfl
      rw [h1, List.foldl_cons, List.foldl_cons]
      have h2 : ddA (acc.map vnum) (vnum x) = (addV acc x).map vnum := by
        unfold ddA addV
        by_cases hm : x ∈ acc
        · rw [if_pos (mem_map_vnum.2 hm), if_neg (fun e => e.2 hm)]
        · rw [if_neg (fun e => hm (mem_map_vnum.1 e)), if_pos ⟨hx, hm⟩, List.map_append]; rfl
      rw [h2]; exact foldl_yl r _
    · have h1 : yl (x :: r) = yl r := by unfold yl; rw [List.filter_cons_of_neg (by simpa using hx)]
      have h2 : addV acc x = acc := by unfold addV; rw [if_neg (fun e => hx e.1)]
      rw [h1, List.foldl_cons, h2]; exact foldl_yl r _
theorem ddp_yl {ys : List I64} {t : List Int} (h : ys.map (·.1) = yl t) : ddp ys = varsV t := by
  unfold ddp; rw [h]; exact foldl_yl t []
theorem ddA_range {acc : List Int} {x : Int} (h : ∀ y ∈ acc, inRange y) (hx : inRange x) : ∀ y ∈ ddA acc x, inRange y := by
  intro y hy
  unfold ddA at hy
  split at hy
  · exact h y hy
  · rcases List.mem_append.1 hy with h' | h'
    · exact h y h'
    · simp at h'; rw [h']; exact hx

set_option maxRecDepth 100000 in
set_option maxHeartbeats 4000000 in
theorem Vars_any {S1 S2 : Nat → Prop} (a1 a2 : Option Addr) (c1 c2 : Nat) (s : Sg) (t : List Int) (w : World) (h1 : Sign S1 w a1 c1 s) (h2 : Ints S2 w a2 c2 t) :
    Calls Try.prog 29 #[.slice a1 s.length c1, .slice a2 t.length c2] w (retE (varsE s t) w) := by
  have m2 := h2.le
  have v1 := Valid_any a1 a2 c1 c2 s t w h1 h2
  obtain ⟨x, hx⟩ : ∃ x, okT s t = x := ⟨_, rfl⟩
  rw [hx] at v1
  have v1H := Lib.hid v1
  clear v1
  cases x with
  | false =>
    rw [varsE, errE_no hx]
    clear hx
    refine (callsIn_wide (n := 6)).1 ?_
    refine callsIn_of_wp_marks Try.func29 rfl trivial ?_ rfl
    simp only [Try.ntmps29, List.size_toArray, List.length_cons, List.length_nil, Nat.reduceAdd, Nat.reduceSub, Array.replicate_succ, Array.replicate_zero, List.push_toArray, List.append_toArray, List.nil_append, List.cons_append]
    gi_wp2_with (refine ⟨trivial, ?_⟩; gi_at_call 16; refine (callsIn_wide.2 v1H.out).mono ?_; rintro e w1 ⟨rfl, hb⟩)
    exact ⟨_, results_tmp2 rfl _ _ _, _, rfl, .nil _ _ _ _ _, hb⟩
  | true =>
    have hl60 := (okT_parts hx).2.2.1
    have ht1 := okT_tame hx
    rw [varsE, errE_ok hx]
    clear hx
    obtain ⟨i0, hi, hz0, hz1, hz2⟩ := info_parts infoInt
    have hro : Fence.wide.round = none := rfl
    refine (callsIn_wide (n := 6)).1 ?_
    refine callsIn_of_wp_marks Try.func29 rfl trivial ?_ rfl
    simp only [Try.ntmps29, List.size_toArray, List.length_cons, List.length_nil, Nat.reduceAdd, Nat.reduceSub, Array.replicate_succ, Array.replicate_zero, List.push_toArray, List.append_toArray, List.nil_append, List.cons_append]
    gi_wp2_with (first | (refine ⟨trivial, ?_⟩; gi_at_call 16; refine (callsIn_wide.2 v1H.out).mono ?_; rintro e w1 ⟨rfl, hb⟩) | (refine ⟨trivial, ?_⟩; gi_at_call 60; refine (variables_in Fence.wide _ trivial rfl _ _ _ _).mono ?_; rintro e w' ⟨rfl, rfl⟩))
    have bO := Boxed.new w1 24 (.slice none 0 0)
    have bN := Boxed.new (w1.alloc (.cells #[.slice none 0 0] 24)) 25 (.slice a2 t.length c2)
    rw [World.size_alloc] at bN
    have hB0 : Below w1.heap.size w1 ((w1.alloc (.cells #[.slice none 0 0] 24)).alloc (.cells #[.slice a2 t.length c2] 25)) := below2 _ _ _
    have hI2 := (h2.below hb).lt.below hB0
    clear h1 h2
    refine wpIn_rangeFunc_ownG hro (by omega) (gf := 83) (lb := #[.pointer (some ⟨w1.heap.size + 1, 0, none⟩)]) rfl trivial (enters_of Try.func83 (by kernel_rfl) rfl)
      (variables_stops Fence.wide _ trivial rfl (by omega) (w1.heap.size + 1) w1.heap.size a2 c2 t _ (by simp) (by simp; omega) (fun b hb => hb.2) ht1 bN.cell hI2) belowK_t (belowK_b (by simp; omega)) (Below.refl _ _) (fun _ => rfl)
      (fun pre W => (∃ v, Boxed W w1.heap.size 24 v ∧ W.ownsRow w1.heap.size 3 1 v (ddp pre).length ((ddp pre).map (Value.int .i64)) ∧ (∀ y ∈ ddp pre, inRange y)) ∧ Below w1.heap.size w1 W)
      (fun _ _ _ => False)
      (OwnFrom.and (Own.from (holdsRow_own w1.heap.size w1.heap.size 24 3 1 (fun pre => (ddp pre).length) (fun pre => (ddp pre).map (Value.int .i64)) (fun pre _ => ∀ y ∈ ddp pre, inRange y)) _) (ownFrom_below (Nat.le_refl _) (by simp; omega)))
      (fun _ _ _ _ _ hs _ _ => hs)
      ⟨⟨_, bO.alloc _, World.ownsRow_nil _ _ _ _, fun y hy => by simp [ddp] at hy⟩, hB0⟩
      (fun x => { tmps := #[.slice a1 s.length c1, .slice a2 t.length c2, undef, undef, .slice none 0 0, .int .i64 0, .pointer (some ⟨w1.heap.size, 0, none⟩), .int .i64 x.1, .slice a1 s.length c1, .slice a2 t.length c2, .bool true, .bool false, .slice a2 t.length c2, .func (.func 83) #[] #[.pointer (some ⟨w1.heap.size + 1, 0, none⟩)], .int .i64 x.1, undef, undef, undef, undef, undef, undef, undef, undef, undef], defers := [] }) ?assign ?body ?done ?stop
    case assign =>
      intro l x W K hK
      gi_wp2
      exact hK
    case body =>
      rintro l pre x W ⟨⟨v, hv, hrow, hr⟩, hB⟩ hlt
      have hc := hv.cell
      have hpl := ddp_len pre
      have hml : (ddp pre).length + 1 ≤ maxLen := by unfold maxLen; omega
      obtain ⟨a4, c4, rfl, hI⟩ := OwnI.ints (OwnL.of_row (S := fun _ => False) hrow hr)
      have cc := Contains_any a4 c4 (ddp pre) x.1 W hI
      obtain ⟨L, hL⟩ : ∃ L, ddp pre = L := ⟨_, rfl⟩
      have hsn := ddp_snoc pre x
      have hrn := ddA_range hr x.2
      rw [hL] at cc hrow hr hpl hml hI hc hv hsn hrn
      obtain ⟨x, hxr⟩ := x
      by_cases hm : x ∈ L
      · rw [decide_eq_true hm] at cc
        have ccH := Lib.hid cc
        have hdd : ddA L x = L := if_pos hm
        have hsn' := Lib.hid (hsn.trans hdd)
        clear cc hI hsn hrn hm
        gi_wp2_with (refine ⟨trivial, ?_⟩; gi_at_call 61; refine (CallsIn.inRound l (callsIn_wide.2 ccH.out)).mono ?_; rintro e w' ⟨rfl, rfl⟩)
        exact ⟨KeepsFrom.refl _ _, Below.refl _ _, ⟨_, hv, by rw [hsn'.out]; exact hrow, by rw [hsn'.out]; exact hr⟩, hB⟩
      · rw [decide_eq_false hm] at cc
        have ccH := Lib.hid cc
        have hdd : ddA L x = L ++ [x] := if_neg hm
        rw [show (⟨x, hxr⟩ : I64).1 = x from rfl, hdd] at hrn
        have hsn' := Lib.hid (hsn.trans hdd)
        clear cc hI hsn hm
        gi_wp2_with (first | (refine ⟨trivial, ?_⟩; gi_at_call 61; refine (CallsIn.inRound l (callsIn_wide.2 ccH.out)).mono ?_; rintro e w' ⟨rfl, rfl⟩) | (gi_at_builtin; refine wpListIn_append_own _ rfl _ _ 24 rfl w1.heap.size 3 i0 (.int .i64 0) 1 8 Try.underlying24 hi hz0 hz1 hz2 rfl (by decide) _ _ _ rfl (hrow.alloc _) ⟨W.heap.size, 0, none⟩ 1 1 [.int .i64 x] rfl rfl (cell_one_new _ _ _) (by simp [Value.oneCell']) (by omega) (by omega) (by have := hB.size; simp; omega) ?_; intro v' w9 hown' hgrow _; obtain ⟨g', cap', rfl⟩ := ownsRow_succ hown'; obtain ⟨hv1, hv2, hr2, hk2, hb2⟩ := hv.appended (by decide) hrow hB.size (Nat.le_refl _) hown' hgrow; have hc1 := hv1.cell; have hf1 := hv1.frozen))
        exact ⟨hk2.from _, hb2, ⟨_, hv2, by rw [hsn'.out]; simpa using hr2, by rw [hsn'.out]; exact hrn⟩, hB.trans hb2⟩
    case done =>
      rintro D ys W hD hys ⟨⟨v, hv, hrow, hr⟩, hB⟩ hK
      have hc := hv.cell
      rw [ddp_yl hys] at hrow hr
      gi_wp2
      refine ⟨by simp, .inl ⟨_, _, rfl, run_takeDeferred hK, ?_⟩⟩
      exact ⟨_, results_tmp2 rfl _ _ _, v, rfl, (OwnL.of_row (S := fun _ => False) (ownsRow_putObj hrow _ hK rfl) hr).baseMono hb.size, bcall hb (hB.trans (belowK_b (w := w1) (Nat.le_refl _) W D _ _ (by simp at hD; omega) hK rfl rfl))⟩
    case stop =>
      rintro D c pre W _ _ h _
      exact h.elim
end Go.Proofs.Ytgpfdflpkaeedaa
