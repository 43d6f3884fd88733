/- The proof of a statement, some of its texts joined in build order: part I. -/
import Derived.Test.YtpmnnoopoblpgaaGreatRegS
import Derived.Test.YtpmnnoopoblpgaaGreatMuB
import Derived.Test.YtpmnnoopoblpgaaGreatMath6
import Derived.Test.YtpmnnoopoblpgaaGreatWalkJ
import Derived.Test.YtpmnnoopoblpgaaGreatWalkI
import Derived.RangeFuncBox
import Derived.RangeFuncNested
import Derived.RangeFuncBound
import Derived.RangeFuncCalls
import Derived.RangeFuncLeaves
import Derived.Shelf.Abstract
import Derived.Shelf.RegionOpen
import Derived.OwnWalkIn
import Derived.TacticsInMore
import Derived.LoopNIn
import Derived.LoopIn
import Derived.Maps.AppendAt
import Derived.Test.YtpmnnoopoblpgaaGreatMath8
import Derived.Test.YtpmnnoopoblpgaaGreatRegion
import Derived.Test.YtpmnnoopoblpgaaGreatLeaves
import Derived.Test.YtpmnnoopoblpgaaGreatMath9
import Derived.Test.YtpmnnoopoblpgaaGreatMuA
import Derived.Test.YtpmnnoopoblpgaaGreatRangeG
import Derived.Test.YtpmnnoopoblpgaaGreatBoxList
import Derived.Test.YtpmnnoopoblpgaaGreatRegionIn
/- Walks: At, of both; lists of terms alike; all valid. -/
namespace Go.Proofs.YtpmnnoopoblpgaaGreat
open Go Go.RowKit Go.Maps

end Go.Proofs.YtpmnnoopoblpgaaGreat

/- Walks: Depth of the reference, Vars of the reference. -/
namespace Go.Proofs.YtpmnnoopoblpgaaGreat
open Go Go.RowKit Go.Maps

end Go.Proofs.YtpmnnoopoblpgaaGreat

/- Walks: lists of terms alike. -/
namespace Go.Proofs.YtpmnnoopoblpgaaGreat
open Go Go.RowKit Go.Maps

end Go.Proofs.YtpmnnoopoblpgaaGreat

/- Walks: Counts, of both; Vars of the reference; slices.Contains. -/
namespace Go.Proofs.YtpmnnoopoblpgaaGreat
open Go Go.RowKit Go.Maps

/-! ### Counts -/
end Go.Proofs.YtpmnnoopoblpgaaGreat

/- Walks: Vars: a range over a function. -/
namespace Go.Proofs.YtpmnnoopoblpgaaGreat
open Go Go.RowKit Go.Shelf

attribute [local go_sem] Oper.semAt_some

end Go.Proofs.YtpmnnoopoblpgaaGreat

/- Walks: lists of paths. -/
namespace Go.Proofs.YtpmnnoopoblpgaaGreat
open Go Go.RowKit Go.Maps

abbrev OwnPs (S : Nat → Prop) (w : World) (base : Nat) (v : Value) (l : List (List Int)) : Prop := OwnL (slE intE) S w base 25 v l
section
variable {S : Nat → Prop} {w : World} {base g n cap : Nat} {l : List (List Int)}
theorem OwnPs.ones {xs : List (List Value)} {T : Nat → Prop} (hl : xs.length = l.length) (hx : ∀ i (h1 : i < xs.length) (h2 : i < l.length), (slE intE).R T w xs[i] l[i]) : ∀ x ∈ xs, x.length = 1 := by
 intro x hxm
 obtain ⟨i, hi, rfl⟩ := List.getElem_of_mem hxm
 exact (slE intE).len (hx i hi (by omega))
theorem OwnPs.cell (h : OwnPs S w base (.slice (some ⟨g, 0, none⟩) n cap) l) (hn : n = l.length) (i : Nat) (hi : i < l.length) :
  ∃ a c, w.cell? ⟨g, i, none⟩ = some (.slice a l[i].length c) ∧ Ints (Off S (.slice (some ⟨g, 0, none⟩) n cap)) w a c l[i] ∧ w.frozen? ⟨g, i, none⟩ = false := by
 subst hn
 obtain ⟨xs, ho, hl, hx⟩ := h
 have hi' : i < xs.length := by omega
 obtain ⟨a, c, he, hI⟩ := hx i hi' hi
 have h1 := OwnPs.ones hl hx
 refine ⟨a, c, ?_, hI, ho.frozenAt i⟩
 rw [ho.cellAt i (by show i < l.length * 1; omega)]
 have := flatten_get h1 i hi' 0 (by rw [he]; simp)
 rw [Nat.mul_one, Nat.add_zero] at this
 rw [this]; simp [he]
theorem OwnPs.set (h : OwnPs S w base (.slice (some ⟨g, 0, none⟩) n cap) l) (hn : n = l.length) (i : Nat) {a : Option Addr} {c : Nat} {u : List Int} (hu : Ints (Off S (.slice (some ⟨g, 0, none⟩) n cap)) w a c u) :
  OwnPs S (w.setCell ⟨g, i, none⟩ (.slice a u.length c)) base (.slice (some ⟨g, 0, none⟩) n cap) (l.set i u) ∧ w.grownBy (w.setCell ⟨g, i, none⟩ (.slice a u.length c)) (some g) := by
 subst hn
 obtain ⟨xs, ho, hl, hx⟩ := h
 have h1 := OwnPs.ones hl hx
 obtain ⟨r1, r2⟩ := ho.stored i (.slice a u.length c)
 have hA : Agree (Off S (.slice (some ⟨g, 0, none⟩) l.length cap)) w (w.setCell ⟨g, i, none⟩ (.slice a u.length c)) := .of_grown r2 (fun b hb e => hb.2 (by rw [e]; rfl))
 refine ⟨⟨xs.set i [.slice a u.length c], by rw [List.length_set, flatten_set1 h1]; exact r1, by simp [hl], fun j h1 h2 => ?_⟩, r2⟩
 by_cases hj : i = j
 ·subst hj
  simp only [List.getElem_set_self]
  exact (slE intE).mono (w := w) (S := Off S (.slice (some ⟨g, 0, none⟩) l.length cap)) ⟨a, c, rfl, hu⟩ (fun _ _ h => h) hA
 ·rw [List.getElem_set_ne hj, List.getElem_set_ne hj]
  exact (slE intE).mono (hx j (by simpa using h1) (by simpa using h2)) (fun _ _ h => h) hA
end

end Go.Proofs.YtpmnnoopoblpgaaGreat

/- Walks: Ways, Paths of the reference. -/
namespace Go.Proofs.YtpmnnoopoblpgaaGreat
open Go Go.RowKit Go.Maps

theorem lit1 {w : World} (m : Int) (hm : inRange m) : Ints (fun b => b = w.heap.size) (w.alloc (.cells #[.int .i64 m] 3)) (some ⟨w.heap.size, 0, none⟩) 1 [m] := by
 have := Sl.new (E := intE) (S := fun _ => False) w [[.int .i64 m]] [m] 3 rfl (by unfold big; simp) (fun i g1 g2 => by
  match i, g1 with
  | 0, _ => exact ⟨rfl, hm⟩)
 exact this.weak (fun b h => h.resolve_left (fun h => h))
section
variable {P : Program} {Q : Exit → Act → World → Prop} {md : Region.Mode} {S : World → Prop} {l : List Oper} {listed : Array Bool} {fuel : Nat} {a : Act} {w : World}
end

end Go.Proofs.YtpmnnoopoblpgaaGreat

/- Walks: the iterator over the parts of a term. -/
namespace Go.Proofs.YtpmnnoopoblpgaaGreat
open Go Go.RowKit Go.Shelf

attribute [local go_sem] Oper.semAt_some

theorem RoundIn.wideAny {m m' : Nat} {P : Program} {l : Nat} {f : FuncId} {tmps : Array Value} {assign body : Code} {w : World} {R : Ending → World → Prop}
  (h : RoundIn Fence.wide m P l f tmps assign body w R) : RoundIn Fence.wide m' P l f tmps assign body w R := ⟨h.1, fun c cs _ => h.2 c cs (room_wide _)⟩
theorem YieldAt.wideAny {m : Nat} (m' : Nat) {P : Program} {l : Nat} {args : Array Value} {W : World} {R : Ending → World → Prop} (h : YieldAt Fence.wide m P l args W R) : YieldAt Fence.wide m' P l args W R := by
 obtain ⟨fn, tmps, assign, body, hy, hR⟩ := h
 exact ⟨fn, tmps, assign, body, hy, RoundIn.wideAny hR⟩

structure El where
 ap : Option Addr
 cp : Nat
 p : List Int
 au : Option Addr
 cu : Nat
 u : List Int
def El.enc (x : El) : Array Value := #[.slice x.ap x.p.length x.cp, .slice x.au x.u.length x.cu]
def El.pt (x : El) : List Int × List Int := (x.p, x.u)
end Go.Proofs.YtpmnnoopoblpgaaGreat

/- Walks: the iterator over the parts of a term, as a caller takes it. -/
namespace Go.Proofs.YtpmnnoopoblpgaaGreat
open Go Go.RowKit Go.Shelf

attribute [local go_sem] Oper.semAt_some

theorem abides_below {β : Type} {B : Nat} {J : β → World → Prop} (h : AbidesFrom B J) {s : β} {A A' : World} (hs : J s A) (hb : Below A.heap.size A A') : J s A' :=
 h s A A' none hs (Below.grow hb) (fun r e => by cases e)

theorem El.size (x : El) : x.enc.size = 2 := rfl
end Go.Proofs.YtpmnnoopoblpgaaGreat

/- Walks of package kernel: halves, Detach, Detaches. -/
namespace Go.Proofs.YtpmnnoopoblpgaaGreat
open Go Go.RowKit Go.Maps

def halvesRet (w : World) (A B : List Int) (e : Ending) (w' : World) : Prop :=
 ∃ a4 c4 a5 c5, e = .returned (.tuple #[.slice a4 A.length c4, .slice a5 B.length c5, .bool true]) ∧ Ints (fun _ => True) w' a4 c4 A ∧ Ints (fun _ => True) w' a5 c5 B ∧ Below w.heap.size w w'
set_option maxHeartbeats 1000000 in
theorem halves_yes {S1 S2 : Nat → Prop} (a1 a2 : Option Addr) (c1 c2 : Nat) (s : Sg) (m A B : List Int) (w : World) (h1 : Sign S1 w a1 c1 s) (h2 : Ints S2 w a2 c2 m) (hm : okT s m = true) (hL : argsT s m = [A, B]) (h0 : m.headD 0 = 0) :
  Calls Tryz.prog 225 #[.slice a1 s.length c1, .slice a2 m.length c2] w (halvesRet w A B) := by
 have m2 := h2.le
 have lm := (okT_parts hm).2.1
 obtain ⟨b, o, rfl, -, q, -⟩ := h2.int 0 (by omega)
 have hg : m[0] = m.headD 0 := by cases m with | nil => simp at lm | cons _ _ => rfl
 rw [hg, h0, Nat.add_zero] at q
 have ca := Args_any a1 (some ⟨b, o, none⟩) c1 c2 s m w h1 h2
 rw [argsE_ok hm, hL] at ca
 have caH := Lib.hid ca
 clear ca h1 h2 hm hL h0 hg
 go_enter Tryz.func225, Tryz.ntmps225
 go_wp2_with fail
 refine caH.out.mono ?_
 rintro e w1 ⟨v, rfl, ho, hb⟩
 obtain ⟨a, c, rfl, hT⟩ := ho.sl
 obtain ⟨b1, o1, a4, c4, rfl, -, q1, hA⟩ := hT.sub 0 (by simp)
 obtain ⟨b2, o2, a5, c5, he, -, q2, hB⟩ := hT.sub 1 (by simp)
 simp only [Option.some.injEq, Addr.mk.injEq, and_true] at he
 obtain ⟨rfl, rfl⟩ := he
 simp only [List.getElem_cons_zero, List.getElem_cons_succ] at q1 q2 hA hB
 rw [Nat.add_zero] at q1
 have hAH := Lib.hid hA.any
 have hBH := Lib.hid hB.any
 clear ho hT hA hB caH q
 go_wp2_with fail
 go_quiet (fail)
 all_goals go_wp2_with fail
 go_ret3
 exact ⟨_, _, _, _, rfl, hAH.out.drewN _, hBH.out.drewN _, below_drewN hb _⟩
set_option maxHeartbeats 1000000 in
theorem halves_no {S2 : Nat → Prop} (v : Value) (a2 : Option Addr) (c2 : Nat) (m : List Int) (w : World) (h2 : Ints S2 w a2 c2 m) (lm : 1 ≤ m.length) (h0 : m.headD 0 ≠ 0) :
  Calls Tryz.prog 225 #[v, .slice a2 m.length c2] w fun e w' => e = .returned (.tuple #[.slice none 0 0, .slice none 0 0, .bool false]) ∧ w = w' := by
 have m2 := h2.le
 obtain ⟨b, o, rfl, -, q, -⟩ := h2.int 0 (by omega)
 have hg : m[0] = m.headD 0 := by cases m with | nil => simp at lm | cons _ _ => rfl
 rw [hg, Nat.add_zero] at q
 have hne : (m.headD 0 != 0) = true := by simpa using h0
 obtain ⟨x, hx⟩ : ∃ x, m.headD 0 = x := ⟨_, rfl⟩
 rw [hx] at q hne
 clear h2 hg h0 hx
 go_enter Tryz.func225, Tryz.ntmps225
 go_wp2_with fail
 go_ret3
 exact ⟨rfl, rfl⟩
set_option maxHeartbeats 2000000 in
theorem Detached_any {S1 S2 S3 S4 : Nat → Prop} (a1 a2 a3 a4 : Option Addr) (c1 c2 c3 c4 : Nat) (s : Sg) (a t b : List Int) (w : World) (h1 : Sign S1 w a1 c1 s) (h2 : Ints S2 w a2 c2 a) (h3 : Ints S3 w a3 c3 t) (h4 : Ints S4 w a4 c4 b) (ha : okT s a = true) (hb : okT s b = true) :
  Calls Tryz.prog 226 #[.slice a1 s.length c1, .slice a2 a.length c2, .slice a3 t.length c3, .slice a4 b.length c4] w (retE (uniE s a (apartT b) t) w) := by
 have m2 := h2.le
 have m3 := h3.le
 have m4 := h4.le
 have v4 := apart_any a4 c4 b w h4 (by have := (okT_parts hb).2.2.1; unfold lim; omega) (okT_ne hb) (okT_rg hb)
 have v3 := fun W (hbl : Below w.heap.size w W) T a5 c5 (hi : Ints T W a5 c5 (apartT b)) => solved_any a1 a2 a5 c1 c2 c5 s a (apartT b) W (h1.below hbl) (h2.below hbl) hi (okT_parts ha).1 (okT_w1 ha) (apartT_w (okT_w1 hb)) (okT_Rg ha) (apartT_rg hb) (by have := (okT_parts ha).2.2.1; omega) (by rw [apartT_len]; have := (okT_parts hb).2.2.1; omega)
 have v5 : ∀ W, Below w.heap.size w W → T0 W a3 c3 t := fun W hb => (h3.below hb).lt.weak (fun _ h => h.2)
 have hal := apartT_len b
 have v3H := Lib.hid v3
 have v4H := Lib.hid v4
 have v5H := Lib.hid v5
 have halH := Lib.hid hal
 clear v3 v4 v5 h1 h2 h3 h4 hal ha hb
 go_enter Tryz.func226, Tryz.ntmps226
 go_wp2_with fail
 refine v4H.out.mono ?_
 rintro e w3 ⟨v, rfl, ho, hb3⟩
 obtain ⟨a5, c5, rfl, hI⟩ := OwnI.ints ho
 clear ho
 go_wp2_with fail
 refine (v3H.out _ hb3 _ _ _ hI).mono ?_
 rintro e w4 ⟨xb, mb, r, rfl, hb4, hf, ht⟩
 clear hI
 cases r with
 | false =>
  have hmH := Lib.hid (uniE_none (hf rfl) t)
  have hb5 := bcall hb3 hb4
  clear hf ht hb3 hb4
  go_wp2_with fail
  go_ret2
  exact ⟨_, by rw [hmH.out]; rfl, by rw [hmH.out]; exact .nil _ _ _ _ _, hb5⟩
 | true =>
  obtain ⟨B, θ, ρ, n, g1, g2, g3, g4⟩ := ht rfl
  have hmH := Lib.hid (uniE_some g3 t)
  have cm := made_any g4 g1 (v5H.out _ hb3)
  have hb5 := bcall hb3 hb4
  have cmH := Lib.hid cm
  clear hf ht hb3 hb4 cm g1 g2 g3 g4
  go_wp2_with fail
  refine cmH.out.mono ?_
  rintro e w5 ⟨v, rfl, ho, hb6⟩
  have hoH := Lib.hid (OwnL.baseMono (base' := w.heap.size) ho hb5.size)
  clear ho cmH
  go_wp2_with fail
  go_ret2
  exact ⟨_, by rw [hmH.out]; rfl, by rw [hmH.out]; exact hoH.out, bcall hb5 hb6⟩
set_option maxHeartbeats 2000000 in
theorem Detach_any {S1 S2 S3 : Nat → Prop} (a1 a2 a3 : Option Addr) (c1 c2 c3 : Nat) (s : Sg) (m n : List Int) (w : World) (h1 : Sign S1 w a1 c1 s) (h2 : Ints S2 w a2 c2 m) (h3 : Ints S3 w a3 c3 n) :
  Calls Tryz.prog 210 #[.slice a1 s.length c1, .slice a2 m.length c2, .slice a3 n.length c3] w (retE (detE s m n) w) := by
 have m2 := h2.le
 have m3 := h3.le
 have v1 := Valid_any a1 a2 c1 c2 s m w h1 h2
 have v2 := fun W (hb : Below w.heap.size w W) => Valid_any a1 a3 c1 c3 s n W (h1.below hb) (h3.below hb)
 obtain ⟨x, hx⟩ : ∃ x, okT s m = x := ⟨_, rfl⟩
 obtain ⟨y, hy⟩ : ∃ x, okT s n = x := ⟨_, rfl⟩
 rw [hx] at v1
 rw [hy] at v2
 have v1H := Lib.hid v1
 have v2H := Lib.hid v2
 clear v1 v2
 cases x with
 | false =>
  have hmH := Lib.hid (show detE s m n = ([], 1) by unfold detE; rw [if_neg (by rw [hx]; simp)])
  clear hx hy h1 h2 h3
  go_enter Tryz.func210, Tryz.ntmps210
  go_wp2_with (go_at_call 119; refine v1H.out.mono ?_; rintro e w1 ⟨rfl, hb1⟩)
  go_ret2
  exact ⟨_, by rw [hmH.out]; rfl, by rw [hmH.out]; exact .nil _ _ _ _ _, hb1⟩
 | true =>
 cases y with
 | false =>
  have hmH := Lib.hid (show detE s m n = ([], 1) by unfold detE; rw [if_neg (by rw [hy]; simp)])
  clear hx hy h1 h2 h3
  go_enter Tryz.func210, Tryz.ntmps210
  go_wp2_with fail
  refine v1H.out.mono ?_
  rintro e w1 ⟨rfl, hb1⟩
  go_wp2_with fail
  refine (v2H.out _ hb1).mono ?_
  rintro e w2 ⟨rfl, hb2⟩
  go_wp2_with fail
  go_ret2
  exact ⟨_, by rw [hmH.out]; rfl, by rw [hmH.out]; exact .nil _ _ _ _ _, bcall hb1 hb2⟩
 | true =>
  by_cases h0 : m.headD 0 = 0
  ·obtain ⟨A, B, e1, e2, oA, oB⟩ := halves hx h0
   have hmH := Lib.hid (detE_at hx hy e2 (okT_w1 oA))
   have ch := fun W (hb : Below w.heap.size w W) => halves_yes a1 a2 c1 c2 s m A B W (h1.below hb) (h2.below hb) hx e1 h0
   have cd := fun W (hb : Below w.heap.size w W) a4 c4 a5 c5 (hA : Ints (fun _ => True) W a4 c4 A) (hB : Ints (fun _ => True) W a5 c5 B) => Detached_any a1 a4 a5 a3 c1 c4 c5 c3 s A B n W (h1.below hb) hA hB (h3.below hb) oA hy
   have chH := Lib.hid ch
   have cdH := Lib.hid cd
   clear ch cd hx hy h1 h2 h3 e1 e2 oA oB h0
   go_enter Tryz.func210, Tryz.ntmps210
   go_wp2_with fail
   refine v1H.out.mono ?_
   rintro e w1 ⟨rfl, hb1⟩
   go_wp2_with fail
   refine (v2H.out _ hb1).mono ?_
   rintro e w2 ⟨rfl, hb2⟩
   have hb2 := bcall hb1 hb2
   clear hb1
   go_wp2_with fail
   refine (chH.out _ hb2).mono ?_
   rintro e w3 ⟨a4, c4, a5, c5, rfl, hA, hB, hb3⟩
   have hb3 := bcall hb2 hb3
   clear hb2
   have cd := cdH.out _ hb3 _ _ _ _ hA hB
   have cdK := Lib.hid cd
   have lA := hA.le
   have lB := hB.le
   clear cd hA hB
   go_wp2_with fail
   refine cdK.out.mono ?_
   rintro e w4 ⟨v, rfl, ho, hb4⟩
   have hoH := Lib.hid (OwnL.baseMono (base' := w.heap.size) ho hb3.size)
   clear ho cdK
   go_wp2_with fail
   go_ret2
   exact ⟨_, by rw [hmH.out]; rfl, by rw [hmH.out]; exact hoH.out, bcall hb3 hb4⟩
  ·have hmH := Lib.hid (detE_state hx hy h0)
   have ch := fun W (hb : Below w.heap.size w W) => halves_no (.slice a1 s.length c1) a2 c2 m W (h2.below hb) (okT_parts hx).2.1 h0
   have chH := Lib.hid ch
   clear ch hx hy h1 h2 h3 h0
   go_enter Tryz.func210, Tryz.ntmps210
   go_wp2_with fail
   refine v1H.out.mono ?_
   rintro e w1 ⟨rfl, hb1⟩
   go_wp2_with fail
   refine (v2H.out _ hb1).mono ?_
   rintro e w2 ⟨rfl, hb2⟩
   have hb2 := bcall hb1 hb2
   clear hb1
   go_wp2_with fail
   refine (chH.out _ hb2).mono ?_
   rintro e w3 ⟨rfl, rfl⟩
   go_wp2_with fail
   go_ret2
   exact ⟨_, by rw [hmH.out]; rfl, by rw [hmH.out]; exact .nil _ _ _ _ _, hb2⟩
end Go.Proofs.YtpmnnoopoblpgaaGreat

/- Lists of terms that are kept in a box, told apart by the types of their blocks. No function of the program is named. -/
namespace Go.Proofs.YtpmnnoopoblpgaaGreat
open Go Go.RowKit Go.Maps

def IntB (W : World) (b : Nat) : Prop := ∃ cs, W.heap[b]? = some (.cells cs 3 (0, 0))
def IntKeep (W W' : World) : Prop := ∀ b, IntB W b → W'.heap[b]? = W.heap[b]?
theorem IntB.lt {W : World} {b : Nat} (h : IntB W b) : b < W.heap.size := by obtain ⟨cs, h⟩ := h; exact (Array.getElem?_eq_some_iff.1 h).1
theorem IntKeep.refl (W : World) : IntKeep W W := fun _ _ => rfl
theorem IntKeep.b {W W' : World} (h : IntKeep W W') {b : Nat} (hb : IntB W b) : IntB W' b := by obtain ⟨cs, hc⟩ := hb; exact ⟨cs, (h b ⟨cs, hc⟩).trans hc⟩
theorem IntKeep.trans {W W' W2 : World} (h : IntKeep W W') (k : IntKeep W' W2) : IntKeep W W2 := fun b hb => (k b (h.b hb)).trans (h b hb)
theorem IntKeep.of_below {W W' : World} (h : Below W.heap.size W W') : IntKeep W W' := fun b hb => h.block b hb.lt
theorem IntKeep.of_grown {W W' : World} {row : Option Nat} (h : W.grownBy W' row) (hr : ∀ r, row = some r → ¬ IntB W r) : IntKeep W W' := fun b hb => h.block b hb.lt (fun e => hr b e.symm hb)
theorem IntKeep.putObj {W : World} {l : Nat} {o o' : Obj} (hl : W.heap[l]? = some o) (hc : o.isCells = false) : IntKeep W (W.putObj l o') := fun b hb => World.putObj_heap_other (fun e => by
 subst e; obtain ⟨cs, hb⟩ := hb; rw [hl] at hb; cases hb; cases hc)
theorem Ints.intKeep {W W' : World} {a : Option Addr} {c : Nat} {l : List Int} (h : Ints (IntB W) W a c l) (k : IntKeep W W') : Ints (IntB W') W' a c l := h.mono (fun _ _ hb => k.b hb) (fun b hb _ => k b hb)
theorem OwnI.intsB {w : World} {base : Nat} {v : Value} {l : List Int} (h : OwnI w base v l) : ∃ a c, v = .slice a l.length c ∧ Ints (IntB w) w a c l := by
 obtain ⟨a, c, hv, hI⟩ := h.ints
 refine ⟨a, c, hv, hI.cap, hI.max, hI.nil, fun hne => ?_⟩
 obtain ⟨b, off, ha, hb, hl, hc⟩ := hI.dat hne
 subst ha
 obtain ⟨cur, hcur⟩ := OwnL.rowCells h b (by rw [hv]; rfl)
 exact ⟨b, off, rfl, ⟨cur, hcur⟩, hl, hc⟩
abbrev OwnTT (W : World) (base : Nat) (v : Value) (l : List (List Int)) : Prop := OwnL (slE intE) (IntB W) W base 26 v l
theorem OwnTT.keep {W W' : World} {base : Nat} {v : Value} {l : List (List Int)} (h : OwnTT W base v l) (hr : ∀ k, v.ownBlock = some k → W'.heap[k]? = W.heap[k]?) (hi : IntKeep W W') : OwnTT W' base v l :=
 OwnL.weak (OwnL.kept h hr (fun b hb _ => hi b hb.1)) (fun _ _ hb => hi.b hb)
def TBox (W : World) (B base : Nat) (l : List (List Int)) : Prop := ∃ v, Boxed W B 77 v ∧ OwnTT W base v l
section
variable {W W' : World} {B base : Nat} {l : List (List Int)}
theorem TBox.new (W : World) : TBox (W.alloc (.cells #[.slice none 0 0] 77)) W.heap.size W.heap.size [] := ⟨_, Boxed.new W _ _, .nil _ _ _ _ _⟩
theorem TBox.lt (h : TBox W B base l) : B < W.heap.size := by obtain ⟨v, h, -⟩ := h; exact h.lt
theorem TBox.rowCells (h : TBox W B base l) : ∀ r, rowOf B W = some r → base ≤ r ∧ r < W.heap.size ∧ ∃ cur, W.heap[r]? = some (.cells cur 26 (0, 0)) := by
 obtain ⟨v, hv, ho⟩ := h
 intro r hr
 rw [rowOf_boxed hv] at hr
 exact ⟨(OwnL.lt ho r hr).1, (OwnL.lt ho r hr).2, OwnL.rowCells ho r hr⟩
theorem TBox.rowLt (h : TBox W B base l) : RowLt B W := ⟨h.lt, fun r hr => (h.rowCells r hr).2.1⟩
theorem TBox.boxCells (h : TBox W B base l) : ∃ cur, W.heap[B]? = some (.cells cur 77 (0, 0)) := by obtain ⟨v, hv, -⟩ := h; exact ⟨_, hv⟩
theorem not_intB {W : World} {b : Nat} {t : TypeId} {cur : Array Value} (h : W.heap[b]? = some (.cells cur t (0, 0))) (ht : t ≠ 3) : ¬ IntB W b := fun ⟨cs, hc⟩ => by
 rw [h] at hc; simp only [Option.some.injEq, Obj.cells.injEq] at hc; exact ht hc.2.1
theorem TBox.keep (h : TBox W B base l) (hB : W'.heap[B]? = W.heap[B]?) (hr : ∀ r, rowOf B W = some r → W'.heap[r]? = W.heap[r]?) (hi : IntKeep W W') : TBox W' B base l := by
 obtain ⟨v, hv, ho⟩ := h
 refine ⟨v, hB.trans hv, OwnTT.keep ho (fun k hk => hr k ?_) hi⟩
 rw [rowOf_boxed hv]; exact hk
theorem TBox.below (h : TBox W B base l) (hb : Below W.heap.size W W') : TBox W' B base l := h.keep (hb.block B h.lt) (fun r hr => hb.block r (h.rowCells r hr).2.1) (.of_below hb)
theorem TBox.slice (h : TBox W B base l) : ∃ a c, W.cell? ⟨B, 0, none⟩ = some (.slice a l.length c) ∧ Terms (fun _ => True) W a c l := by
 obtain ⟨v, hv, ho⟩ := h
 obtain ⟨a, c, rfl, hT⟩ := ho.sl
 exact ⟨a, c, hv.cell, hT.any⟩
theorem infoTm : (Tryz.prog.info? 26).map (fun i => (i.zero, i.size, i.bytes)) = some (some (.slice none 0 0), 1, 24) := by kernel_rfl
theorem TBox.push (h : TBox W B base l) (hbs : base ≤ W.heap.size) {W1 : World} (hb1 : Below W.heap.size W W1) {a : Option Addr} {c : Nat} {x : List Int} (hx : Ints (IntB W1) W1 a c x) (hl : l.length ≤ 1000) :
  ∃ v a' cap W2, RowKit.Hid (W1.cell? ⟨B, 0, none⟩ = some v) ∧ RowKit.Hid ((Builtin.append_ #[77, 77] 77 #[v, .slice (some ⟨W1.heap.size, 0, none⟩) 1 1]).run Tryz.prog (W1.alloc (.cells #[.slice a x.length c] 26)) = .ok (.slice a' (l.length + 1) cap) W2) ∧
   RowKit.Hid (W2.cell? ⟨B, 0, none⟩ = some v) ∧ RowKit.Hid (W2.frozen? ⟨B, 0, none⟩ = false) ∧ RowKit.Hid (TBox (W2.setCell ⟨B, 0, none⟩ (.slice a' (l.length + 1) cap)) B base (l ++ [x])) ∧
   RowKit.Hid (W1.grownBy W2 v.ownBlock) ∧ RowKit.Hid (W2.grownBy (W2.setCell ⟨B, 0, none⟩ (.slice a' (l.length + 1) cap)) (some B)) ∧ RowKit.Hid (rowOf B W = v.ownBlock) ∧ RowKit.Hid (W2.heap[B]? = some (.cells #[v] 77 (0, 0))) ∧ RowKit.Hid (IntKeep W1 (W2.setCell ⟨B, 0, none⟩ (.slice a' (l.length + 1) cap))) ∧
   RowKit.Hid (rowOf B (W2.setCell ⟨B, 0, none⟩ (.slice a' (l.length + 1) cap)) = v.ownBlock ∨ ∃ k, rowOf B (W2.setCell ⟨B, 0, none⟩ (.slice a' (l.length + 1) cap)) = some k ∧ W1.heap.size ≤ k) := by
 have h1 := h.below hb1
 obtain ⟨v, hv, ho⟩ := h1
 have hS : (slE intE).R (Off (IntB W1) v) W1 [.slice a x.length c] x := by
  refine ⟨a, c, rfl, hx.weak (fun b hb => ⟨hb, fun e => ?_⟩)⟩
  obtain ⟨cur, hc⟩ := OwnL.rowCells ho b e.symm
  exact not_intB hc (by decide) hb
 obtain ⟨v', W2, hrun, ho2, hg, hat⟩ := ho.push (P := Tryz.prog) (t := 77) (ty := 77) Tryz.underlying77 infoTm rfl hS (by omega) (by unfold big; omega) (Nat.le_trans hbs hb1.size)
 obtain ⟨a', cap, rfl, -⟩ := ho2.sl
 rw [List.length_append, List.length_singleton] at hrun ho2 hat
 have hnr : v.ownBlock ≠ some B := ho.notBox hv (by decide)
 have hv2 : Boxed W2 B 77 v := hv.kept hg (fun e => hnr e.symm)
 have hg3 : W2.grownBy (W2.setCell ⟨B, 0, none⟩ (.slice a' (l.length + 1) cap)) (some B) := grownBy_setCell' _ _ _
 have hnr2 := ho2.notBox hv2 (by decide)
 have hk12 : IntKeep W1 W2 := .of_grown hg (fun r e => by obtain ⟨cur, hc⟩ := OwnL.rowCells ho r e; exact not_intB hc (by decide))
 have hk23 : IntKeep W2 (W2.setCell ⟨B, 0, none⟩ (.slice a' (l.length + 1) cap)) := .of_grown hg3 (fun r e => by cases e; exact not_intB hv2 (by decide))
 have ho2' : OwnTT W2 base _ (l ++ [x]) := OwnL.weak ho2 (fun b _ hb => hk12.b hb)
 have ho3 := OwnTT.keep ho2' (fun k hk => hg3.block k (OwnL.lt ho2' k hk).2 (fun e => hnr2 (by rw [hk, e]))) hk23
 have hv3 : Boxed (W2.setCell ⟨B, 0, none⟩ (.slice a' (l.length + 1) cap)) B 77 (.slice a' (l.length + 1) cap) := hv2.set _
 have hrB : rowOf B W = v.ownBlock := by rw [← rowOf_boxed hv]; exact (rowOf_same (hb1.block B h.lt)).symm
 refine ⟨v, a', cap, W2, Lib.hid hv.cell, Lib.hid hrun, Lib.hid hv2.cell, Lib.hid hv2.frozen, Lib.hid ⟨_, hv3, ho3⟩, Lib.hid hg, Lib.hid hg3, Lib.hid hrB, Lib.hid hv2, Lib.hid (hk12.trans hk23), Lib.hid ?_⟩
 rw [rowOf_boxed hv3]
 exact hat
end
end Go.Proofs.YtpmnnoopoblpgaaGreat

/- Walks of package kernel: what a step says. -/
namespace Go.Proofs.YtpmnnoopoblpgaaGreat
open Go Go.RowKit Go.Maps

set_option maxRecDepth 20000 in
set_option maxHeartbeats 2000000 in
theorem cite_any {S1 S2 : Nat → Prop} (a1 ag : Option Addr) (c1 cg sb gb n : Nat) (B : Int) (s : Sg) (g : List (List Int)) (w : World) (h1 : Sign S1 w a1 c1 s) (h2 : Terms S2 w ag cg g) (hsb : w.cell? ⟨sb, 0, none⟩ = some (.slice a1 s.length c1)) (hgb : w.cell? ⟨gb, 0, none⟩ = some (.slice ag g.length cg)) (hn : n < g.length) (hok : okT s g[n] = true) :
  Calls Tryz.prog 207 #[.agg #[.int .i64 1, .int .i64 n, .int .i64 B], .pointer (some ⟨sb, 0, none⟩), .pointer (some ⟨gb, 0, none⟩)] w (retE (canon g[n], 0) w) := by
 have m2 := h2.le
 obtain ⟨b, o, at_, ct, rfl, -, q, hI⟩ := h2.sub n hn
 obtain ⟨W1, hW1⟩ : ∃ W, w.alloc (.cells #[.int .i64 1, .int .i64 n, .int .i64 B] 117) = W := ⟨_, rfl⟩
 have hb1 : Below w.heap.size w W1.drew := by rw [← hW1]; exact (below1 w _).drew
 have q1 : W1.cell? ⟨w.heap.size, 1, none⟩ = some (.int .i64 n) := by rw [← hW1]; clear hW1; go_simp
 have q1' : W1.drew.cell? ⟨w.heap.size, 1, none⟩ = some (.int .i64 n) := q1
 have cc := Canonical_any a1 at_ c1 ct s g[n] W1.drew (h1.below hb1) (hI.below hb1)
 have qs := cell_later hb1 hsb
 have qg := cell_later hb1 hgb
 have qt := cell_later hb1 q
 have mI := hI.le
 obtain ⟨t, ht⟩ : ∃ t, g[n] = t := ⟨_, rfl⟩
 rw [ht] at cc qt hok mI
 rw [ht]
 have ccH := Lib.hid cc
 have hokH := Lib.hid hok
 have hb1H := Lib.hid hb1
 clear cc h1 h2 hI hok hb1 q ht hsb hgb q1
 go_enter Tryz.func207, Tryz.ntmps207
 go_wp2_with fail
 try rw [hW1]
 refine wp_region_held_drew (S := fun w' => w'.cell? ⟨sb, 0, none⟩ = some (.slice a1 s.length c1) ∧ w'.cell? ⟨gb, 0, none⟩ = some (.slice (some ⟨b, o, none⟩) g.length cg) ∧ w'.cell? ⟨w.heap.size, 1, none⟩ = some (.int .i64 n) ∧ w'.cell? ⟨b, o + n, none⟩ = some (.slice at_ t.length ct)) (by kernel_rfl) ⟨qs, qg, q1', qt⟩ (fun hS => ?_)
 refine rtk 0 6 (v := ?_) hS ?_ ?_; rotate_left; · (intro w9 hS9; obtain ⟨s91, s92, s93, s94⟩ := hS9; go_simp; try (with_reducible rfl))
 refine rtk 1 7 (v := ?_) hS ?_ ?_; rotate_left; · (intro w9 hS9; obtain ⟨s91, s92, s93, s94⟩ := hS9; go_simp; try (with_reducible rfl))
 refine rtk 2 8 (v := ?_) hS ?_ ?_; rotate_left; · (intro w9 hS9; obtain ⟨s91, s92, s93, s94⟩ := hS9; go_simp; try (with_reducible rfl))
 refine rtk 3 9 (v := ?_) hS ?_ ?_; rotate_left; · (intro w9 hS9; obtain ⟨s91, s92, s93, s94⟩ := hS9; go_simp; try (with_reducible rfl))
 refine rtk 4 10 (v := ?_) hS ?_ ?_; rotate_left; · (intro w9 hS9; obtain ⟨s91, s92, s93, s94⟩ := hS9; go_simp; try (with_reducible rfl))
 refine rtk 5 11 (v := ?_) hS ?_ ?_; rotate_left; · (intro w9 hS9; obtain ⟨s91, s92, s93, s94⟩ := hS9; go_simp; try (with_reducible rfl))
 refine region_call 6 rfl (by kernel_rfl) (fun K hK => ?_)
 go_simp
 (with_reducible refine ccH.out.mono ?_)
 rintro e w8 ⟨v, n8, rfl, hb8, -, hv⟩
 obtain ⟨rfl, ho⟩ := hv hokH.out
 refine hK.out _ _ ⟨cell_later hb8 qs, cell_later hb8 qg, cell_later hb8 q1', cell_later hb8 qt⟩ ?_
 clear hS hK hv
 intro hS
 refine rtk 7 13 (v := ?_) hS ?_ ?_; rotate_left; · (intro w9 hS9; obtain ⟨s91, s92, s93, s94⟩ := hS9; go_simp; try (with_reducible rfl))
 refine rtk 8 14 (v := ?_) hS ?_ ?_; rotate_left; · (intro w9 hS9; obtain ⟨s91, s92, s93, s94⟩ := hS9; go_simp; try (with_reducible rfl))
 refine rtk 9 4 (v := ?_) hS ?_ ?_; rotate_left; · (intro w9 hS9; obtain ⟨s91, s92, s93, s94⟩ := hS9; go_simp; try (with_reducible rfl))
 refine rtk 10 5 (v := ?_) hS ?_ ?_; rotate_left; · (intro w9 hS9; obtain ⟨s91, s92, s93, s94⟩ := hS9; go_simp; try (with_reducible rfl))
 refine wpAnyH_done (by kernel_rfl) ?_ _
 have hoH := Lib.hid (OwnL.baseMono (base' := w.heap.size) ho hb1H.out.size)
 have hbH := Lib.hid (hb1H.out.trans (hb8.mono hb1H.out.size))
 clear hS ho hb8
 go_wp2_with fail
 go_ret2
 exact ⟨_, rfl, hoH.out, hbH.out⟩
set_option maxRecDepth 20000 in
set_option maxHeartbeats 2000000 in
theorem stepdet_any {S1 S2 : Nat → Prop} (a1 ag : Option Addr) (c1 cg sb gb n m : Nat) (s : Sg) (g : List (List Int)) (w : World) (h1 : Sign S1 w a1 c1 s) (h2 : Terms S2 w ag cg g) (hsb : w.cell? ⟨sb, 0, none⟩ = some (.slice a1 s.length c1)) (hgb : w.cell? ⟨gb, 0, none⟩ = some (.slice ag g.length cg)) (hn : n < g.length) (hm : m < g.length) :
  Calls Tryz.prog 209 #[.agg #[.int .i64 2, .int .i64 n, .int .i64 m], .pointer (some ⟨sb, 0, none⟩), .pointer (some ⟨gb, 0, none⟩)] w (retE (detE s g[n] g[m]) w) := by
 have m2 := h2.le
 obtain ⟨b, o, at_, ct, rfl, -, q, hI⟩ := h2.sub n hn
 obtain ⟨b', o', au, cu, he, -, q', hI'⟩ := h2.sub m hm
 simp only [Option.some.injEq, Addr.mk.injEq, and_true] at he
 obtain ⟨rfl, rfl⟩ := he
 obtain ⟨W1, hW1⟩ : ∃ W, w.alloc (.cells #[.int .i64 2, .int .i64 n, .int .i64 m] 117) = W := ⟨_, rfl⟩
 have hb1 : Below w.heap.size w W1.drew := by rw [← hW1]; exact (below1 w _).drew
 have q1 : W1.cell? ⟨w.heap.size, 1, none⟩ = some (.int .i64 n) := by rw [← hW1]; clear hW1; go_simp
 have q2 : W1.cell? ⟨w.heap.size, 2, none⟩ = some (.int .i64 m) := by rw [← hW1]; clear hW1; go_simp
 have q1' : W1.drew.cell? ⟨w.heap.size, 1, none⟩ = some (.int .i64 n) := q1
 have q2' : W1.drew.cell? ⟨w.heap.size, 2, none⟩ = some (.int .i64 m) := q2
 have cc := Detach_any a1 at_ au c1 ct cu s g[n] g[m] W1.drew (h1.below hb1) (hI.below hb1) (hI'.below hb1)
 have qs := cell_later hb1 hsb
 have qg := cell_later hb1 hgb
 have qt := cell_later hb1 q
 have qu := cell_later hb1 q'
 have mI := hI.le
 have mI' := hI'.le
 obtain ⟨t, ht⟩ : ∃ t, g[n] = t := ⟨_, rfl⟩
 obtain ⟨u, hu⟩ : ∃ t, g[m] = t := ⟨_, rfl⟩
 rw [ht, hu] at cc
 rw [ht] at qt mI
 rw [hu] at qu mI'
 rw [ht, hu]
 have ccH := Lib.hid cc
 have hb1H := Lib.hid hb1
 clear cc h1 h2 hI hI' hb1 q q' ht hu hsb hgb q1 q2
 go_enter Tryz.func209, Tryz.ntmps209
 go_wp2_with fail
 try rw [hW1]
 refine wp_region_held_drew (S := fun w' => w'.cell? ⟨sb, 0, none⟩ = some (.slice a1 s.length c1) ∧ w'.cell? ⟨gb, 0, none⟩ = some (.slice (some ⟨b, o, none⟩) g.length cg) ∧ w'.cell? ⟨w.heap.size, 1, none⟩ = some (.int .i64 n) ∧ w'.cell? ⟨w.heap.size, 2, none⟩ = some (.int .i64 m) ∧ w'.cell? ⟨b, o + n, none⟩ = some (.slice at_ t.length ct) ∧ w'.cell? ⟨b, o + m, none⟩ = some (.slice au u.length cu)) (by kernel_rfl) ⟨qs, qg, q1', q2', qt, qu⟩ (fun hS => ?_)
 refine rtk 0 6 (v := ?_) hS ?_ ?_; rotate_left; · (intro w9 hS9; obtain ⟨s91, s92, s93, s94, s95, s96⟩ := hS9; go_simp; try (with_reducible rfl))
 refine rtk 1 7 (v := ?_) hS ?_ ?_; rotate_left; · (intro w9 hS9; obtain ⟨s91, s92, s93, s94, s95, s96⟩ := hS9; go_simp; try (with_reducible rfl))
 refine rtk 2 8 (v := ?_) hS ?_ ?_; rotate_left; · (intro w9 hS9; obtain ⟨s91, s92, s93, s94, s95, s96⟩ := hS9; go_simp; try (with_reducible rfl))
 refine rtk 3 9 (v := ?_) hS ?_ ?_; rotate_left; · (intro w9 hS9; obtain ⟨s91, s92, s93, s94, s95, s96⟩ := hS9; go_simp; try (with_reducible rfl))
 refine rtk 4 10 (v := ?_) hS ?_ ?_; rotate_left; · (intro w9 hS9; obtain ⟨s91, s92, s93, s94, s95, s96⟩ := hS9; go_simp; try (with_reducible rfl))
 refine rtk 5 11 (v := ?_) hS ?_ ?_; rotate_left; · (intro w9 hS9; obtain ⟨s91, s92, s93, s94, s95, s96⟩ := hS9; go_simp; try (with_reducible rfl))
 refine rtk 6 12 (v := ?_) hS ?_ ?_; rotate_left; · (intro w9 hS9; obtain ⟨s91, s92, s93, s94, s95, s96⟩ := hS9; go_simp; try (with_reducible rfl))
 refine rtk 7 13 (v := ?_) hS ?_ ?_; rotate_left; · (intro w9 hS9; obtain ⟨s91, s92, s93, s94, s95, s96⟩ := hS9; go_simp; try (with_reducible rfl))
 refine rtk 8 14 (v := ?_) hS ?_ ?_; rotate_left; · (intro w9 hS9; obtain ⟨s91, s92, s93, s94, s95, s96⟩ := hS9; go_simp; try (with_reducible rfl))
 refine rtk 9 15 (v := ?_) hS ?_ ?_; rotate_left; · (intro w9 hS9; obtain ⟨s91, s92, s93, s94, s95, s96⟩ := hS9; go_simp; try (with_reducible rfl))
 refine rtk 10 16 (v := ?_) hS ?_ ?_; rotate_left; · (intro w9 hS9; obtain ⟨s91, s92, s93, s94, s95, s96⟩ := hS9; go_simp; try (with_reducible rfl))
 refine region_call 11 rfl (by kernel_rfl) (fun K hK => ?_)
 go_simp
 (with_reducible refine ccH.out.mono ?_)
 rintro e w8 ⟨v, rfl, ho, hb8⟩
 refine hK.out _ _ ⟨cell_later hb8 qs, cell_later hb8 qg, cell_later hb8 q1', cell_later hb8 q2', cell_later hb8 qt, cell_later hb8 qu⟩ ?_
 clear hS hK
 intro hS
 refine rtk 12 18 (v := ?_) hS ?_ ?_; rotate_left; · (intro w9 hS9; obtain ⟨s91, s92, s93, s94, s95, s96⟩ := hS9; go_simp; try (with_reducible rfl))
 refine rtk 13 19 (v := ?_) hS ?_ ?_; rotate_left; · (intro w9 hS9; obtain ⟨s91, s92, s93, s94, s95, s96⟩ := hS9; go_simp; try (with_reducible rfl))
 refine rtk 14 4 (v := ?_) hS ?_ ?_; rotate_left; · (intro w9 hS9; obtain ⟨s91, s92, s93, s94, s95, s96⟩ := hS9; go_simp; try (with_reducible rfl))
 refine rtk 15 5 (v := ?_) hS ?_ ?_; rotate_left; · (intro w9 hS9; obtain ⟨s91, s92, s93, s94, s95, s96⟩ := hS9; go_simp; try (with_reducible rfl))
 refine wpAnyH_done (by kernel_rfl) ?_ _
 have hoH := Lib.hid (OwnL.baseMono (base' := w.heap.size) ho hb1H.out.size)
 have hbH := Lib.hid (hb1H.out.trans (hb8.mono hb1H.out.size))
 clear hS ho hb8
 go_wp2_with fail
 go_ret2
 exact ⟨_, rfl, hoH.out, hbH.out⟩
end Go.Proofs.YtpmnnoopoblpgaaGreat

/- Walks of package kernel: the iterator over what the steps say. -/
namespace Go.Proofs.YtpmnnoopoblpgaaGreat
open Go Go.RowKit Go.Maps Go.Shelf

attribute [local go_sem] Oper.semAt_some

theorem wpListIn_append_run {F : Fence} {n : Nat} {P : Program} {Q : Exit → Act → World → Prop} {ops : Array Oper} {rest : List Oper} {o : Oper} {a : Act} {w : World} (hg : Region.wanted o (yielded ops a.tmps) = true) (s x : Operand) (t : TypeId)
  (ho : o.op = .call { callee := .builtin .append, args := #[s, x], argTypes := #[t, t] }) {vs vx : Value} (hs : a.eval s = vs) (hx : a.eval x = vx) {v' : Value} {w' : World}
  (hr : (Builtin.append_ #[t, t] o.type #[vs, vx]).run P w = .ok v' w') (h : wpListIn F n P ops Q rest (a.put o.dst v') w') : wpListIn F n P ops Q (o :: rest) a w :=
 NextIn.append (K := wpListIn F n P ops Q rest) hg s x t ho hs hx hr h
structure Td where
 ap : Option Addr
 cp : Nat
 t : List Int
 e : Int
def Td.enc (x : Td) : Array Value := #[.agg #[.slice x.ap x.t.length x.cp, .int .i64 x.e]]
def Td.pt (x : Td) : List Int × Int := (x.t, x.e)
def TdR (x : Td) (W : World) : Prop := Ints (IntB W) W x.ap x.cp x.t ∧ x.t.length ≤ 60
theorem Td.size (x : Td) : x.enc.size = 1 := rfl
def Rw (B0 : Nat) (W : World) (r : Nat) (o : Obj) : Prop := ∃ cs t, o = .cells cs t (0, 0) ∧ t ≠ 3 ∧ r ≠ B0 ∧ some r ≠ rowOf B0 W
def Kp (B0 : Nat) (W W' : World) : Prop := Leaves B0 W W' ∧ IntKeep W W'
theorem Kp.trans {B0 : Nat} {A B C : World} (h : Kp B0 A B) (k : Kp B0 B C) : Kp B0 A C := ⟨h.1.trans k.1, h.2.trans k.2⟩
noncomputable def toldL (s : Sg) (g : List (List Int)) : List Stp → List (List Int) → List (List Int × Int)
 | [], _ => []
 | x :: p, l => stepE s g l x :: (if (stepE s g l x).2 = 0 then toldL s g p (l ++ [(stepE s g l x).1]) else [])
theorem toldL_drop {s : Sg} {g l : List (List Int)} {p : List Stp} {k : Nat} (h : k < p.length) : toldL s g (p.drop k) l = stepE s g l p[k] :: (if (stepE s g l p[k]).2 = 0 then toldL s g (p.drop (k + 1)) (l ++ [(stepE s g l p[k]).1]) else []) := by
 rw [List.drop_eq_getElem_cons h, toldL]
theorem stepE_len {s : Sg} {g l : List (List Int)} {x : Stp} (hg : ∀ t ∈ g, okT s t = true) (hl : ∀ t ∈ l, okT s t = true) (hr : rightB g.length l.length x = true) : (stepE s g l x).1.length ≤ 60 := by
 by_cases h : (stepE s g l x).2 = 0
 ·exact (okT_parts (step_okT hg hr h)).2.2.1
 ·have : (stepE s g l x).1 = [] := by
   unfold stepE at h ⊢
   by_cases h1 : x.1 = 1
   ·rw [if_pos h1] at h; exact (h rfl).elim
   ·rw [if_neg h1] at h ⊢
    obtain ⟨-, d1, d2, d3, d4⟩ := rightB_detach hr h1
    rcases det_err (hl _ (getD_mem [] (show x.2.1.toNat < l.length by omega))) (hl _ (getD_mem [] (show x.2.2.toNat < l.length by omega))) with e | e
    ·exact (h e).elim
    ·exact e.1
  rw [this]; simp
theorem getD_get {l : List (List Int)} {n : Nat} (h : n < l.length) : l.getD n [] = l[n] := by rw [List.getD_eq_getElem?_getD, List.getElem?_eq_getElem h]; rfl
theorem okSteps_get {G : Int} : ∀ (p : List Stp) (n k : Nat) (h : k < p.length), okSteps G n p = true → rightB G (n + k) p[k] = true
 | x :: p, n, 0, _, h => by simp only [okSteps, Bool.and_eq_true] at h; simpa using h.1
 | x :: p, n, k + 1, hk, h => by
  simp only [okSteps, Bool.and_eq_true] at h
  have := okSteps_get p (n + 1) k (by simpa using hk) h.2
  rw [show n + 1 + k = n + (k + 1) by omega] at this
  simpa using this

structure SI (K B0 L0 sb gb pb ab : Nat) (a1 ag ap : Option Addr) (c1 cg cp : Nat) (s : Sg) (g : List (List Int)) (p : List Stp) (acc : List (List Int)) (W : World) : Prop where
 row : RowLt B0 W
 kle : K ≤ W.heap.size
 fcs : W.cell? ⟨sb, 0, none⟩ = some (.slice a1 s.length c1)
 ss : sb < K ∧ Safe B0 W sb
 fcg : W.cell? ⟨gb, 0, none⟩ = some (.slice ag g.length cg)
 fsg : gb < K ∧ Safe B0 W gb
 ca0 : W.cell? ⟨ab, 0, none⟩ = some (.func (.func 207) #[] #[.pointer (some ⟨sb, 0, none⟩), .pointer (some ⟨gb, 0, none⟩)])
 ca1 : W.cell? ⟨ab, 1, none⟩ = some (.func (.func 209) #[] #[.pointer (some ⟨sb, 0, none⟩), .pointer (some ⟨L0, 0, none⟩)])
 ta : ∃ cs, W.heap[ab]? = some (.cells cs 196 (0, 0))
 sa : Safe B0 W ab
 box : TBox W L0 K acc
 kL : K ≤ L0
 sL : Safe B0 W L0
 sR : ∀ r, rowOf L0 W = some r → Safe B0 W r
 sig : Sign (fun b => b < K ∧ Safe B0 W b) W a1 c1 s
 giv : Terms (fun b => b < K ∧ Safe B0 W b) W ag cg g
 prf : Steps (fun b => b < K ∧ Safe B0 W b) W ap cp p
section
variable {K B0 L0 sb gb pb ab : Nat} {a1 ag ap : Option Addr} {c1 cg cp : Nat} {s : Sg} {g : List (List Int)} {p : List Stp} {acc : List (List Int)} {W W' : World}
theorem SI.keep (h : SI K B0 L0 sb gb pb ab a1 ag ap c1 cg cp s g p acc W) (k : Leaves B0 W W') (i : IntKeep W W') : SI K B0 L0 sb gb pb ab a1 ag ap c1 cg cp s g p acc W' := by
 have hm : ∀ b, b < W.heap.size → (b < K ∧ Safe B0 W b) → b < K ∧ Safe B0 W' b := fun b _ hb => ⟨hb.1, k.safe hb.2⟩
 have hA : Agree (fun b => b < K ∧ Safe B0 W b) W W' := fun b hb _ => k.same b hb.2
 have hr := rowOf_same (k.same L0 h.sL)
 exact ⟨k.lt h.row, Nat.le_trans h.kle k.size, k.cell h.ss.2 h.fcs, ⟨h.ss.1, k.safe h.ss.2⟩, k.cell h.fsg.2 h.fcg, ⟨h.fsg.1, k.safe h.fsg.2⟩, k.cell h.sa h.ca0, k.cell h.sa h.ca1, by obtain ⟨cs, hc⟩ := h.ta; exact ⟨cs, (k.same ab h.sa).trans hc⟩, k.safe h.sa,
  h.box.keep (k.same L0 h.sL) (fun r hr => k.same r (h.sR r hr)) i, h.kL, k.safe h.sL, fun r e => k.safe (h.sR r (by rw [← hr]; exact e)), h.sig.mono hm hA, h.giv.mono hm hA, h.prf.mono hm hA⟩
theorem SI.below (h : SI K B0 L0 sb gb pb ab a1 ag ap c1 cg cp s g p acc W) (hb : Below W.heap.size W W') : SI K B0 L0 sb gb pb ab a1 ag ap c1 cg cp s g p acc W' := h.keep (.of_below h.row.1 hb) (.of_below hb)
theorem SI.pushed (h : SI K B0 L0 sb gb pb ab a1 ag ap c1 cg cp s g p acc W) {acc' : List (List Int)} (hsz : W.heap.size ≤ W'.heap.size) (hsame : ∀ b, b < W.heap.size → b ≠ L0 → some b ≠ rowOf L0 W → W'.heap[b]? = W.heap[b]?) (hbox : TBox W' L0 K acc')
  (hrow : rowOf L0 W' = rowOf L0 W ∨ ∃ k, rowOf L0 W' = some k ∧ W.heap.size ≤ k) : SI K B0 L0 sb gb pb ab a1 ag ap c1 cg cp s g p acc' W' ∧ rowOf B0 W' = rowOf B0 W := by
 have hrK : ∀ r, rowOf L0 W = some r → K ≤ r := fun r hr => (h.box.rowCells r hr).1
 have hB : W'.heap[B0]? = W.heap[B0]? := hsame B0 h.row.1 (fun e => h.sL.1 e.symm) (fun e => (h.sR B0 e.symm).1 rfl)
 have hrB := rowOf_same hB
 have hlow : ∀ b, b < K → W'.heap[b]? = W.heap[b]? := fun b hb => hsame b (Nat.lt_of_lt_of_le hb h.kle) (by have := h.kL; omega) (fun e => by have := hrK b e.symm; omega)
 have hsafe : ∀ b, Safe B0 W b → W'.heap[b]? = W.heap[b]? → Safe B0 W' b := fun b hb he => ⟨hb.1, by rw [hrB]; exact hb.2.1, hb.2.2.same he⟩
 have hab : W'.heap[ab]? = W.heap[ab]? := by
  obtain ⟨cs, hc⟩ := h.ta
  refine hsame ab h.sa.2.2.lt (fun e => ?_) (fun e => ?_)
  ·obtain ⟨cur, hcur⟩ := h.box.boxCells
   rw [← e, hc] at hcur
   simp at hcur
  ·obtain ⟨-, -, cur, hcur⟩ := h.box.rowCells ab e.symm
   rw [hc] at hcur
   simp at hcur
 have hm : ∀ b, b < W.heap.size → (b < K ∧ Safe B0 W b) → b < K ∧ Safe B0 W' b := fun b _ hb => ⟨hb.1, hsafe b hb.2 (hlow b hb.1)⟩
 have hA : Agree (fun b => b < K ∧ Safe B0 W b) W W' := fun b hb _ => hlow b hb.1
 have hcell : ∀ {b off : Nat} {v : Value}, W'.heap[b]? = W.heap[b]? → W.cell? ⟨b, off, none⟩ = some v → W'.cell? ⟨b, off, none⟩ = some v := fun he hc => (World.cell?_of_block (w := W) he).trans hc
 refine ⟨⟨⟨Nat.lt_of_lt_of_le h.row.1 hsz, fun r hr => by rw [hrB] at hr; exact Nat.lt_of_lt_of_le (h.row.2 r hr) hsz⟩, Nat.le_trans h.kle hsz, hcell (hlow _ h.ss.1) h.fcs, ⟨h.ss.1, hsafe _ h.ss.2 (hlow _ h.ss.1)⟩, hcell (hlow _ h.fsg.1) h.fcg, ⟨h.fsg.1, hsafe _ h.fsg.2 (hlow _ h.fsg.1)⟩,
  hcell hab h.ca0, hcell hab h.ca1, by obtain ⟨cs, hc⟩ := h.ta; exact ⟨cs, hab.trans hc⟩, hsafe _ h.sa hab, hbox, h.kL, ⟨h.sL.1, by rw [hrB]; exact h.sL.2.1, ?_⟩, fun r hr => ?_, h.sig.mono hm hA, h.giv.mono hm hA, h.prf.mono hm hA⟩, hrB⟩
 ·obtain ⟨cur, hc⟩ := hbox.boxCells
  exact ⟨_, hc, rfl⟩
 ·have hcells : CellsAt W' r := by obtain ⟨-, -, cur, hc⟩ := hbox.rowCells r hr; exact ⟨_, hc, rfl⟩
  rcases hrow with e | ⟨k, e, hk⟩
  ·rw [e] at hr
   have hs := h.sR r hr
   exact ⟨hs.1, by rw [hrB]; exact hs.2.1, hcells⟩
  ·rw [e] at hr
   cases hr
   exact ⟨by have := h.row.1; omega, fun e2 => by rw [hrB] at e2; have := h.row.2 _ e2.symm; omega, hcells⟩
end
theorem SI.more {K B0 L0 sb gb pb ab : Nat} {a1 ag ap : Option Addr} {c1 cg cp : Nat} {s : Sg} {g : List (List Int)} {p : List Stp} {acc acc' : List (List Int)} {W W2 W3 : World} {J : List Td → World → Prop} {pre : List Td}
  (hab : ∀ pre W W' row, J pre W → W.grownBy W' row → (∀ r, row = some r → K ≤ r ∧ ∃ o : Obj, W.heap[r]? = some o ∧ Rw B0 W r o) → J pre W')
  (h : SI K B0 L0 sb gb pb ab a1 ag ap c1 cg cp s g p acc W) (hJ : J pre W) {v : Value} (hg : W.grownBy W2 v.ownBlock) (hg3 : W2.grownBy W3 (some L0)) (hrB : rowOf L0 W = v.ownBlock) (hv2 : W2.heap[L0]? = some (.cells #[v] 77 (0, 0))) (hbox : TBox W3 L0 K acc')
  (hrow : rowOf L0 W3 = v.ownBlock ∨ ∃ k, rowOf L0 W3 = some k ∧ W.heap.size ≤ k) : SI K B0 L0 sb gb pb ab a1 ag ap c1 cg cp s g p acc' W3 ∧ J pre W3 := by
 have hB2 : rowOf B0 W2 = rowOf B0 W := rowOf_same (hg.block B0 h.row.1 (fun e => (h.sR B0 (hrB.trans e.symm)).1 rfl))
 have hJ2 := hab pre W W2 v.ownBlock hJ hg (fun r e => by
  have e2 := hrB.trans e
  obtain ⟨g1, g2, cur, g3⟩ := h.box.rowCells r e2
  have hs := h.sR r e2
  exact ⟨g1, _, g3, cur, _, rfl, by decide, hs.1, hs.2.1⟩)
 have hJ3 := hab pre W2 W3 (some L0) hJ2 hg3 (fun r e => by
  cases e
  exact ⟨h.kL, _, hv2, _, _, rfl, by decide, h.sL.1, by rw [hB2]; exact h.sL.2.1⟩)
 refine ⟨(h.pushed (Nat.le_trans hg.size hg3.size) (fun b hb h1 h2 => ?_) hbox (by rw [hrB]; exact hrow)).1, hJ3⟩
 exact (hg3.block b (Nat.lt_of_lt_of_le hb hg.size) (fun e => h1 (by injection e))).trans (hg.block b hb (by rw [← hrB]; exact h2))
def stRel (K B0 L0 sb gb pb ab : Nat) (a1 ag ap : Option Addr) (c1 cg cp : Nat) (s : Sg) (g : List (List Int)) (p : List Stp) (J : List Td → World → Prop) (i : Value) (wr : World) : Prop :=
 ∃ (k : Nat) (acc : List (List Int)) (pre : List Td), i = .int .i64 k ∧ k ≤ p.length ∧ pre.map Td.pt ++ toldL s g (p.drop k) acc = toldL s g p [] ∧ J pre wr ∧ SI K B0 L0 sb gb pb ab a1 ag ap c1 cg cp s g p acc wr ∧ acc.length = k ∧ pre.length = k ∧ ∀ t ∈ acc, okT s t = true
set_option maxRecDepth 100000 in
set_option maxHeartbeats 8000000 in
theorem steps1_in (n l sb gb pb B0 : Nat) (a1 ag ap : Option Addr) (c1 cg cp : Nat) (s : Sg) (g : List (List Int)) (p : List Stp) (J Jx : List Td → World → Prop) (Wst : World)
  (hab : ∀ pre W W' row, J pre W → W.grownBy W' row → (∀ r, row = some r → Wst.heap.size ≤ r ∧ ∃ o : Obj, W.heap[r]? = some o ∧ Rw B0 W r o) → J pre W')
  (hY : ∀ m pre x W, J pre W → TdR x W → pre.length < p.length → YieldAt Fence.wide m Tryz.prog l x.enc W fun e W' => (e = .returned (.bool true) ∧ J (pre ++ [x]) W' ∧ Kp B0 W W') ∨ (e = .returned (.bool false) ∧ Jx (pre ++ [x]) W'))
  (hg : ∀ t ∈ g, okT s t = true) (hp : okSteps g.length 0 p = true) (hlp : p.length ≤ 60) (hrow : RowLt B0 Wst) (hcs : Wst.cell? ⟨sb, 0, none⟩ = some (.slice a1 s.length c1)) (hss : Safe B0 Wst sb) (hcg : Wst.cell? ⟨gb, 0, none⟩ = some (.slice ag g.length cg)) (hsg : Safe B0 Wst gb)
  (hcp : Wst.cell? ⟨pb, 0, none⟩ = some (.slice ap p.length cp)) (hsig : Sign (Safe B0 Wst) Wst a1 c1 s) (hgiv : Terms (Safe B0 Wst) Wst ag cg g) (hprf : Steps (Safe B0 Wst) Wst ap cp p) (hJ : J [] Wst) :
  CallsIn Fence.wide n Tryz.prog 206 #[.func (.yield l) #[] #[], .pointer (some ⟨sb, 0, none⟩), .pointer (some ⟨gb, 0, none⟩), .pointer (some ⟨pb, 0, none⟩)] Wst fun e W' => (∃ v, e = .returned v) ∧
   ((∃ xs : List Td, xs.map Td.pt = toldL s g p [] ∧ J xs W') ∨ (∃ pre : List Td, pre.map Td.pt <+: toldL s g p [] ∧ Jx pre W')) := by
 have hro : Fence.wide.round = none := rfl
 obtain ⟨W2, hW2⟩ : ∃ W2, (Wst.alloc (.cells #[.slice none 0 0] 77)).alloc (.cells #[.func (.func 207) #[] #[.pointer (some ⟨sb, 0, none⟩), .pointer (some ⟨gb, 0, none⟩)], .func (.func 209) #[] #[.pointer (some ⟨sb, 0, none⟩), .pointer (some ⟨Wst.heap.size, 0, none⟩)]] 196) = W2 := ⟨_, rfl⟩
 have hb2 : Below Wst.heap.size Wst W2 := by rw [← hW2]; exact below2 Wst _ _
 have hl2 : Leaves B0 Wst W2 := .of_below hrow.1 hb2
 have ca0 : W2.cell? ⟨Wst.heap.size + 1, 0, none⟩ = some (.func (.func 207) #[] #[.pointer (some ⟨sb, 0, none⟩), .pointer (some ⟨gb, 0, none⟩)]) := by rw [← hW2]; clear hW2; go_simp
 have ca1 : W2.cell? ⟨Wst.heap.size + 1, 1, none⟩ = some (.func (.func 209) #[] #[.pointer (some ⟨sb, 0, none⟩), .pointer (some ⟨Wst.heap.size, 0, none⟩)]) := by rw [← hW2]; clear hW2; go_simp
 have cL : W2.cell? ⟨Wst.heap.size, 0, none⟩ = some (.slice none 0 0) := by rw [← hW2]; clear hW2; go_simp
 have hTB : TBox W2 Wst.heap.size Wst.heap.size [] := by rw [← hW2]; exact (TBox.new Wst).below (below1 _ _)
 have hta : W2.heap[Wst.heap.size + 1]? = some (.cells #[.func (.func 207) #[] #[.pointer (some ⟨sb, 0, none⟩), .pointer (some ⟨gb, 0, none⟩)], .func (.func 209) #[] #[.pointer (some ⟨sb, 0, none⟩), .pointer (some ⟨Wst.heap.size, 0, none⟩)]] 196 (0, 0)) := by
  rw [← hW2]
  have := World.alloc_heap_new (Wst.alloc (.cells #[.slice none 0 0] 77)) (.cells #[.func (.func 207) #[] #[.pointer (some ⟨sb, 0, none⟩), .pointer (some ⟨gb, 0, none⟩)], .func (.func 209) #[] #[.pointer (some ⟨sb, 0, none⟩), .pointer (some ⟨Wst.heap.size, 0, none⟩)]] 196)
  rw [World.size_alloc] at this
  exact this
 have hrL : rowOf Wst.heap.size W2 = none := by unfold rowOf; rw [cL]; rfl
 have hm : ∀ b, b < Wst.heap.size → Safe B0 Wst b → b < Wst.heap.size ∧ Safe B0 W2 b := fun b hlt hb => ⟨hlt, hl2.safe hb⟩
 have hSI : SI Wst.heap.size B0 Wst.heap.size sb gb pb (Wst.heap.size + 1) a1 ag ap c1 cg cp s g p [] W2 :=
  ⟨hl2.lt hrow, hb2.size, hl2.cell hss hcs, ⟨hss.2.2.lt, hl2.safe hss⟩, hl2.cell hsg hcg, ⟨hsg.2.2.lt, hl2.safe hsg⟩, ca0, ca1, ⟨_, hta⟩, .fresh hrow hb2 (Nat.le_succ _) (.of_cell ca0), hTB, Nat.le_refl _, .fresh hrow hb2 (Nat.le_refl _) (.of_cell cL), (fun r hr => by rw [hrL] at hr; cases hr),
   hsig.mono hm hl2.agree, hgiv.mono hm hl2.agree, hprf.mono hm hl2.agree⟩
 have hJ2 := hab [] Wst W2 none hJ (Below.grow hb2) (fun r e => by cases e)
 have hpb := cell_later hb2 hcp
 have hst : stRel Wst.heap.size B0 Wst.heap.size sb gb pb (Wst.heap.size + 1) a1 ag ap c1 cg cp s g p J (.int .i64 ((0 : Nat) : Int)) W2 := ⟨0, [], [], rfl, Nat.zero_le _, rfl, hJ2, hSI, rfl, rfl, fun t h => by cases h⟩
 have hstH := Lib.hid hst
 have habH := Lib.hid hab
 have hYH := Lib.hid hY
 have hgH := Lib.hid hg
 have hpH := Lib.hid hp
 have mp := hprf.le
 clear hst hab hY hg hp hrow hcs hss hcg hsg hcp hsig hgiv hprf hJ hb2 hl2 ca0 ca1 cL hTB hta hrL hm hSI hJ2
 refine callsIn_of_wp Tryz.func206 rfl trivial ?_ hro
 simp only [Tryz.ntmps206, List.size_toArray, List.length_cons, List.length_nil, Nat.reduceAdd, Nat.reduceSub, Array.replicate_succ, Array.replicate_zero, List.push_toArray, List.append_toArray, List.nil_append, List.cons_append]
 gi_wp2_with fail
 gi_loopw [16] (fun i wr => stRel Wst.heap.size B0 Wst.heap.size sb gb pb (Wst.heap.size + 1) a1 ag ap c1 cg cp s g p J i wr) (fun i _ => p.length - (intOf i).toNat)
 case atStart => exact hstH.out
 case round =>
  clear hstH hpb
  obtain ⟨k, acc, pre, rfl, hk, hpre, hJ, hS, hka, hkp, hacc⟩ := hrel
  subst hka
  by_cases hlt : acc.length < p.length
  ·obtain ⟨bp, op, rfl, -, q0, q1, q2, hr⟩ := hS.prf.stp acc.length hlt
   have hright := okSteps_get p 0 acc.length hlt hpH.out
   have htd := toldL_drop (s := s) (g := g) (l := acc) hlt
   rw [Nat.zero_add] at hright
   obtain ⟨x, hx⟩ : ∃ x, p[acc.length] = x := ⟨_, rfl⟩
   rw [hx] at hright htd q0 q1 q2
   have hlen60 := stepE_len hgH.out hacc hright
   have hokn := fun h => step_okT (l := acc) hgH.out hright h
   obtain ⟨kd, A, Bv⟩ := x
   simp only at q0 q1 q2
   obtain ⟨W1, hW1⟩ : ∃ W, wr.alloc (.cells #[.int .i64 kd, .int .i64 A, .int .i64 Bv] 117) = W := ⟨_, rfl⟩
   have hb1 : Below wr.heap.size wr W1.drew := by rw [← hW1]; exact (below1 wr _).drew
   have x0 : W1.drew.cell? ⟨wr.heap.size, 0, none⟩ = some (.int .i64 kd) := (by rw [← hW1]; clear hW1; go_simp : W1.cell? ⟨wr.heap.size, 0, none⟩ = some (.int .i64 kd))
   have x1 : W1.drew.cell? ⟨wr.heap.size, 1, none⟩ = some (.int .i64 A) := (by rw [← hW1]; clear hW1; go_simp : W1.cell? ⟨wr.heap.size, 1, none⟩ = some (.int .i64 A))
   have x2 : W1.drew.cell? ⟨wr.heap.size, 2, none⟩ = some (.int .i64 Bv) := (by rw [← hW1]; clear hW1; go_simp : W1.cell? ⟨wr.heap.size, 2, none⟩ = some (.int .i64 Bv))
   have hSd := hS.below hb1
   obtain ⟨aL, cL, hcL, hTL⟩ := hSd.box.slice
   obtain ⟨⟨rt, re⟩, hre⟩ : ∃ r, stepE s g acc (kd, A, Bv) = r := ⟨_, rfl⟩
   have hcase : (kd = 1 ∧ Calls Tryz.prog 207 #[.agg #[.int .i64 kd, .int .i64 A, .int .i64 Bv], .pointer (some ⟨sb, 0, none⟩), .pointer (some ⟨gb, 0, none⟩)] W1.drew (retE (rt, re) W1.drew)) ∨
     (kd = 2 ∧ Calls Tryz.prog 209 #[.agg #[.int .i64 kd, .int .i64 A, .int .i64 Bv], .pointer (some ⟨sb, 0, none⟩), .pointer (some ⟨Wst.heap.size, 0, none⟩)] W1.drew (retE (rt, re) W1.drew)) := by
    by_cases h1 : kd = 1
    ·left
     subst h1
     obtain ⟨g1, g2, -⟩ := rightB_cite hright rfl
     simp only at g1 g2
     obtain ⟨n1, rfl⟩ := Int.eq_ofNat_of_zero_le g1
     have hn1 : n1 < g.length := by omega
     have hst : stepE s g acc (1, (n1 : Int), Bv) = (canon g[n1], 0) := by
      unfold stepE
      rw [if_pos rfl]
      simp only [Int.toNat_natCast]
      rw [getD_get hn1]
     rw [← hre, hst]
     exact ⟨rfl, cite_any a1 ag c1 cg sb gb n1 Bv s g W1.drew hSd.sig hSd.giv hSd.fcs hSd.fcg hn1 (hgH.out _ (List.getElem_mem hn1))⟩
    ·right
     obtain ⟨h2, d1, d2, d3, d4⟩ := rightB_detach hright h1
     simp only at h2 d1 d2 d3 d4
     subst h2
     obtain ⟨n1, rfl⟩ := Int.eq_ofNat_of_zero_le d1
     obtain ⟨m1, rfl⟩ := Int.eq_ofNat_of_zero_le d3
     have hn1 : n1 < acc.length := by omega
     have hm1 : m1 < acc.length := by omega
     have hst : stepE s g acc (2, (n1 : Int), (m1 : Int)) = detE s acc[n1] acc[m1] := by
      unfold stepE
      rw [if_neg h1]
      simp only [Int.toNat_natCast]
      rw [getD_get hn1, getD_get hm1]
     rw [← hre, hst]
     exact ⟨rfl, stepdet_any a1 aL c1 cL sb Wst.heap.size n1 m1 s acc W1.drew hSd.sig hTL hSd.fcs hcL hn1 hm1⟩
   rw [hre] at htd hlen60 hokn
   simp only at htd hlen60 hokn
   have hf0 := hSd.ca0
   have hf1 := hSd.ca1
   have hSdH := Lib.hid hSd
   have hJdH := Lib.hid (habH.out pre wr W1.drew none hJ (Below.grow hb1) (fun r e => by cases e))
   have hpreH := Lib.hid hpre
   have htdH := Lib.hid htd
   have hl60H := Lib.hid hlen60
   have hoknH := Lib.hid hokn
   have haccH := Lib.hid hacc
   clear hS hJ hSd hpre htd hlen60 hokn hacc hTL hcL hright hx hre hr
   have hz0 : IntKind.i64.wrap 0 = 0 := IntWalk.i64_in _ (by omega)
   have hz1 : IntKind.i64.wrap 1 = 1 := IntWalk.i64_in _ (by omega)
   rcases hcase with ⟨rfl, cc⟩ | ⟨rfl, cc⟩
   ·have ccH := Lib.hid cc
    clear cc hf1
    gi_wp2
    try rw [hW1]
    refine wpIn_wide.2 ?_
    refine wp_region_held_drew (S := fun w' => w'.cell? ⟨wr.heap.size, 0, none⟩ = some (.int .i64 1) ∧ w'.cell? ⟨wr.heap.size, 1, none⟩ = some (.int .i64 A) ∧ w'.cell? ⟨wr.heap.size, 2, none⟩ = some (.int .i64 Bv) ∧ w'.cell? ⟨Wst.heap.size + 1, 0, none⟩ = some (.func (.func 207) #[] #[.pointer (some ⟨sb, 0, none⟩), .pointer (some ⟨gb, 0, none⟩)])) (by kernel_rfl) ⟨x0, x1, x2, hf0⟩ (fun hS => ?_)
    refine rtk 0 21 (v := ?_) hS ?_ ?_; rotate_left; · (intro w9 hS9; obtain ⟨s91, s92, s93, s94⟩ := hS9; go_simp; try (with_reducible rfl))
    refine rtk 1 22 (v := ?_) hS ?_ ?_; rotate_left; · (intro w9 hS9; obtain ⟨s91, s92, s93, s94⟩ := hS9; go_simp; try (with_reducible rfl))
    refine rtk 2 23 (v := ?_) hS ?_ ?_; rotate_left; · (intro w9 hS9; obtain ⟨s91, s92, s93, s94⟩ := hS9; go_simp; try (with_reducible rfl))
    refine rtk 3 24 (v := ?_) hS ?_ ?_; rotate_left; · (intro w9 hS9; obtain ⟨s91, s92, s93, s94⟩ := hS9; go_simp; try (with_reducible rfl))
    refine rtk 4 25 (v := ?_) hS ?_ ?_; rotate_left; · (intro w9 hS9; obtain ⟨s91, s92, s93, s94⟩ := hS9; go_simp; try (with_reducible rfl))
    refine rtk 5 26 (v := ?_) hS ?_ ?_; rotate_left; · (intro w9 hS9; obtain ⟨s91, s92, s93, s94⟩ := hS9; go_simp; try (with_reducible rfl))
    refine region_call 6 rfl (by kernel_rfl) (fun K hK => ?_)
    go_simp
    (with_reducible refine ccH.out.mono ?_)
    rintro e w8 ⟨v, rfl, ho, hb8⟩
    refine hK.out _ _ ⟨cell_later hb8 x0, cell_later hb8 x1, cell_later hb8 x2, cell_later hb8 hf0⟩ ?_
    clear hS hK
    intro hS
    refine rtk 7 20 (v := ?_) hS ?_ ?_; rotate_left; · (intro w9 hS9; obtain ⟨s91, s92, s93, s94⟩ := hS9; go_simp; try (with_reducible rfl))
    refine rtk 8 28 (v := ?_) hS ?_ ?_; rotate_left; · (intro w9 hS9; obtain ⟨s91, s92, s93, s94⟩ := hS9; go_simp; try (with_reducible rfl))
    refine rtk 9 29 (v := ?_) hS ?_ ?_; rotate_left; · (intro w9 hS9; obtain ⟨s91, s92, s93, s94⟩ := hS9; go_simp; try (with_reducible rfl))
    refine rtk 10 9 (v := ?_) hS ?_ ?_; rotate_left; · (intro w9 hS9; obtain ⟨s91, s92, s93, s94⟩ := hS9; go_simp; try (with_reducible rfl))
    refine rtk 11 10 (v := ?_) hS ?_ ?_; rotate_left; · (intro w9 hS9; obtain ⟨s91, s92, s93, s94⟩ := hS9; go_simp; try (with_reducible rfl))
    refine wpAnyH_done (by kernel_rfl) ?_ _
    clear hS
    have hS8 := hSdH.out.below hb8
    have hJ8 := habH.out pre W1.drew w8 none hJdH.out (Below.grow hb8) (fun r e => by cases e)
    obtain ⟨a4, c4, rfl, hI4⟩ := OwnI.intsB ho
    simp only at hI4
    obtain ⟨vL, a', cap, W9, k1, k2, k3, k4, k5, k6, k7, k8, k9, k10, k11⟩ := hS8.box.push hS8.kle (.refl _ _) hI4 (by omega)
    obtain ⟨hS10, hJ10⟩ := SI.more habH.out hS8 hJ8 k6.out k7.out k8.out k9.out k5.out k11.out
    have hR10 : TdR ⟨a4, c4, rt, re⟩ (W9.setCell ⟨Wst.heap.size, 0, none⟩ (.slice a' (acc.length + 1) cap)) := ⟨hI4.intKeep k10.out, hl60H.out⟩
    have hy0 := hYH.out (n - 1) pre ⟨a4, c4, rt, re⟩ _ hJ10 hR10 (by omega)
    obtain ⟨fn, tmps, assign, body, hy, hR⟩ := hy0
    dsimp only [Td.enc] at hy
    have k1 := k1.out
    have k2 := k2.out
    have k3 := k3.out
    have k4 := k4.out
    have hS10H := Lib.hid hS10
    have hRH := Lib.hid hR
    clear hS10 hR hR10 hJ10 hJ8 hS8 k5 k6 k7 k8 k9 k10 k11 hI4 ho hb8
    gi_wp2_with (refine wpListIn_append_run rfl (.tmp 30) (.tmp 32) 77 rfl rfl rfl k2 ?_)
    refine ⟨fun h => (by cases h), ?_⟩
    refine hRH.out.mono ?_
    clear hy k1 k2 k3 k4
    rintro e W11 (⟨rfl, hJ1, hk1⟩ | ⟨rfl, hJx1⟩)
    ·by_cases hr0 : re = 0
     ·subst hr0
      have hst : stRel Wst.heap.size B0 Wst.heap.size sb gb pb (Wst.heap.size + 1) a1 ag (some ⟨bp, op, none⟩) c1 cg cp s g p J (.int .i64 ((acc.length + 1 : Nat) : Int)) W11 := by
       refine ⟨acc.length + 1, acc ++ [rt], pre ++ [⟨a4, c4, rt, 0⟩], rfl, by omega, ?_, hJ1, hS10H.out.keep hk1.1 hk1.2, by simp, by simp [hkp], fun t ht => ?_⟩
       ·have h1 := hpreH.out
        rw [htdH.out, if_pos rfl] at h1
        rw [List.map_append, List.append_assoc, ← h1]; rfl
       ·rcases List.mem_append.1 ht with h2 | h2
        ·exact haccH.out t h2
        ·rw [List.mem_singleton] at h2; rw [h2]; exact hoknH.out rfl
      have hstH := Lib.hid hst
      clear hst hJ1 hk1
      gi_wp2
      go_roundw
      case rel => exact hstH.out
      case measure => simp [intOf]; omega
     ·have hrb : (re != 0) = true := by simpa using hr0
      have hfin : ∃ xs : List Td, xs.map Td.pt = toldL s g p [] ∧ J xs W11 := by
       refine ⟨pre ++ [⟨a4, c4, rt, re⟩], ?_, hJ1⟩
       have h1 := hpreH.out
       rw [htdH.out, if_neg hr0] at h1
       rw [List.map_append, ← h1]; rfl
      have hfinH := Lib.hid hfin
      clear hfin hJ1 hk1 hr0
      gi_wp2
      try simp only [Exit.inBlock, Exit.then]
      refine bodyPost_ret (results_none rfl _ _ _) rfl ?_
      exact ⟨⟨_, rfl⟩, .inl hfinH.out⟩
    ·have hpf : (pre ++ [(⟨a4, c4, rt, re⟩ : Td)]).map Td.pt <+: toldL s g p [] := by
      have h1 := hpreH.out
      rw [htdH.out] at h1
      rw [← h1, List.map_append]
      exact ⟨_, by rw [List.append_assoc]; rfl⟩
     have hpfH := Lib.hid hpf
     clear hpf
     gi_wp2
     try simp only [Exit.inBlock, Exit.then]
     refine bodyPost_ret (results_none rfl _ _ _) rfl ?_
     exact ⟨⟨_, rfl⟩, .inr ⟨_, hpfH.out, hJx1⟩⟩
   ·have ccH := Lib.hid cc
    clear cc hf0
    gi_wp2
    try rw [hW1]
    refine wpIn_wide.2 ?_
    refine wp_region_held_drew (S := fun w' => w'.cell? ⟨wr.heap.size, 0, none⟩ = some (.int .i64 2) ∧ w'.cell? ⟨wr.heap.size, 1, none⟩ = some (.int .i64 A) ∧ w'.cell? ⟨wr.heap.size, 2, none⟩ = some (.int .i64 Bv) ∧ w'.cell? ⟨Wst.heap.size + 1, 1, none⟩ = some (.func (.func 209) #[] #[.pointer (some ⟨sb, 0, none⟩), .pointer (some ⟨Wst.heap.size, 0, none⟩)])) (by kernel_rfl) ⟨x0, x1, x2, hf1⟩ (fun hS => ?_)
    refine rtk 0 21 (v := ?_) hS ?_ ?_; rotate_left; · (intro w9 hS9; obtain ⟨s91, s92, s93, s94⟩ := hS9; go_simp; try (with_reducible rfl))
    refine rtk 1 22 (v := ?_) hS ?_ ?_; rotate_left; · (intro w9 hS9; obtain ⟨s91, s92, s93, s94⟩ := hS9; go_simp; try (with_reducible rfl))
    refine rtk 2 23 (v := ?_) hS ?_ ?_; rotate_left; · (intro w9 hS9; obtain ⟨s91, s92, s93, s94⟩ := hS9; go_simp; try (with_reducible rfl))
    refine rtk 3 24 (v := ?_) hS ?_ ?_; rotate_left; · (intro w9 hS9; obtain ⟨s91, s92, s93, s94⟩ := hS9; go_simp; try (with_reducible rfl))
    refine rtk 4 25 (v := ?_) hS ?_ ?_; rotate_left; · (intro w9 hS9; obtain ⟨s91, s92, s93, s94⟩ := hS9; go_simp; try (with_reducible rfl))
    refine rtk 5 26 (v := ?_) hS ?_ ?_; rotate_left; · (intro w9 hS9; obtain ⟨s91, s92, s93, s94⟩ := hS9; go_simp; try (with_reducible rfl))
    refine region_call 6 rfl (by kernel_rfl) (fun K hK => ?_)
    go_simp
    (with_reducible refine ccH.out.mono ?_)
    rintro e w8 ⟨v, rfl, ho, hb8⟩
    refine hK.out _ _ ⟨cell_later hb8 x0, cell_later hb8 x1, cell_later hb8 x2, cell_later hb8 hf1⟩ ?_
    clear hS hK
    intro hS
    refine rtk 7 20 (v := ?_) hS ?_ ?_; rotate_left; · (intro w9 hS9; obtain ⟨s91, s92, s93, s94⟩ := hS9; go_simp; try (with_reducible rfl))
    refine rtk 8 28 (v := ?_) hS ?_ ?_; rotate_left; · (intro w9 hS9; obtain ⟨s91, s92, s93, s94⟩ := hS9; go_simp; try (with_reducible rfl))
    refine rtk 9 29 (v := ?_) hS ?_ ?_; rotate_left; · (intro w9 hS9; obtain ⟨s91, s92, s93, s94⟩ := hS9; go_simp; try (with_reducible rfl))
    refine rtk 10 9 (v := ?_) hS ?_ ?_; rotate_left; · (intro w9 hS9; obtain ⟨s91, s92, s93, s94⟩ := hS9; go_simp; try (with_reducible rfl))
    refine rtk 11 10 (v := ?_) hS ?_ ?_; rotate_left; · (intro w9 hS9; obtain ⟨s91, s92, s93, s94⟩ := hS9; go_simp; try (with_reducible rfl))
    refine wpAnyH_done (by kernel_rfl) ?_ _
    clear hS
    have hS8 := hSdH.out.below hb8
    have hJ8 := habH.out pre W1.drew w8 none hJdH.out (Below.grow hb8) (fun r e => by cases e)
    obtain ⟨a4, c4, rfl, hI4⟩ := OwnI.intsB ho
    simp only at hI4
    obtain ⟨vL, a', cap, W9, k1, k2, k3, k4, k5, k6, k7, k8, k9, k10, k11⟩ := hS8.box.push hS8.kle (.refl _ _) hI4 (by omega)
    obtain ⟨hS10, hJ10⟩ := SI.more habH.out hS8 hJ8 k6.out k7.out k8.out k9.out k5.out k11.out
    have hR10 : TdR ⟨a4, c4, rt, re⟩ (W9.setCell ⟨Wst.heap.size, 0, none⟩ (.slice a' (acc.length + 1) cap)) := ⟨hI4.intKeep k10.out, hl60H.out⟩
    have hy0 := hYH.out (n - 1) pre ⟨a4, c4, rt, re⟩ _ hJ10 hR10 (by omega)
    obtain ⟨fn, tmps, assign, body, hy, hR⟩ := hy0
    dsimp only [Td.enc] at hy
    have k1 := k1.out
    have k2 := k2.out
    have k3 := k3.out
    have k4 := k4.out
    have hS10H := Lib.hid hS10
    have hRH := Lib.hid hR
    clear hS10 hR hR10 hJ10 hJ8 hS8 k5 k6 k7 k8 k9 k10 k11 hI4 ho hb8
    gi_wp2_with (refine wpListIn_append_run rfl (.tmp 30) (.tmp 32) 77 rfl rfl rfl k2 ?_)
    refine ⟨fun h => (by cases h), ?_⟩
    refine hRH.out.mono ?_
    clear hy k1 k2 k3 k4
    rintro e W11 (⟨rfl, hJ1, hk1⟩ | ⟨rfl, hJx1⟩)
    ·by_cases hr0 : re = 0
     ·subst hr0
      have hst : stRel Wst.heap.size B0 Wst.heap.size sb gb pb (Wst.heap.size + 1) a1 ag (some ⟨bp, op, none⟩) c1 cg cp s g p J (.int .i64 ((acc.length + 1 : Nat) : Int)) W11 := by
       refine ⟨acc.length + 1, acc ++ [rt], pre ++ [⟨a4, c4, rt, 0⟩], rfl, by omega, ?_, hJ1, hS10H.out.keep hk1.1 hk1.2, by simp, by simp [hkp], fun t ht => ?_⟩
       ·have h1 := hpreH.out
        rw [htdH.out, if_pos rfl] at h1
        rw [List.map_append, List.append_assoc, ← h1]; rfl
       ·rcases List.mem_append.1 ht with h2 | h2
        ·exact haccH.out t h2
        ·rw [List.mem_singleton] at h2; rw [h2]; exact hoknH.out rfl
      have hstH := Lib.hid hst
      clear hst hJ1 hk1
      gi_wp2
      go_roundw
      case rel => exact hstH.out
      case measure => simp [intOf]; omega
     ·have hrb : (re != 0) = true := by simpa using hr0
      have hfin : ∃ xs : List Td, xs.map Td.pt = toldL s g p [] ∧ J xs W11 := by
       refine ⟨pre ++ [⟨a4, c4, rt, re⟩], ?_, hJ1⟩
       have h1 := hpreH.out
       rw [htdH.out, if_neg hr0] at h1
       rw [List.map_append, ← h1]; rfl
      have hfinH := Lib.hid hfin
      clear hfin hJ1 hk1 hr0
      gi_wp2
      try simp only [Exit.inBlock, Exit.then]
      refine bodyPost_ret (results_none rfl _ _ _) rfl ?_
      exact ⟨⟨_, rfl⟩, .inl hfinH.out⟩
    ·have hpf : (pre ++ [(⟨a4, c4, rt, re⟩ : Td)]).map Td.pt <+: toldL s g p [] := by
      have h1 := hpreH.out
      rw [htdH.out] at h1
      rw [← h1, List.map_append]
      exact ⟨_, by rw [List.append_assoc]; rfl⟩
     have hpfH := Lib.hid hpf
     clear hpf
     gi_wp2
     try simp only [Exit.inBlock, Exit.then]
     refine bodyPost_ret (results_none rfl _ _ _) rfl ?_
     exact ⟨⟨_, rfl⟩, .inr ⟨_, hpfH.out, hJx1⟩⟩
  ·have hkl : p.length ≤ acc.length := by omega
   have hfin : ∃ xs : List Td, xs.map Td.pt = toldL s g p [] ∧ J xs wr := by
    refine ⟨pre, ?_, hJ⟩
    have h1 := hpre
    rw [List.drop_of_length_le (by omega), toldL, List.append_nil] at h1
    exact h1
   have hfinH := Lib.hid hfin
   clear hfin hJ hpre hS
   gi_wp2
   go_end0
   exact ⟨⟨_, rfl⟩, .inl hfinH.out⟩
end Go.Proofs.YtpmnnoopoblpgaaGreat
