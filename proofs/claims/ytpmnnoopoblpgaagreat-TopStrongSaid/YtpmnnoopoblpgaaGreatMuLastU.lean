/- The statement TopStrongSaid: for every input TopStrong returns true and leaves its arguments as they were. No condition. -/
import Derived.Test.YtpmnnoopoblpgaaGreatRegS
import Derived.Test.YtpmnnoopoblpgaaGreatMuA
import Derived.Test.YtpmnnoopoblpgaaGreatMuE
import Derived.Test.YtpmnnoopoblpgaaGreatMuJ
import Derived.Test.YtpmnnoopoblpgaaGreatBase
import Derived.ProofKit
import Derived.LaidMore
import Derived.OpenShut
import Derived.Stop.Joined
import Derived.ChangeMaps5
import Derived.Test.YtpmnnoopoblpgaaGreatMuD
import Derived.Test.YtpmnnoopoblpgaaGreatMuR
import Derived.Test.YtpmnnoopoblpgaaGreatLit
import Derived.Test.YtpmnnoopoblpgaaGreatMuH
import Derived.Test.YtpmnnoopoblpgaaGreatMuP
/- Each thing follows from itself: what the proof of the laws on kernel says, in plain words. No program is named. -/
namespace Go.Proofs.YtpmnnoopoblpgaaGreat

def aw4S : Sg := [(⟨#[67]⟩, 2)]
def aw4K : List Int := [0, -1, 0, -2, -1]
def aw4C : List Int := [0, 0, -1, 0, -2, -3, 0, 0, -1, -2, 0, -1, -3]
def aw4P : List Stp := [(1, 1, 0), (1, 0, 0), (2, 0, 1), (2, 2, 1)]
end Go.Proofs.YtpmnnoopoblpgaaGreat

/- The chapter's example of a library, in plain words: it is sound, i leans on k and s, and it breaks if k says that each thing follows from itself. No program is named. -/
namespace Go.Proofs.YtpmnnoopoblpgaaGreat

def nK : ByteArray := ⟨#[107]⟩
def nS : ByteArray := ⟨#[115]⟩
def nAnn : ByteArray := ⟨#[97, 110, 110]⟩
def skI : List Int := [0, -1, -1]
theorem ins_self {s : Sg} {a : List Int} : instB s a a = true := instB_iff.2 ⟨fun n => [n], fun _ hn => W1.var hn, ap_id (fun _ _ _ => rfl)⟩
/-! if k says that each thing follows from itself -/
end Go.Proofs.YtpmnnoopoblpgaaGreat

/- What leans on what, told by marks and told by names. No program is named. -/
namespace Go.Proofs.YtpmnnoopoblpgaaGreat

def axI (l : List Ent) (i : Nat) : Bool := decide (ePf (l.getD i default) = [])
theorem axI_at {l : List Ent} {i : Nat} (h : i < l.length) : axI l i = decide (ePf l[i] = []) := by unfold axI; rw [getD_at h]
noncomputable def axiomsF (l : List Ent) (n : ByteArray) (i : Nat) : ByteArray → Bool :=
 if axI l i = true then (fun x => decide (x = n)) else chB l (fun k => axI l k && rchB l (fun _ => true) n (nmI l k))
theorem rch_no {us : ByteArray → List ByteArray} {may : ByteArray → Prop} {n y : ByteArray} (h : Rch us may n y) (h0 : us n = []) : False := by
 obtain ⟨v, hv, -⟩ := h.head
 rw [h0] at hv; cases hv
/-! ### layers -/
def layU (l : List Ent) (i : Nat) (o : List Int) (u : ByteArray) : List Int := o.set i (max (o.getD i 0) (o.getD ((atN l u).getD 0) 0 + 1))
def LayB (M : Int) (o : List Int) : Prop := ∀ j, 0 ≤ o.getD j 0 ∧ o.getD j 0 ≤ M
theorem LayB.zero (n : Nat) : LayB 0 (List.replicate n 0) := fun j => by
 rw [List.getD_eq_getElem?_getD, List.getElem?_replicate]
 split <;> simp
theorem LayB.step {M : Int} {o : List Int} (h : LayB M o) (l : List Ent) (i : Nat) (u : ByteArray) : LayB (M + 1) (layU l i o u) := by
 intro j
 have h1 := h i
 have h2 := h ((atN l u).getD 0)
 have h3 := h j
 unfold layU
 rw [List.getD_eq_getElem?_getD, List.getElem?_set]
 split
 ·split
  ·simp only [Option.getD_some]; omega
  ·simp; omega
 ·rw [← List.getD_eq_getElem?_getD]; omega
end Go.Proofs.YtpmnnoopoblpgaaGreat

/- Facts of the program's types that the rows over the kernel want; the start of a row that lists variables. -/
namespace Go.Proofs.YtpmnnoopoblpgaaGreat
open Go Go.RowKit Go.ChangeShapes Go.WideShapes Go.ChangeAt Go.Deep

theorem gives3 {P : Program} {t : TypeId} {α β γ : Type} {E : Enc α} {F : Enc β} {G : Enc γ} {f0 f1 f2 : Field} (ht : P.underlying t = some (.struct #[f0, f1, f2])) (h0 : f0.offset = 0) (h1 : f1.offset = E.size) (h2 : f2.offset = E.size + F.size) (hc : P.cellsOf t = E.size + (F.size + G.size))
  (hc0 : P.cellsOf f0.type = E.size) (hc1 : P.cellsOf f1.type = F.size) (hc2 : P.cellsOf f2.type = G.size) (g0 : Gives P f0.type E) (g1 : Gives P f1.type F) (g2 : Gives P f2.type G) : Gives P t (pairE E (pairE F G)) := by
 intro H enc w base spare held n cs x h
 obtain ⟨y0, y1, y2, n', _, hl, r0, r1, r2⟩ := trod_struct3 ht h
 obtain ⟨a, ha⟩ := g0 H enc w base spare held n' _ _ r0
 obtain ⟨b, hb⟩ := g1 H enc w base spare held n' _ _ r1
 obtain ⟨c, hcc⟩ := g2 H enc w base spare held n' _ _ r2
 refine ⟨(a, b, c), _, _, ?_, ha, _, _, rfl, hb, hcc⟩
 rw [h0, h1, h2, hc0, hc1, hc2, List.drop_zero]
 have e1 : (cs.drop (E.size + F.size)).take G.size = cs.drop (E.size + F.size) := List.take_of_length_le (by simp; omega)
 rw [e1, ← List.drop_drop, List.take_append_drop, List.take_append_drop]
theorem gStp : Gives Tryz.prog 117 stpE := gives3 Tryz.underlying117 rfl rfl rfl (by kernel_rfl) (by kernel_rfl) (by kernel_rfl) (by kernel_rfl) gInt gInt gInt
theorem gSteps : Gives Tryz.prog 35 (slE stpE) := gives_slice Tryz.underlying35 (by kernel_rfl) gStp
end Go.Proofs.YtpmnnoopoblpgaaGreat

/- Facts of the program's types that the rows over libraries want. -/
namespace Go.Proofs.YtpmnnoopoblpgaaGreat
open Go Go.RowKit Go.ChangeShapes Go.WideShapes Go.ChangeAt Go.Deep

theorem gives5 {P : Program} {t : TypeId} {α β γ δ ε : Type} {E : Enc α} {F : Enc β} {G : Enc γ} {J : Enc δ} {K : Enc ε} {f0 f1 f2 f3 f4 : Field} (ht : P.underlying t = some (.struct #[f0, f1, f2, f3, f4])) (h0 : f0.offset = 0) (h1 : f1.offset = E.size) (h2 : f2.offset = E.size + F.size) (h3 : f3.offset = E.size + F.size + G.size) (h4 : f4.offset = E.size + F.size + G.size + J.size)
  (hc : P.cellsOf t = E.size + (F.size + (G.size + (J.size + K.size)))) (hc0 : P.cellsOf f0.type = E.size) (hc1 : P.cellsOf f1.type = F.size) (hc2 : P.cellsOf f2.type = G.size) (hc3 : P.cellsOf f3.type = J.size) (hc4 : P.cellsOf f4.type = K.size)
  (g0 : Gives P f0.type E) (g1 : Gives P f1.type F) (g2 : Gives P f2.type G) (g3 : Gives P f3.type J) (g4 : Gives P f4.type K) : Gives P t (pairE E (pairE F (pairE G (pairE J K)))) := by
 intro H enc w base spare held n cs x h
 obtain ⟨xs, n', _, rfl, hl, hlen, hf⟩ := DataW.trod_struct ht h
 match xs, hlen with
 | [y0, y1, y2, y3, y4], _ =>
  have r0 := hf 0 f0 rfl
  have r1 := hf 1 f1 rfl
  have r2 := hf 2 f2 rfl
  have r3 := hf 3 f3 rfl
  have r4 := hf 4 f4 rfl
  simp only [List.getElem?_cons_zero, List.getElem?_cons_succ] at r0 r1 r2 r3 r4
  obtain ⟨a, ha⟩ := g0 H enc w base spare held n' _ _ r0
  obtain ⟨b, hb⟩ := g1 H enc w base spare held n' _ _ r1
  obtain ⟨c, hcc⟩ := g2 H enc w base spare held n' _ _ r2
  obtain ⟨d, hd⟩ := g3 H enc w base spare held n' _ _ r3
  obtain ⟨e, he⟩ := g4 H enc w base spare held n' _ _ r4
  refine ⟨(a, b, c, d, e), _, _, ?_, ha, _, _, rfl, hb, _, _, rfl, hcc, _, _, rfl, hd, he⟩
  rw [h0, h1, h2, h3, h4, hc0, hc1, hc2, hc3, hc4, List.drop_zero]
  have e1 : (cs.drop (E.size + F.size + G.size + J.size)).take K.size = cs.drop (E.size + F.size + G.size + J.size) := List.take_of_length_le (by simp; omega)
  have e2 : cs.drop (E.size + F.size + G.size + J.size) = (cs.drop (E.size + F.size + G.size)).drop J.size := by rw [List.drop_drop]
  have e3 : cs.drop (E.size + F.size + G.size) = (cs.drop (E.size + F.size)).drop G.size := by rw [List.drop_drop]
  have e4 : cs.drop (E.size + F.size) = (cs.drop E.size).drop F.size := by rw [List.drop_drop]
  rw [e1, e2, List.take_append_drop, e3, List.take_append_drop, e4, List.take_append_drop, List.take_append_drop]
theorem gStrs : Gives Tryz.prog 29 (slE strE) := gives_slice Tryz.underlying29 (by kernel_rfl) gStr
theorem gEnt : Gives Tryz.prog 37 entE := gives5 Tryz.underlying37 rfl rfl rfl rfl rfl (by kernel_rfl) (by kernel_rfl) (by kernel_rfl) (by kernel_rfl) (by kernel_rfl) (by kernel_rfl) gStr gStr gTerm gStrs gSteps
theorem gLib : Gives Tryz.prog 24 (slE entE) := gives_slice Tryz.underlying24 (by kernel_rfl) gEnt
end Go.Proofs.YtpmnnoopoblpgaaGreat

/- Walks of package kernel: Run, Says: what is said lies in blocks of ints or in new ones. -/
namespace Go.Proofs.YtpmnnoopoblpgaaGreat
open Go Go.RowKit Go.Maps

def FrI (w w' : World) (b : Nat) : Prop := w.heap.size ≤ b ∨ IntB w' b
theorem Ints.fr {w w1 w2 : World} {a : Option Addr} {c : Nat} {t : List Int} (h : Ints (FrI w w1) w1 a c t) (hb : Below w1.heap.size w1 w2) : Ints (FrI w w2) w2 a c t :=
 h.mono (fun _ _ hb' => hb'.imp id (IntKeep.of_below hb).b) (.all hb)
theorem Ints.frB {w0 w w1 : World} {a : Option Addr} {c : Nat} {t : List Int} (h : Ints (FrI w w1) w1 a c t) (hw : w0.heap.size ≤ w.heap.size) : Ints (FrI w0 w1) w1 a c t := h.weak (fun _ hb => hb.imp (Nat.le_trans hw) id)
def retRB (r : List (List Int) × Int × Int) (w : World) (e : Ending) (w' : World) : Prop := ∃ v, e = .returned (.tuple #[v, .int .i64 r.2.1, .int .i64 r.2.2]) ∧ OwnTT w' w.heap.size v r.1 ∧ Below w.heap.size w w'
def retSB (r : List Int × Int) (w : World) (e : Ending) (w' : World) : Prop := ∃ a c, e = .returned (.tuple #[.slice a r.1.length c, .int .i64 r.2]) ∧ Ints (FrI w w') w' a c r.1 ∧ Below w.heap.size w w'
set_option maxHeartbeats 1000000 in
theorem RunB_any {S1 S2 S3 : Nat → Prop} (a1 ag ap : Option Addr) (c1 cg cp : Nat) (s : Sg) (g : List (List Int)) (p : List Stp) (w : World) (h1 : Sign S1 w a1 c1 s) (h2 : Terms S2 w ag cg g) (h3 : Steps S3 w ap cp p) :
  Calls Tryz.prog 73 #[.slice a1 s.length c1, .slice ag g.length cg, .slice ap p.length cp] w (retRB (runR s g p) w) := by
 have m1 := h1.le
 have m2 := h2.le
 have m3 := h3.le
 have v1 := asked_any a1 ag ap c1 cg cp s g p w h1 h2 h3
 cases hx : askedB s g p with
 | false =>
  rw [hx] at v1
  have hrH := Lib.hid (show runR s g p = ([], 0, 1) by rw [runR, hx]; rfl)
  have v1H := Lib.hid v1
  clear v1 h1 h2 h3 hx
  go_enter Tryz.func73, Tryz.ntmps73
  go_wp2_with fail
  refine v1H.out.mono ?_
  rintro e w1 ⟨rfl, hb1⟩
  go_wp2_with fail
  go_ret3
  rw [hrH.out]
  exact ⟨_, rfl, .nil _ _ _ _ _, hb1⟩
 | true =>
  rw [hx] at v1
  obtain ⟨q1, q2, -, q3⟩ := askedB_full hx
  have v2 := fun W (hb : Below w.heap.size w W) => krunB_any a1 ag ap c1 cg cp s g p W (h1.below hb) (h2.below hb) (h3.below hb) q1 q2 q3
  obtain ⟨L, E, hLE⟩ : ∃ L E, runL s g p [] = (L, E) := ⟨_, _, rfl⟩
  rw [hLE] at v2
  have hr : runR s g p = if E = 0 then (L, -1, 0) else (L, (L.length : Int), E) := by rw [runR, if_pos hx, hLE]
  have v1H := Lib.hid v1
  have v2H := Lib.hid v2
  clear v1 v2 h1 h2 h3 hx q1 q2 q3 hLE
  by_cases hE : E = 0
  ·rw [if_pos hE] at hr
   subst hE
   have hrH := Lib.hid hr
   clear hr
   go_enter Tryz.func73, Tryz.ntmps73
   go_wp2_with fail
   refine v1H.out.mono ?_
   rintro e w1 ⟨rfl, hb1⟩
   go_wp2_with fail
   refine (v2H.out _ hb1).mono ?_
   rintro e w2 ⟨v, rfl, ho, hb2⟩
   have hoH := Lib.hid (OwnL.baseMono (base' := w.heap.size) ho hb1.size)
   clear ho
   go_wp2_with fail
   go_ret3
   rw [hrH.out]
   exact ⟨_, rfl, hoH.out, bcall hb1 hb2⟩
  ·rw [if_neg hE] at hr
   have hne : (E != 0) = true := by simpa using hE
   have hrH := Lib.hid hr
   clear hr hE
   go_enter Tryz.func73, Tryz.ntmps73
   go_wp2_with fail
   refine v1H.out.mono ?_
   rintro e w1 ⟨rfl, hb1⟩
   go_wp2_with fail
   refine (v2H.out _ hb1).mono ?_
   rintro e w2 ⟨v, rfl, ho, hb2⟩
   obtain ⟨aL, cL, rfl, -⟩ := OwnL.sl ho
   have hoH := Lib.hid (OwnL.baseMono (base' := w.heap.size) ho hb1.size)
   clear ho
   go_wp2_with fail
   go_ret3
   rw [hrH.out]
   exact ⟨_, rfl, hoH.out, bcall hb1 hb2⟩
set_option maxHeartbeats 1000000 in
theorem SaysB_any {S1 S2 S3 : Nat → Prop} (a1 ag ap : Option Addr) (c1 cg cp : Nat) (s : Sg) (g : List (List Int)) (p : List Stp) (w : World) (h1 : Sign S1 w a1 c1 s) (h2 : Terms S2 w ag cg g) (h3 : Steps S3 w ap cp p) :
  Calls Tryz.prog 147 #[.slice a1 s.length c1, .slice ag g.length cg, .slice ap p.length cp] w (retSB (saysE s g p) w) := by
 have m1 := h1.le
 have m2 := h2.le
 have m3 := h3.le
 have v1 := RunB_any a1 ag ap c1 cg cp s g p w h1 h2 h3
 obtain ⟨L, N, E, hR⟩ : ∃ L N E, runR s g p = (L, N, E) := ⟨_, _, _, rfl⟩
 have hS : (E ≠ 0 ∧ saysE s g p = ([], E)) ∨ (E = 0 ∧ 1 ≤ L.length ∧ L.length ≤ 60 ∧ saysE s g p = (L.getLastD [], 0)) := by
  rw [runR] at hR
  rw [saysE]
  by_cases hx : askedB s g p = true
  ·rw [if_pos hx] at hR ⊢
   by_cases h0 : (runL s g p []).2 = 0
   ·rw [if_pos h0] at hR ⊢
    cases hR
    obtain ⟨q1, q2, q4, q3⟩ := askedB_full hx
    have := (runL_okT q1 p [] (fun t h => by cases h) q2).2.1 h0
    simp only [List.length_nil] at this
    exact .inr ⟨rfl, by omega, by omega, rfl⟩
   ·rw [if_neg h0] at hR ⊢
    cases hR
    exact .inl ⟨h0, rfl⟩
  ·rw [if_neg hx] at hR ⊢
   cases hR
   exact .inl ⟨by decide, rfl⟩
 rw [hR] at v1
 have v1H := Lib.hid v1
 clear v1 hR h1 h2 h3
 rcases hS with ⟨hE, hS⟩ | ⟨rfl, hl1, hl2, hS⟩
 ·have hne : (E != 0) = true := by simpa using hE
  have hSH := Lib.hid hS
  clear hS hE
  go_enter Tryz.func147, Tryz.ntmps147
  go_wp2_with fail
  refine v1H.out.mono ?_
  rintro e w1 ⟨v, rfl, ho, hb1⟩
  clear ho
  go_wp2_with fail
  go_ret2
  rw [hSH.out]
  exact ⟨_, _, rfl, Sl.empty, hb1⟩
 ·have hSH := Lib.hid hS
  have e1 : IntKind.i64.wrap ((L.length : Int) - 1) = ((L.length - 1 : Nat) : Int) := by rw [IntWalk.i64_in _ (by omega)]; omega
  clear hS
  go_enter Tryz.func147, Tryz.ntmps147
  go_wp2_with fail
  refine v1H.out.mono ?_
  rintro e w1 ⟨v, rfl, ho, hb1⟩
  obtain ⟨a, c, rfl, hT⟩ := OwnL.sl ho
  obtain ⟨b1, o1, a4, c4, rfl, -, q1, hA⟩ := hT.sub (L.length - 1) (by simp only; omega)
  dsimp only at q1 hA
  have hq : L[L.length - 1] = L.getLastD [] := by
   rw [List.getLastD_eq_getLast?, List.getLast?_eq_getElem?, List.getElem?_eq_getElem (by omega)]; rfl
  obtain ⟨z, hz⟩ : ∃ z, L.getLastD [] = z := ⟨_, rfl⟩
  rw [hq, hz] at q1 hA
  have hS := hSH.out
  rw [hz] at hS
  have hSK := Lib.hid hS
  have hAH := Lib.hid hA
  clear ho hT hA hq hS hSH hz
  go_wp2_with fail
  all_goals go_ret2
  all_goals rw [hSK.out]
  all_goals exact ⟨_, _, rfl, hAH.out, hb1⟩
end Go.Proofs.YtpmnnoopoblpgaaGreat

/- Walks: heavy. -/
namespace Go.Proofs.YtpmnnoopoblpgaaGreat
open Go Go.RowKit Go.Maps

def HvRet (l : List Ent) (w : World) (e : Ending) (w' : World) : Prop := ∃ r : Bool, e = .returned (.bool r) ∧ (r = false → l.length ≤ 100) ∧ Below w.heap.size w w'
theorem HvRet.t {l : List Ent} {w w' : World} (hb : Below w.heap.size w w') : HvRet l w (.returned (.bool true)) w' := ⟨true, rfl, (fun h => by cases h), hb⟩
end Go.Proofs.YtpmnnoopoblpgaaGreat

/- Walks: the chapter's example of a library; SameTexts. -/
namespace Go.Proofs.YtpmnnoopoblpgaaGreat
open Go Go.RowKit Go.Maps

abbrev skS : Obj := .cells #[.string ⟨#[67]⟩, .int .i64 2] 115
structure SkAt (n : Nat) (W : World) : Prop where
 k : Ints (fun _ => True) W (some ⟨n, 0, none⟩) 5 aw4K
 c : Ints (fun _ => True) W (some ⟨n + 1 + 1, 0, none⟩) 13 aw4C
 p : Steps (fun _ => True) W (some ⟨n + 1 + 1 + 1 + 1, 0, none⟩) 4 aw4P
 t : Ints (fun _ => True) W (some ⟨n + 1 + 1 + 1 + 1 + 1, 0, none⟩) 3 skI
 u : Sl strE (fun _ => True) W (some ⟨n + 1 + 1 + 1 + 1 + 1 + 1, 0, none⟩) 2 [nK, nS]
theorem SkAt.below {n : Nat} {W W' : World} (h : SkAt n W) (hb : Below W.heap.size W W') : SkAt n W' := ⟨h.k.below hb, h.c.below hb, h.p.below hb, h.t.below hb, h.u.below hb⟩
theorem sk_sign (w : World) : Sign (fun _ => True) (w.alloc skS) (some ⟨w.heap.size, 0, none⟩) 1 aw4S :=
 (Sl.new (E := symE) (S := fun _ => False) w [[.string ⟨#[67]⟩, .int .i64 2]] aw4S 115 rfl (by decide) (fun i h1 h2 => by
  match i, h1 with
  | 0, _ => exact ⟨[_], [_], rfl, ⟨rfl, (by decide : 1 ≤ big)⟩, ⟨rfl, (by unfold inRange; decide : inRange 2)⟩⟩)).any
end Go.Proofs.YtpmnnoopoblpgaaGreat

/- Walks: SameTexts; awake of the laws on libraries. -/
namespace Go.Proofs.YtpmnnoopoblpgaaGreat
open Go Go.RowKit Go.Maps

theorem stake_ne {l1 l2 : List ByteArray} {k : Nat} (h1 : k < l1.length) (h2 : k < l2.length) (h : l1[k] ≠ l2[k]) : l1 ≠ l2 := fun e => by subst e; exact h rfl
theorem stake_succ {l1 l2 : List ByteArray} {k : Nat} (h1 : k < l1.length) (h2 : k < l2.length) (ht : l1.take k = l2.take k) (h : l1[k] = l2[k]) : l1.take (k + 1) = l2.take (k + 1) := by
 rw [List.take_succ_eq_append_getElem h1, List.take_succ_eq_append_getElem h2, ht, h]
set_option maxHeartbeats 1000000 in
theorem SameTexts_any {S1 S2 : Nat → Prop} (a1 a2 : Option Addr) (c1 c2 : Nat) (l1 l2 : List ByteArray) (w : World) (h1 : Sl strE S1 w a1 c1 l1) (h2 : Sl strE S2 w a2 c2 l2) :
  Calls Tryz.prog 17 #[.slice a1 l1.length c1, .slice a2 l2.length c2] w fun e w' => e = .returned (.bool (decide (l1 = l2))) ∧ Drew w w' := by
 have m1 := h1.le
 have m2 := h2.le
 by_cases hl : l1.length = l2.length
 ·have hlH := Lib.hid hl
  have h1H := Lib.hid h1
  have h2H := Lib.hid h2
  clear h1 h2
  go_enter Tryz.func17, Tryz.ntmps17
  go_wp2
  clear hl
  go_loopw [5] (fun i wr => ∃ k : Nat, k ≤ l1.length ∧ i = .int .i64 k ∧ l1.take k = l2.take k ∧ Drew w wr) (fun i _ => l1.length - (intOf i).toNat)
  case atStart => exact ⟨0, by omega, rfl, rfl, .refl _⟩
  case round =>
   obtain ⟨k, hk, rfl, ht, n, rfl⟩ := hrel
   have htH := Lib.hid ht
   clear ht
   have hle := hlH.out
   by_cases hlt : k < l1.length
   ·have hlt2 : k < l2.length := by omega
    obtain ⟨b1, o1, rfl, -, q1, -⟩ := h1H.out.str k hlt
    obtain ⟨b2, o2, rfl, -, q2, -⟩ := h2H.out.str k hlt2
    clear hle
    obtain ⟨x, hx⟩ : ∃ x, l1[k] = x := ⟨_, rfl⟩
    obtain ⟨y, hy⟩ : ∃ y, l2[k] = y := ⟨_, rfl⟩
    rw [hx] at q1
    rw [hy] at q2
    by_cases hxy : x = y
    ·have hq := str_eq hxy
     have hfin := Lib.hid (stake_succ hlt hlt2 htH.out (by rw [hx, hy]; exact hxy))
     clear hx hy hxy
     go_wp2_with fail
     go_quiet (fail)
     all_goals go_wp2_with fail
     all_goals exact ⟨⟨k + 1, by omega, by go_num, hfin.out, .mk _ _⟩, by simp [intOf]; omega⟩
    ·have hq := str_neq hxy
     have hfin := Lib.hid (stake_ne hlt hlt2 (by rw [hx, hy]; exact hxy))
     clear hx hy hxy
     go_wp2_with fail
     go_quiet (fail)
     all_goals go_wp2_with fail
     all_goals go_ret
     all_goals exact ⟨ret_bool (decide_eq_false hfin.out).symm, .mk2 _ _ _⟩
   ·have hk2 : ¬ k < l2.length := by omega
    have hkl : ((k : Int) < (l1.length : Int)) = False := eq_false (by omega)
    have hfin := Lib.hid (show l1 = l2 by
     have := htH.out
     rw [List.take_of_length_le (by omega), List.take_of_length_le (by omega)] at this
     exact this)
    clear hle hlt hk
    go_wp2_with fail
    go_ret
    exact ⟨ret_bool (decide_eq_true hfin.out).symm, .mk _ _⟩
 ·clear h1 h2
  have hb := int_ne hl
  go_enter Tryz.func17, Tryz.ntmps17
  go_wp2_with fail
  go_ret
  exact ⟨ret_bool (decide_eq_false (fun e => hl (by rw [e]))).symm, .refl _⟩
theorem NamesRet.is {f : ByteArray → Bool} {er : Int} {w : World} {e : Ending} {w' : World} {M : List ByteArray} (h : NamesRet f er w e w') (hM : AscN M) (hf : ∀ x, f x = true ↔ x ∈ M) :
  ∃ a c, e = .returned (.tuple #[.slice a M.length c, .int .i64 er]) ∧ Sl strE (fun b => w.heap.size ≤ b) w' a c M ∧ Below w.heap.size w w' := by
 obtain ⟨v, L, rfl, h1, h2, h3, h4⟩ := h
 have e : L = M := h2.uniq hM (fun x => (h3 x).trans (hf x))
 subst e
 obtain ⟨a, c, rfl, hs⟩ := OwnS.strs h1
 exact ⟨a, c, rfl, hs, h4⟩
end Go.Proofs.YtpmnnoopoblpgaaGreat

/- Walks: strongest and Strongest: what is said lies in blocks of ints or in new ones. -/
namespace Go.Proofs.YtpmnnoopoblpgaaGreat
open Go Go.RowKit Go.Maps

def retSW (w : World) (r : List Int × Int) (W : World) (e : Ending) (w' : World) : Prop := ∃ a c, e = .returned (.tuple #[.slice a r.1.length c, .int .i64 r.2]) ∧ Ints (FrI w w') w' a c r.1 ∧ Below W.heap.size W w'
theorem retSB.wide {w W : World} {r : List Int × Int} {e : Ending} {w' : World} (h : retSB r W e w') (hw : w.heap.size ≤ W.heap.size) : retSW w r W e w' := by
 obtain ⟨a, c, h1, h2, h3⟩ := h
 exact ⟨a, c, h1, Ints.frB h2 hw, h3⟩
def StrRetB (s : Sg) (l : List Ent) (i : Nat) (w : World) (e : Ending) (w' : World) : Prop :=
 ∃ t a c b, e = .returned (.tuple #[.slice a t.length c, .bool b]) ∧ Ints (FrI w w') w' a c t ∧ strX s l i = (if b = true then some t else none) ∧ Below w.heap.size w w'
set_option maxHeartbeats 4000000 in
theorem strongB_any {B xb : Nat} {w : World} {s : Sg} {l : List Ent} (h : DLib B w xb s l) (i : Nat) (hi : i < l.length) :
  Calls Tryz.prog 98 #[.pointer (some ⟨xb, 0, none⟩), .int .i64 i] w (StrRetB s l i w) := by
 have va := axiom_any h i hi
 have vg := givens_any h i hi
 obtain ⟨sa, sc, la, lc, bm, hO⟩ := h.op
 have ml := hO.hL.le
 have ms := hO.hS.le
 obtain ⟨b, off, a1, c1, a2, c2, a3, c3, rfl, hbB, p0, p1, p2, p3, p4, z1, z2, hI, hU, hP⟩ := hO.hL.ent i hi
 have hii : (i : Int) < (l.length : Int) := by omega
 have hm1 := hI.le
 have hm3 := hP.le
 have hgd := getD_at hi
 have hsx : strX s l i = if ePf l[i] = [] then some (eSays l[i]) else if inAll l (eUses l[i]) = true then (if (saysE s (givF l (eUses l[i])) (ePf l[i])).2 = 0 then some (saysE s (givF l (eUses l[i])) (ePf l[i])).1 else none) else none := by unfold strX; rw [hgd]
 by_cases hp : ePf l[i] = []
 ·rw [if_pos hp] at hsx
  rw [decide_eq_true hp] at va
  have q1 := hO.q1
  have cl := Clone_any a1 c1 (eSays l[i]) w hI (by have := (okT_parts (okEnt_says ((okLib_parts hO.ok).2.2.1 _ (List.getElem_mem hi)))).2.2.1; unfold lim; omega)
  have vaH := Lib.hid va
  have clH := Lib.hid cl
  have hsxH := Lib.hid hsx
  clear va vg cl hsx hp hO h hI hU hP hgd p0 p1 p3 p4
  generalize eSays l[i] = t at *
  go_enter Tryz.func98, Tryz.ntmps98
  go_wp2_with fail
  refine vaH.out.mono ?_
  rintro e w1 ⟨rfl, rfl⟩
  go_wp2_with fail
  refine clH.out.mono ?_
  rintro e w2 ⟨v, rfl, ho, hb⟩
  obtain ⟨a, c, rfl, hI2⟩ := OwnI.ints ho
  have hfin := Lib.hid (show StrRetB s l i w (.returned (.tuple #[.slice a t.length c, .bool true])) w2 from ⟨t, a, c, true, rfl, hI2.weak (fun _ h => .inl h), by rw [hsxH.out]; rfl, hb⟩)
  clear ho hI2 hb
  go_wp2_with fail
  go_ret2
  exact hfin.out
 ·rw [if_neg hp] at hsx
  rw [decide_eq_false hp] at va
  have vaH := Lib.hid va
  have vgH := Lib.hid vg
  have hOH := Lib.hid hO
  have hsxH := Lib.hid hsx
  have hPH := Lib.hid hP
  clear va vg hsx hp hO h hI hU hP hgd p0 p1 p2 p3
  go_enter Tryz.func98, Tryz.ntmps98
  go_wp2_with fail
  refine vaH.out.mono ?_
  rintro e w1 ⟨rfl, rfl⟩
  go_wp2_with fail
  refine vgH.out.mono ?_
  rintro e w2 ⟨hb, hg⟩
  rcases hg with ⟨hin, rfl⟩ | ⟨hin, v, rfl, ho⟩
  ·have hfin := Lib.hid (show StrRetB s l i w (.returned (.tuple #[.slice none 0 0, .bool false])) w2 from ⟨[], none, 0, false, rfl, Sl.empty, by rw [hsxH.out, if_neg (by rw [hin]; simp)]; rfl, hb⟩)
   clear hin hb
   go_wp2_with fail
   go_ret2
   exact hfin.out
  ·have hsx := hsxH.out
   rw [if_pos hin] at hsx
   have hgl := givF_len l (eUses l[i])
   have hO2 := hOH.out.call hb
   obtain ⟨ag, cg, rfl, hT⟩ := OwnL.sl ho
   have vs := fun W (hw : Below w2.heap.size w2 W) => (SaysB_any sa ag a3 sc cg c3 s (givF l (eUses l[i])) (ePf l[i]) W ((hO2.call hw).hS) (hT.below hw) ((hPH.out.below hb).below hw)).mono (fun _ _ h => retSB.wide (w := w) h (Nat.le_trans hb.size hw.size))
   have p4' := cell_later hb p4
   have q0 := hO2.q0
   have q1 := hO2.q1
   obtain ⟨r, hr⟩ : ∃ r, saysE s (givF l (eUses l[i])) (ePf l[i]) = r := ⟨_, rfl⟩
   rw [hr] at hsx
   simp only [hr] at vs
   obtain ⟨rt, re⟩ := r
   simp only at hsx
   have hbd : Below w2.heap.size w2 w2.drew := Below.drew (.refl w2.heap.size _)
   have hk0 : Below w2.heap.size w2 w2.drew ∧ w2.drew.cell? ⟨xb, 0, none⟩ = some (.slice sa s.length sc) ∧ w2.drew.cell? ⟨xb, 1, none⟩ = some (.slice (some ⟨b, off, none⟩) l.length lc) ∧ w2.drew.cell? ⟨b, off + i * 5 + 4, none⟩ = some (.slice a3 (ePf l[i]).length c3) :=
    ⟨hbd, cell_later hbd q0, cell_later hbd q1, cell_later hbd p4'⟩
   have vsH := Lib.hid vs
   have hsxH := Lib.hid hsx
   have hbH := Lib.hid hb
   clear vs hsx hr hO2 ho hT hin hbd hb hgl p4 p4' q0 q1
   generalize (ePf l[i]).length = n3 at *
   generalize (givF l (eUses l[i])).length = ng at *
   go_wp2_with fail
   go_region_held3 (fun w' => Below w2.heap.size w2 w' ∧ w'.cell? ⟨xb, 0, none⟩ = some (.slice sa s.length sc) ∧ w'.cell? ⟨xb, 1, none⟩ = some (.slice (some ⟨b, off, none⟩) l.length lc) ∧ w'.cell? ⟨b, off + i * 5 + 4, none⟩ = some (.slice a3 n3 c3))
    ((first | exact hk0 | exact keepS3 ‹_› hbS rfl))
    ((go_at_call 147; (with_reducible refine (vsH.out _ ?_).mono ?_); exact (And.left ‹_›); rintro e w3 ⟨a, c, rfl, hIS, hbS⟩))
   have hB3 := And.left (‹Below w2.heap.size w2 w3 ∧ _›)
   have hfin := Lib.hid (show StrRetB s l i w (.returned (.tuple #[.slice a rt.length c, .bool (re == 0)])) w3 from ⟨rt, a, c, re == 0, rfl, hIS, by rw [hsxH.out]; by_cases h : re = 0 <;> simp [h], bcall hbH.out hB3⟩)
   clear hB3 hIS
   go_wp2_with fail
   go_ret2
   exact hfin.out
def StgRetB (r : List Int × Int) (w : World) (e : Ending) (w' : World) : Prop := ∃ a c, e = .returned (.tuple #[.slice a r.1.length c, .int .i64 r.2]) ∧ Ints (FrI w w') w' a c r.1 ∧ Below w.heap.size w w'
theorem StgRetB.nil {w w' : World} {er : Int} (hb : Below w.heap.size w w') : StgRetB ([], er) w (.returned (.tuple #[.slice none 0 0, .int .i64 er])) w' := ⟨none, 0, rfl, Sl.empty, hb⟩
set_option maxHeartbeats 1000000 in
theorem StrongestB_any {S1 S2 : Nat → Prop} (sa la : Option Addr) (sc lc : Nat) (s : Sg) (l : List Ent) (n : ByteArray) (hn : n.size ≤ big) (w : World) (h1 : Sign S1 w sa sc s) (h2 : LibL S2 w la lc l) (hl : l.length ≤ 1000) :
  Calls Tryz.prog 36 #[.slice sa s.length sc, .slice la l.length lc, .string n] w (StgRetB (strgE s l n) w) := by
 have v := dnamed_any sa la sc lc s l n hn w h1 h2 hl
 have m := h2.le
 have m1 := h1.le
 obtain ⟨r, hr⟩ : ∃ r, strgE s l n = r := ⟨_, rfl⟩
 rw [hr]
 have vH := Lib.hid v
 have hrH := Lib.hid hr
 clear v h1 h2 hr
 go_enter Tryz.func36, Tryz.ntmps36
 go_wp2_with fail
 refine vH.out.mono ?_
 rintro e w1 ⟨hb, h⟩
 have hbH := Lib.hid hb
 rcases h with ⟨hok, rfl⟩ | ⟨hok, hat, rfl⟩ | ⟨hok, i, xb, hat, hxb, rfl, hD⟩
 ·have hf : strgE s l n = ([], 1) := by unfold strgE; rw [hok]; rfl
  have hfH := Lib.hid (hrH.out.symm.trans hf)
  clear hb hok vH hf
  go_wp2_with fail
  go_ret2
  rw [hfH.out]
  exact StgRetB.nil hbH.out
 ·have hf : strgE s l n = ([], 5) := by unfold strgE; rw [hok, hat]; rfl
  have hfH := Lib.hid (hrH.out.symm.trans hf)
  clear hb hok vH hf hat
  go_wp2_with fail
  go_ret2
  rw [hfH.out]
  exact StgRetB.nil hbH.out
 ·have hf : strgE s l n = (match strX s l i with | some t => (t, 0) | none => ([], 11)) := by unfold strgE; rw [hok, hat]; rfl
  have hfH := Lib.hid (hrH.out.symm.trans hf)
  obtain ⟨hi, -⟩ := atN_some hat
  have vs := Lib.hid (strongB_any hD i hi)
  clear hb hok vH hf hat hxb hD
  go_wp2_with fail
  refine vs.out.mono ?_
  rintro e w2 ⟨t, a, c, b, rfl, hI, hsx, hb2⟩
  cases b with
  | false =>
   have hb2H := Lib.hid (bcall hbH.out hb2)
   have hrr := Lib.hid (show r = ([], 11) by rw [hfH.out, hsx]; rfl)
   clear hb2 hI hsx
   go_wp2_with fail
   go_ret2
   rw [hrr.out]
   exact StgRetB.nil hb2H.out
  | true =>
   have hb2H := Lib.hid (bcall hbH.out hb2)
   have hrr := Lib.hid (show r = (t, 0) by rw [hfH.out, hsx]; rfl)
   have hIH := Lib.hid (Ints.frB hI hbH.out.size)
   clear hb2 hI hsx
   go_wp2_with fail
   go_ret2
   rw [hrr.out]
   exact ⟨a, c, rfl, hIH.out, hb2H.out⟩
end Go.Proofs.YtpmnnoopoblpgaaGreat

/- The law DepsGeneral, walked. -/
namespace Go.Proofs.YtpmnnoopoblpgaaGreat
open Go Go.RowKit Go.Maps

theorem ents_copied {S : Nat → Prop} {a : Option Addr} {c : Nat} {l : List Ent} {w : World} (h : LibL S w a c l) (hl : l.length ≤ 1000) :
  ∃ v' w', (Builtin.append_ #[24, 24] 24 #[.slice (some ⟨w.heap.size, 0, none⟩) 0 0, .slice a l.length c]).run Tryz.prog (w.alloc (.cells #[] 37)) = .ok v' w' ∧ OwnE (fun b => b < w.heap.size) w' w.heap.size v' l ∧ Below w.heap.size w w' := by
 obtain ⟨v', w', hrun, ho, hg, -, -⟩ := (OwnL.made entE (fun b => b < w.heap.size) w w.heap.size 37 (Nat.le_refl _)).append_run (P := Tryz.prog) (t := 24) (ty := 24) Tryz.underlying24 infoEnt rfl (h.lt.below (below1 w (.cells #[] 37)))
  (fun i hi vs hv => entE.mono hv (fun b _ hb => ⟨hb.2, fun e => by simp [Value.ownBlock] at e; have := hb.2; omega⟩) (.refl _ _)) (by simp; omega) (by unfold big; simp; omega) (by simp)
 have hB : Below w.heap.size w w' := (below1 w (.cells #[] 37)).grown hg (by simp) (fun k e => by simp [Value.ownBlock] at e; omega)
 rw [List.nil_append] at ho
 exact ⟨v', w', hrun, ho, hB⟩
end Go.Proofs.YtpmnnoopoblpgaaGreat

/- Walks: deps.Axioms. -/
namespace Go.Proofs.YtpmnnoopoblpgaaGreat
open Go Go.RowKit Go.Maps

set_option maxHeartbeats 1000000 in
theorem ax1_fn {B xb b1 b2 ob M m : Nat} {w : World} {s : Sg} {l : List Ent} {f : ByteArray → Bool} (h : DLib B w xb s l) (hb1 : b1 < B) (hb2 : b2 < B) (hob : ob < B) (hc1 : w.cell? ⟨b1, 0, none⟩ = some (.pointer (some ⟨xb, 0, none⟩))) (hc2 : w.cell? ⟨b2, 0, none⟩ = some (.map (some ob))) (hS : SSet w ob M m f) :
  IxFn 109 #[.pointer (some ⟨b1, 0, none⟩), .pointer (some ⟨b2, 0, none⟩)] l.length (fun i => axI l i && f (nmI l i)) B w := by
 refine ⟨enters_of Tryz.func109 (by kernel_rfl) rfl, fun i hi W hB => ?_⟩
 have q1 := (hB.cell (p := ⟨b1, 0, none⟩) hb1).trans hc1
 have q2 := (hB.cell (p := ⟨b2, 0, none⟩) hb2).trans hc2
 have hD := h.below hB
 obtain ⟨sa, sc, la, lc, bm, hO⟩ := hD.op
 have p1 := hO.q1
 have hok := hO.ok
 obtain ⟨b, off, a1, c1, a2, c2, a3, c3, rfl, -, r0, r1, r2, r3, r4, z1, z2, hI, hU, hP⟩ := hO.hL.ent i hi
 have hnm : (eNm l[i]).size ≤ big := z1
 have hlk := (hS.below hB hob).look (tm := 88) Tryz.underlying88 Tryz.underlying9 Tryz.underlying4 (zBool W) (eNm l[i]) (big_max hnm)
 have hdr : Below W.heap.size W W.drew := Below.drew (.refl _ _)
 have va := axiom_any (hD.call hdr) i hi
 have e0 : nmI l i = eNm l[i] := nmI_at hi
 have e1 : axI l i = decide (ePf l[i] = []) := axI_at hi
 simp only [e0]
 rw [← e1] at va
 have hlkd : (Instr.lookup 88 (.map (some ob)) (.string (eNm l[i])) false).run Tryz.prog W.drew = .ok (.bool (f (eNm l[i]))) W.drew := ((hS.below hB hob).below hdr (hS.below hB hob).lt).look (tm := 88) Tryz.underlying88 Tryz.underlying9 Tryz.underlying4 (zBool W.drew) (eNm l[i]) (big_max hnm)
 have hk0 : W.drew.cell? ⟨b1, 0, none⟩ = some (.pointer (some ⟨xb, 0, none⟩)) ∧ W.drew.cell? ⟨xb, 1, none⟩ = some (.slice (some ⟨b, off, none⟩) l.length lc) ∧ W.drew.cell? ⟨b, off + i * 5, none⟩ = some (.string (eNm l[i])) ∧ W.drew.cell? ⟨b2, 0, none⟩ = some (.map (some ob)) :=
  ⟨cell_later hdr q1, cell_later hdr p1, cell_later hdr r0, cell_later hdr q2⟩
 have hii : (i : Int) < (l.length : Int) := by omega
 have hml := hO.hL.le
 clear hlk hO hD q1 q2 p1 r0 r1 r2 r3 r4 hI hU hP z1 z2 hS hB h hc1 hc2 e0 e1 hok
 generalize axI l i = ax at *
 generalize eNm l[i] = nm at *
 generalize f nm = fn at *
 have vaH := Lib.hid va
 have hdrH := Lib.hid hdr
 obtain ⟨Wd, hWd⟩ : ∃ Wd, W.drew = Wd := ⟨_, rfl⟩
 rw [hWd] at hk0 hlkd vaH hdrH
 obtain ⟨k1, k2, k3, k4⟩ := hk0
 clear va hdr
 cases ax with
 | true =>
  go_enter Tryz.func109, Tryz.ntmps109
  go_wp2_with fail
  refine wp_region_held_drew (S := fun w' => w' = Wd) (by kernel_rfl) hWd (fun hS => ?_)
  refine rtk 0 5 (v := ?_) hS ?_ ?_; rotate_left; · (intro w9 hS9; subst hS9; go_simp; try (with_reducible rfl))
  refine rtk 1 6 (v := ?_) hS ?_ ?_; rotate_left; · (intro w9 hS9; subst hS9; go_simp; try (with_reducible rfl))
  have hWe := hS
  rw [hWe]
  refine region_call 2 rfl (by kernel_rfl) (fun K hK => ?_)
  go_simp
  (with_reducible refine vaH.out.mono ?_)
  rintro e w6 ⟨rfl, rfl⟩
  go_simp
  refine hK.out _ _ rfl ?_
  clear hK hS K
  intro hS
  try simp only [Act.put, List.setIfInBounds_toArray, List.set_cons_zero, List.set_cons_succ]
  refine rtk 3 8 (v := ?_) hS ?_ ?_; rotate_left; · (intro w9 hS9; subst hS9; go_simp; try (with_reducible rfl))
  refine rtk 4 9 (v := ?_) hS ?_ ?_; rotate_left; · (intro w9 hS9; subst hS9; go_simp; try (with_reducible rfl))
  refine rtk 5 10 (v := ?_) hS ?_ ?_; rotate_left; · (intro w9 hS9; subst hS9; go_simp; try (with_reducible rfl))
  refine rtk 6 11 (v := ?_) hS ?_ ?_; rotate_left; · (intro w9 hS9; subst hS9; go_simp; try (with_reducible rfl))
  refine rtk 7 12 (v := ?_) hS ?_ ?_; rotate_left; · (intro w9 hS9; subst hS9; go_simp; try (with_reducible rfl))
  refine rtk 8 13 (v := ?_) hS ?_ ?_; rotate_left; · (intro w9 hS9; subst hS9; go_simp; try (with_reducible rfl))
  refine rtk 9 14 (v := ?_) hS ?_ ?_; rotate_left; · (intro w9 hS9; subst hS9; go_simp; try (with_reducible rfl))
  refine rtk 10 15 (v := ?_) hS ?_ ?_; rotate_left; · (intro w9 hS9; subst hS9; go_simp; try (with_reducible rfl))
  refine rtk 11 16 (v := ?_) hS ?_ ?_; rotate_left; · (intro w9 hS9; subst hS9; go_simp; try (with_reducible rfl))
  refine rtk 12 17 (v := ?_) hS ?_ ?_; rotate_left; · (intro w9 hS9; subst hS9; go_simp; try (with_reducible rfl))
  refine rtk 13 18 (v := ?_) hS ?_ ?_; rotate_left; · (intro w9 hS9; subst hS9; go_simp; try (with_reducible rfl))
  refine rtk 14 19 (v := ?_) hS ?_ ?_; rotate_left; · (intro w9 hS9; subst hS9; go_simp; try (with_reducible rfl))
  refine rtk 15 4 (v := ?_) hS ?_ ?_; rotate_left; · (intro w9 hS9; subst hS9; go_simp; try (with_reducible rfl))
  refine wpAnyH_done (by kernel_rfl) ?_ _
  clear hS
  go_wp2_with fail
  go_ret
  exact ⟨rfl, hdrH.out⟩
 | false =>
  go_enter Tryz.func109, Tryz.ntmps109
  go_wp2_with fail
  refine wp_region_held_drew (S := fun w' => w' = Wd) (by kernel_rfl) hWd (fun hS => ?_)
  refine rtk 0 5 (v := ?_) hS ?_ ?_; rotate_left; · (intro w9 hS9; subst hS9; go_simp; try (with_reducible rfl))
  refine rtk 1 6 (v := ?_) hS ?_ ?_; rotate_left; · (intro w9 hS9; subst hS9; go_simp; try (with_reducible rfl))
  have hWe := hS
  rw [hWe]
  refine region_call 2 rfl (by kernel_rfl) (fun K hK => ?_)
  go_simp
  (with_reducible refine vaH.out.mono ?_)
  rintro e w6 ⟨rfl, rfl⟩
  go_simp
  refine hK.out _ _ rfl ?_
  clear hK hS K
  intro hS
  try simp only [Act.put, List.setIfInBounds_toArray, List.set_cons_zero, List.set_cons_succ]
  refine rtk 3 8 (v := ?_) hS ?_ ?_; rotate_left; · (intro w9 hS9; subst hS9; go_simp; try (with_reducible rfl))
  refine rsk 4 9 hS ?_
  refine rsk 5 10 hS ?_
  refine rsk 6 11 hS ?_
  refine rsk 7 12 hS ?_
  refine rsk 8 13 hS ?_
  refine rsk 9 14 hS ?_
  refine rsk 10 15 hS ?_
  refine rsk 11 16 hS ?_
  refine rsk 12 17 hS ?_
  refine rsk 13 18 hS ?_
  refine rtk 14 19 (v := ?_) hS ?_ ?_; rotate_left; · (intro w9 hS9; subst hS9; go_simp; try (with_reducible rfl))
  refine rtk 15 4 (v := ?_) hS ?_ ?_; rotate_left; · (intro w9 hS9; subst hS9; go_simp; try (with_reducible rfl))
  refine wpAnyH_done (by kernel_rfl) ?_ _
  clear hS
  go_wp2_with fail
  go_ret
  exact ⟨rfl, hdrH.out⟩
noncomputable def axsE (s : Sg) (l : List Ent) (n : ByteArray) : (ByteArray → Bool) × Int :=
 if okLib s l = true then (match atN l n with | some i => (axiomsF l n i, 0) | none => (fun _ => false, 5)) else (fun _ => false, 1)
theorem axsE_bad {s : Sg} {l : List Ent} {n : ByteArray} (h : okLib s l = false) : axsE s l n = (fun _ => false, 1) := by unfold axsE; rw [h]; rfl
theorem axsE_no {s : Sg} {l : List Ent} {n : ByteArray} (h : okLib s l = true) (ha : atN l n = none) : axsE s l n = (fun _ => false, 5) := by unfold axsE; rw [h, ha]; rfl
theorem axsE_yes {s : Sg} {l : List Ent} {n : ByteArray} {i : Nat} (h : okLib s l = true) (ha : atN l n = some i) : axsE s l n = (axiomsF l n i, 0) := by unfold axsE; rw [h, ha]; rfl
set_option maxRecDepth 100000 in
set_option maxHeartbeats 1000000 in
theorem Axioms_any {S1 S2 : Nat → Prop} (sa la : Option Addr) (sc lc : Nat) (s : Sg) (l : List Ent) (n : ByteArray) (hn : n.size ≤ big) (w : World) (h1 : Sign S1 w sa sc s) (h2 : LibL S2 w la lc l) (hl : l.length ≤ 1000) :
  Calls Tryz.prog 47 #[.slice sa s.length sc, .slice la l.length lc, .string n] w (NamesRet (axsE s l n).1 (axsE s l n).2 w) := by
 have v := dnamed_any sa la sc lc s l n hn w h1 h2 hl
 have m := h2.le
 have m1 := h1.le
 have hnH := Lib.hid hn
 obtain ⟨r, hr⟩ : ∃ r, axsE s l n = r := ⟨_, rfl⟩
 rw [hr]
 have vH := Lib.hid v
 have hrH := Lib.hid hr
 clear v h1 h2 hr hn
 go_enter Tryz.func47, Tryz.ntmps47
 go_wp2_with fail
 refine vH.out.mono ?_
 rintro e w1 ⟨hb, h⟩
 have hbH := Lib.hid hb
 rcases h with ⟨hok, rfl⟩ | ⟨hok, hat, rfl⟩ | ⟨hok, i, xb, hat, hxb, rfl, hD⟩
 ·have hfH := Lib.hid (hrH.out.symm.trans (axsE_bad hok))
  have hbn := Lib.hid (bcall hbH.out (below1 w1 (.cells #[.pointer none] 61)))
  clear hb hok vH
  go_wp2_with fail
  go_ret2
  rw [hfH.out]
  exact NamesRet.nil hbn.out
 ·have hfH := Lib.hid (hrH.out.symm.trans (axsE_no hok hat))
  have hbn := Lib.hid (bcall hbH.out (below1 w1 (.cells #[.pointer none] 61)))
  clear hb hok vH hat
  go_wp2_with fail
  go_ret2
  rw [hfH.out]
  exact NamesRet.nil hbn.out
 ·obtain ⟨hi, -⟩ := nmI_of hat
  have hf := axsE_yes hok hat
  have hd := (okLib_parts hok).2.2.2
  obtain ⟨W, hW⟩ : ∃ W, w1.alloc (.cells #[.pointer (some ⟨xb, 0, none⟩)] 61) = W := ⟨_, rfl⟩
  have hBW : Below w1.heap.size w1 W := by rw [← hW]; exact below1 w1 _
  have r4 : W.cell? ⟨w1.heap.size, 0, none⟩ = some (.pointer (some ⟨xb, 0, none⟩)) := by rw [← hW]; clear hW; go_simp
  have hws1 : w1.heap.size < W.heap.size := by rw [← hW]; simp
  have hDW := hD.call hBW
  have va := axiom_any hDW i hi
  rw [← axI_at hi] at va
  have vl := Lib.hid (leans_any hDW n hnH.out)
  have hDWH := Lib.hid hDW
  have hbn := Lib.hid (bcall hbH.out hBW)
  have hWH := Lib.hid hW
  have r4H := Lib.hid r4
  cases hax : axI l i with
  | true =>
   rw [hax] at va
   have vaH := Lib.hid va
   have hfe := Lib.hid (show r = ((fun x => decide (x = n)), 0) by rw [← hrH.out, hf]; unfold axiomsF; rw [hax, if_pos rfl])
   have hfin := Lib.hid (show NamesRet r.1 r.2 w (.returned (.tuple #[.slice (some ⟨W.heap.size, 0, none⟩) 1 1, .int .i64 0])) (W.alloc (.cells #[.string n] 9)) by
    rw [hfe.out]
    exact ⟨_, [n], rfl, OwnS.base (ownS_one W n hnH.out) hbn.out.size, List.pairwise_singleton _ _, fun x => by simp, bcall hbn.out (below1 W _)⟩)
   clear hb hok vH hat hxb hD hDW hBW hW r4 va hf hd hax hws1
   go_wp2_with fail
   try rw [hWH.out]
   refine vaH.out.mono ?_
   rintro e w2 ⟨rfl, rfl⟩
   go_wp2_with fail
   go_ret2
   exact hfin.out
  | false =>
   rw [hax] at va
   have vaH := Lib.hid va
   have hfe := Lib.hid (show r = (chB l (fun k => axI l k && rchB l (fun _ => true) n (nmI l k)), 0) by rw [← hrH.out, hf]; unfold axiomsF; rw [hax, if_neg (by simp)])
   clear hb hok vH hat hxb hD hDW hBW hW r4 va hf hd hax hws1
   go_wp2_with fail
   try rw [hWH.out]
   refine vaH.out.mono ?_
   rintro e w2 ⟨rfl, rfl⟩
   have r4 := r4H.out
   go_wp2_with fail
   refine vl.out.mono ?_
   rintro e w2 ⟨ob, M, rfl, -, -, hS3, hb3⟩
   obtain ⟨W4, hW4⟩ : ∃ W4, w2.alloc (.cells #[.map (some ob)] 88) = W4 := ⟨_, rfl⟩
   have hb4 : Below w2.heap.size w2 W4 := by rw [← hW4]; exact below1 w2 _
   have r5 : W4.cell? ⟨w2.heap.size, 0, none⟩ = some (.map (some ob)) := by rw [← hW4]; clear hW4; go_simp
   have r6 := cell_later (bcall hb3 hb4) r4
   have hz4 : w2.heap.size < W4.heap.size := by rw [← hW4]; simp
   have hD4 := hDWH.out.call (bcall hb3 hb4)
   have hD5 := hD4.mono hD4.1 (Nat.le_refl _)
   have hS4 := hS3.below hb4 hS3.lt
   have vc := chosen_any hD5 (ax1_fn hD5 (World.block_lt_of_cell? _ _ r6) hz4 hS4.lt r6 r5 hS4)
   have vcH := Lib.hid vc
   have hW4H := Lib.hid hW4
   have hb5 := Lib.hid (bcall hbn.out (bcall hb3 hb4))
   rw [← hW4] at r6
   clear vc hD4 hD5 hS4 hS3 hb3 hb4 r5 hz4 hW4 r4
   go_wp2_with fail
   try rw [hW4H.out]
   refine vcH.out.mono ?_
   rintro e w5 hso
   obtain ⟨v, rfl, hN⟩ := hso.names hb5.out
   have hNH := Lib.hid (hN 0)
   clear hN hso
   go_wp2_with fail
   go_ret2
   rw [hfe.out]
   exact hNH.out
end Go.Proofs.YtpmnnoopoblpgaaGreat

/- If, in order, each entry is made to say its strongest, the library stays sound. No program is named. -/
namespace Go.Proofs.YtpmnnoopoblpgaaGreat

theorem madeE_can {θ : Int → List Int} {t : List Int} (h : (madeE θ t).2 = 0) : canon (madeE θ t).1 = (madeE θ t).1 := by
 unfold madeE at h ⊢
 split
 ·exact canon_canon _
 ·rename_i hn; rw [if_neg hn] at h; cases h
theorem uniE_can {s : Sg} {a b t : List Int} (h : (uniE s a b t).2 = 0) : canon (uniE s a b t).1 = (uniE s a b t).1 := by
 unfold uniE at h ⊢
 cases hm : mgu s a b with
 | none => rw [hm] at h; cases h
 | some θ => rw [hm] at h; exact madeE_can h
theorem stepE_can {s : Sg} {g l : List (List Int)} {x : Stp} (h : (stepE s g l x).2 = 0) : canon (stepE s g l x).1 = (stepE s g l x).1 := by
 unfold stepE at h ⊢
 split
 ·exact canon_canon _
 ·rename_i hn
  rw [if_neg hn] at h
  unfold detE at h ⊢
  split
  ·rename_i h1
   rw [if_pos h1] at h
   split
   ·rename_i h2; rw [if_pos h2] at h; exact uniE_can h
   ·rename_i h2; rw [if_neg h2] at h; cases h
  ·rename_i h1; rw [if_neg h1] at h; cases h
theorem runL_can {s : Sg} {g : List (List Int)} : ∀ (p : List Stp) (l : List (List Int)), (∀ t ∈ l, canon t = t) → ∀ t ∈ (runL s g p l).1, canon t = t
 | [], l, h => h
 | x :: p, l, h => by
  rw [runL]
  split
  ·rename_i hz
   refine runL_can p _ fun t ht => ?_
   rcases List.mem_append.1 ht with e | e
   ·exact h t e
   ·rw [List.mem_singleton.1 e]; exact stepE_can hz
  ·exact h
theorem saysE_in {s : Sg} {g : List (List Int)} {p : List Stp} (h : (saysE s g p).2 = 0) : askedB s g p = true ∧ (runL s g p []).2 = 0 ∧ (saysE s g p).1 = (runL s g p []).1.getLastD [] := by
 unfold saysE at h ⊢
 by_cases ha : askedB s g p = true
 ·rw [if_pos ha] at h ⊢
  by_cases hr : (runL s g p []).2 = 0
  ·rw [if_pos hr]; exact ⟨ha, hr, rfl⟩
  ·rw [if_neg hr] at h; exact (hr h).elim
 ·rw [if_neg ha] at h; cases h
theorem saysE_can {s : Sg} {g : List (List Int)} {p : List Stp} (h : (saysE s g p).2 = 0) : isCanonT s (saysE s g p).1 = true := by
 obtain ⟨ha, hr, he⟩ := saysE_in h
 obtain ⟨hg, hv⟩ := askedB_parts ha
 obtain ⟨g1, g2, g3⟩ := givensB_parts hg
 obtain ⟨ok, p1, p2⟩ := validP_parts hv
 have hro := runL_okT g3 p [] (fun t h => by cases h) ok
 have hlen := hro.2.1 hr
 simp only [List.length_nil] at hlen
 have hm : (runL s g p []).1.getLastD [] ∈ (runL s g p []).1 := by
  rw [lstD_getD]
  exact getD_mem [] (by omega)
 rw [he]
 unfold isCanonT
 rw [hro.1 _ hm, runL_can p [] (fun t h => by cases h) _ hm]
 simp
theorem says_more {s : Sg} {l l' : List Ent} (hnm : l.map eNm = l'.map eNm) (hok : ∀ x ∈ l', okEnt s x = true)
  (hI : ∀ i, i < l.length → Ins s (eSays (l'.getD i default)) (eSays (l.getD i default))) {us : List ByteArray} {p : List Stp} (hin : inAll l us = true) (hz : (saysE s (givF l us) p).2 = 0) (hz' : (saysE s (givF l' us) p).2 = 0) :
  Ins s (saysE s (givF l' us) p).1 (saysE s (givF l us) p).1 := by
 obtain ⟨ha, hr, he⟩ := saysE_in hz
 obtain ⟨ha', hr', he'⟩ := saysE_in hz'
 obtain ⟨hg, hv⟩ := askedB_parts ha
 obtain ⟨g1, g2, g3⟩ := givensB_parts hg
 obtain ⟨ok, p1, p2⟩ := validP_parts hv
 rw [givF_len] at ok
 have hin' : inAll l' us = true := by rw [← inAll_map hnm]; exact hin
 have g3' := givF_okT hok hin'
 have hl' : (givF l' us).length = (givF l us).length := by rw [givF_len, givF_len]
 have hm := run_mono (s := s) (g := givF l' us) (g' := givF l us) g3' g3 hl' (fun i hi => by
  rw [givF_len] at hi
  rw [List.getD_eq_getElem?_getD, List.getElem?_eq_getElem (by rw [givF_len]; exact hi), List.getD_eq_getElem?_getD, List.getElem?_eq_getElem (by rw [givF_len]; exact hi), Option.getD_some, Option.getD_some]
  unfold givF
  rw [List.getElem_map, List.getElem_map, ← atN_map hnm]
  exact hI _ (inAll_lt hin (List.getElem_mem hi))) p [] [] (fun t h => by cases h) (fun t h => by cases h) rfl (fun i h => by cases h) (by rw [givF_len]; exact ok) hr
 have hro := runL_okT g3' p [] (fun t h => by cases h) (by rw [givF_len]; exact ok)
 rw [he, he']
 rcases hm with hm | hm | ⟨m1, m2, m3⟩
 ·omega
 ·omega
 ·have hlen := hro.2.1 m1
  simp only [List.length_nil] at hlen
  rw [lstD_getD, lstD_getD, ← m2]
  exact m3 _ (by omega)
structure Strd (s : Sg) (l now : List Ent) (T : List Nat) : Prop where
 len : now.length = l.length
 ok : okLib s now = true
 nm : now.map eNm = l.map eNm
 us : ∀ i, i < l.length → eUses (now.getD i default) = eUses (l.getD i default) ∧ ePf (now.getD i default) = ePf (l.getD i default)
 un : ∀ i, i < l.length → i ∉ T → eSays (now.getD i default) = eSays (l.getD i default)
 mo : ∀ i, i < l.length → Ins s (eSays (now.getD i default)) (eSays (l.getD i default))
 st : ∀ i ∈ T, strX s now i = some (eSays (now.getD i default))
theorem Strd.start {s : Sg} {l : List Ent} (h : okLib s l = true) : Strd s l l [] :=
 ⟨rfl, h, rfl, fun _ _ => ⟨rfl, rfl⟩, fun _ _ _ => rfl, fun _ _ => insSelf _, fun i h => by cases h⟩
theorem strX_same {s : Sg} {l l' : List Ent} {i : Nat} (hnm : l'.map eNm = l.map eNm) (hu : eUses (l'.getD i default) = eUses (l.getD i default)) (hp : ePf (l'.getD i default) = ePf (l.getD i default))
  (hs : ePf (l.getD i default) = [] → eSays (l'.getD i default) = eSays (l.getD i default)) (hg : inAll l (eUses (l.getD i default)) = true → givF l' (eUses (l.getD i default)) = givF l (eUses (l.getD i default))) : strX s l' i = strX s l i := by
 unfold strX
 rw [hu, hp]
 by_cases e0 : ePf (l.getD i default) = []
 ·rw [if_pos e0, if_pos e0, hs e0]
 ·rw [if_neg e0, if_neg e0, inAll_map hnm]
  by_cases hin : inAll l (eUses (l.getD i default)) = true
  ·rw [if_pos hin, if_pos hin, hg hin]
  ·rw [if_neg hin, if_neg hin]
theorem givF_same {l l' : List Ent} (hnm : l'.map eNm = l.map eNm) {us : List ByteArray} (h : ∀ u ∈ us, ∀ k, atN l u = some k → eSays (l'.getD k default) = eSays (l.getD k default)) (hin : inAll l us = true) : givF l' us = givF l us := by
 unfold givF
 refine List.map_congr_left fun u hu => ?_
 rw [atN_map hnm]
 unfold inAll at hin
 rw [List.all_eq_true] at hin
 have := hin u hu
 cases hat : atN l u with
 | none => rw [hat] at this; cases this
 | some k => exact h u hu k hat
theorem Strd.step {s : Sg} {l now : List Ent} {T : List Nat} (h : Strd s l now T) (hl : okLib s l = true) (hh : ∀ i, i < l.length → holdX s l i = true) {k : Nat} (hk : k < l.length) (hkT : k ∉ T) (hd : ∀ u ∈ usI l k, u ∈ T.map (nmI l)) (hTl : ∀ i ∈ T, i < l.length)
  (hdT : ∀ i ∈ T, ∀ u ∈ usI l i, u ∈ T.map (nmI l)) {t : List Int} (ht : strX s now k = some t) :
  Strd s l (setSays now k t) (T ++ [k]) ∧ okT s t = true ∧ okT s (eSays (l.getD k default)) = true ∧ instB s t (eSays (l.getD k default)) = true := by
 have hdl := (okLib_prts hl).2.2.2
 have hE := (okLib_prts hl).2.2.1
 have hE' := (okLib_prts h.ok).2.2.1
 have hkn : k < now.length := by rw [h.len]; exact hk
 have hkeep : isCanonT s t = true ∧ Ins s t (eSays (l.getD k default)) := by
  unfold strX at ht
  by_cases e0 : ePf (now.getD k default) = []
  ·rw [if_pos e0] at ht
   injection ht with ht
   have hx := hE' _ (List.getElem_mem hkn)
   unfold okEnt at hx
   simp only [Bool.and_eq_true] at hx
   rw [getD_at hkn] at ht
   refine ⟨by rw [← ht]; exact hx.1.2.2, ?_⟩
   rw [← h.un k hk hkT, getD_at hkn, ← ht]
   exact insSelf _
  ·rw [if_neg e0] at ht
   by_cases hin : inAll now (eUses (now.getD k default)) = true
   ·rw [if_pos hin] at ht
    by_cases hz : (saysE s (givF now (eUses (now.getD k default))) (ePf (now.getD k default))).2 = 0
    ·rw [if_pos hz] at ht
     injection ht with ht
     refine ⟨by rw [← ht]; exact saysE_can hz, ?_⟩
     have hh' := hh k hk
     unfold holdX strX at hh'
     rw [(h.us k hk).1, (h.us k hk).2] at ht hz
     rw [(h.us k hk).2] at e0
     rw [(h.us k hk).1, inAll_map h.nm] at hin
     rw [if_neg e0, if_pos hin] at hh'
     by_cases hz0 : (saysE s (givF l (eUses (l.getD k default))) (ePf (l.getD k default))).2 = 0
     ·rw [if_pos hz0] at hh'
      simp only [Bool.and_eq_true] at hh'
      have := says_more h.nm.symm hE' h.mo hin hz0 hz
      rw [ht] at this
      exact insTrans this (instB_iff.1 hh'.2)
     ·rw [if_neg hz0] at hh'; cases hh'
    ·rw [if_neg hz] at ht; cases ht
   ·rw [if_neg hin] at ht; cases ht
 have hnm' : (setSays now k t).map eNm = now.map eNm := setSays_nms
 have hget : ∀ i, i < l.length → (k = i → (setSays now k t).getD i default = (eNm (now.getD i default), eBy (now.getD i default), t, (eUses (now.getD i default), ePf (now.getD i default)))) ∧ (k ≠ i → (setSays now k t).getD i default = now.getD i default) := fun i hi => by
  have hin : i < now.length := by rw [h.len]; exact hi
  have := setSays_getD (i := k) (t := t) hin
  rw [getD_at hin]
  exact this
 have hsays : ∀ i, i < l.length → eSays ((setSays now k t).getD i default) = if k = i then t else eSays (now.getD i default) := fun i hi => by
  by_cases e : k = i
  ·rw [if_pos e, (hget i hi).1 e]; rfl
  ·rw [if_neg e, (hget i hi).2 e]
 have hus : ∀ i, i < l.length → eUses ((setSays now k t).getD i default) = eUses (now.getD i default) ∧ ePf ((setSays now k t).getD i default) = ePf (now.getD i default) := fun i hi => by
  by_cases e : k = i
  ·rw [(hget i hi).1 e]; exact ⟨rfl, rfl⟩
  ·rw [(hget i hi).2 e]; exact ⟨rfl, rfl⟩
 have hgiv : ∀ i, i < l.length → (∀ u ∈ usI l i, u ∈ T.map (nmI l)) → inAll now (eUses (now.getD i default)) = true → givF (setSays now k t) (eUses (now.getD i default)) = givF now (eUses (now.getD i default)) := fun i hi hu hin => by
  refine givF_same hnm' (fun u hu2 q hq => ?_) hin
  rw [(h.us i hi).1] at hu2
  obtain ⟨m, hm, e⟩ := List.mem_map.1 (hu u hu2)
  have hq2 : atN l u = some q := by rw [← atN_map h.nm]; exact hq
  rw [← e, atN_nmI hdl (hTl m hm)] at hq2
  injection hq2 with hq2
  have hml := hTl m hm
  subst hq2
  rw [hsays m hml, if_neg (fun e => hkT (by rw [e]; exact hm))]
 refine ⟨⟨by rw [setSays_len, h.len], setSays_ok h.ok hkn hkeep.1, hnm'.trans h.nm, fun i hi => ⟨(hus i hi).1.trans (h.us i hi).1, (hus i hi).2.trans (h.us i hi).2⟩, fun i hi hni => ?_, fun i hi => ?_, fun i hi => ?_⟩, ?_, okEnt_says' (hE _ (by rw [getD_at hk]; exact List.getElem_mem hk)), instB_iff.2 hkeep.2⟩
 ·rw [List.mem_append, List.mem_singleton] at hni
  rw [hsays i hi, if_neg (fun e => hni (.inr e.symm))]
  exact h.un i hi (fun e => hni (.inl e))
 ·rw [hsays i hi]
  by_cases e : k = i
  ·subst e; rw [if_pos rfl]; exact hkeep.2
  ·rw [if_neg e]; exact h.mo i hi
 ·rcases List.mem_append.1 hi with e | e
  ·have hil := hTl i e
   have hne : k ≠ i := fun e2 => hkT (by rw [e2]; exact e)
   rw [hsays i hil, if_neg hne, ← h.st i e]
   exact strX_same hnm' (hus i hil).1 (hus i hil).2 (fun _ => by rw [hsays i hil, if_neg hne]) (hgiv i hil (hdT i e))
  ·rw [List.mem_singleton] at e
   subst e
   rw [hsays i hk, if_pos rfl]
   have hax : ePf (now.getD i default) = [] → eSays (now.getD i default) = t := fun e0 => by
    unfold strX at ht; rw [if_pos e0] at ht; injection ht
   rw [← ht]
   exact strX_same hnm' (hus i hk).1 (hus i hk).2 (fun e0 => by rw [hsays i hk, if_pos rfl]; exact (hax e0).symm) (hgiv i hk hd)
 ·have := hkeep.1
  unfold isCanonT at this
  rw [Bool.and_eq_true] at this
  exact this.1
theorem usesN_same {l l' : List Ent} (hnm : l'.map eNm = l.map eNm) (hu : ∀ i, i < l.length → eUses (l'.getD i default) = eUses (l.getD i default)) : usesN l' = usesN l := by
 funext n
 unfold usesN
 rw [atN_map hnm]
 cases hat : atN l n with
 | none => rfl
 | some k => exact hu k (atN_some hat).1
theorem Strd.sound {s : Sg} {l now : List Ent} {T : List Nat} (h : Strd s l now T) (hT : ∀ i, i < l.length → i ∈ T) (hm : noneB (misB l) = true) (hc : noCirc l = true) : soundE s now (noCirc now) = (true, 0) ∧ ∀ i, i < now.length → strgE s now (nmI now i) = (eSays (now.getD i default), 0) := by
 have hd := (okLib_prts h.ok).2.2.2
 have hE := (okLib_prts h.ok).2.2.1
 have hun := usesN_same h.nm (fun i hi => (h.us i hi).1)
 have hstr : ∀ i, i < now.length → strX s now i = some (eSays (now.getD i default)) := fun i hi => h.st i (hT i (by rw [← h.len]; exact hi))
 have hmis : misB now = misB l := by
  funext u
  unfold misB
  rw [atN_map h.nm]
  congr 1
  rw [Bool.eq_iff_iff, List.any_eq_true, List.any_eq_true]
  constructor
  ·rintro ⟨x, hx, hu⟩
   obtain ⟨i, hi, rfl⟩ := List.getElem_of_mem hx
   have hil : i < l.length := by rw [← h.len]; exact hi
   have := (h.us i hil).1
   rw [getD_at hi, getD_at hil] at this
   exact ⟨_, List.getElem_mem hil, by rw [← this]; exact hu⟩
  ·rintro ⟨x, hx, hu⟩
   obtain ⟨i, hi, rfl⟩ := List.getElem_of_mem hx
   have hin : i < now.length := by rw [h.len]; exact hi
   have := (h.us i hi).1
   rw [getD_at hi, getD_at hin] at this
   exact ⟨_, List.getElem_mem hin, by rw [this]; exact hu⟩
 have hcir : noCirc now = true := by
  refine noCirc_none fun x hx => ?_
  rw [h.nm] at hx
  have hcl : CircR l none := by
   unfold noCirc at hc
   exact @of_decide_eq_true _ (Classical.propDecidable _) hc
  have := hcl x hx
  cases e : loopB now x with
  | false => rfl
  | true =>
   unfold loopB at e this
   rw [rchB_iff, hun, ← rchB_iff] at e
   rw [e] at this; cases this
 have hhold : ∀ i, i < now.length → holdX s now i = true := fun i hi => by
  unfold holdX
  rw [hstr i hi]
  have := okEnt_says' (hE _ (List.getElem_mem hi))
  simp only
  rw [getD_at hi, this, instB_iff.2 (insSelf _)]; rfl
 refine ⟨?_, fun i hi => ?_⟩
 ·unfold soundE
  rw [if_pos h.ok, hmis, hm, hcir]
  have : noneB (faiB s now) = true := by
   unfold noneB
   simp only [decide_eq_true_eq]
   intro x
   unfold faiB
   rw [hmis]
   have hm' := hm
   unfold noneB at hm'
   simp only [decide_eq_true_eq] at hm'
   rw [hm' x, Bool.false_or, chB_at hd]
   cases hat : atN now x with
   | none => rfl
   | some k => simp only; rw [hhold k (atN_some hat).1]; rfl
  rw [this]; rfl
 ·unfold strgE
  rw [if_pos h.ok, atN_nmI hd hi]
  simp only
  rw [hstr i hi]
end Go.Proofs.YtpmnnoopoblpgaaGreat

/- Walks: awake6 of lemmarytop: an axiom leans on nothing; heavy6. -/
namespace Go.Proofs.YtpmnnoopoblpgaaGreat
open Go Go.RowKit Go.Maps

def nA : ByteArray := ⟨#[97]⟩
def oneL : List Ent := [(nA, nAnn, [-1], [], [])]
theorem one_ok : okLib aw4S oneL = true := by decide +kernel
theorem one_uses (n : ByteArray) : usesN oneL n = [] := by
 unfold usesN
 cases h : atN oneL n with
 | none => rfl
 | some i =>
  obtain ⟨hi, -⟩ := atN_some h
  match i, hi with
  | 0, _ => rfl
theorem one_loop (x : ByteArray) : loopB oneL x = false := by
 cases h : loopB oneL x with
 | false => rfl
 | true =>
  unfold loopB at h
  rw [rchB_iff] at h
  exact (rch_no h (one_uses x)).elim
theorem one_axs : axsE aw4S oneL nA = ((fun x => decide (x = nA)), 0) := by
 have hat : atN oneL nA = some 0 := by decide
 rw [axsE_yes one_ok hat]
 unfold axiomsF
 rw [if_pos (by decide)]
theorem one_sound : soundE aw4S oneL true = (true, 0) := by
 unfold soundE
 rw [if_pos one_ok]
 have h1 : ∀ x, misB oneL x = false := fun x => by
  unfold misB oneL
  simp [eUses, memB]
 have h2 : holdX aw4S oneL 0 = true := by
  have hs : strX aw4S oneL 0 = some [-1] := by unfold strX; rw [if_pos (show ePf (oneL.getD 0 default) = [] from rfl)]; rfl
  unfold holdX
  rw [hs]
  have h3 : okT aw4S [-1] = true := by decide +kernel
  show (okT aw4S [-1] && okT aw4S [-1] && instB aw4S [-1] [-1]) = true
  rw [h3, ins_self]; rfl
 have h3 : noneB (misB oneL) = true := by unfold noneB; simp only [decide_eq_true_eq]; exact h1
 have h4 : noneB (faiB aw4S oneL) = true := by
  unfold noneB
  simp only [decide_eq_true_eq]
  intro x
  unfold faiB
  rw [h1 x, Bool.false_or]
  cases hc : chB oneL (fun i => !holdX aw4S oneL i) x with
  | false => rfl
  | true =>
   obtain ⟨i, hi, h, -⟩ := chB_iff.1 hc
   match i, hi with
   | 0, _ => rw [h2] at h; cases h
 rw [h3, h4]; rfl
abbrev onI : Obj := .cells #[.int .i64 (-1)] 3
abbrev onE (n : Nat) : Obj := .cells #[.string ⟨#[97]⟩, .string ⟨#[97, 110, 110]⟩, .slice (some ⟨n, 0, none⟩) 1 1, .slice none 0 0, .slice none 0 0] 37
set_option maxRecDepth 100000 in
set_option maxHeartbeats 4000000 in
theorem awakeS_any (w : World) : Calls Tryz.prog 63 #[] w fun e w' => e = .returned (.bool true) ∧ Below w.heap.size w w' := by
 obtain ⟨W1, hW1⟩ : ∃ W1, w.alloc skS = W1 := ⟨_, rfl⟩
 have s1 := sk_sign w
 rw [hW1] at s1
 have z1 : W1.heap.size = w.heap.size + 1 := by rw [← hW1]; simp
 have b1 : Below w.heap.size w W1 := by rw [← hW1]; exact below1 _ _
 have hI := (Ints.new W1 [-1] 3 (by decide) (by unfold inRange; decide)).any
 obtain ⟨W2, hW2⟩ : ∃ W2, W1.alloc onI = W2 := ⟨_, rfl⟩
 rw [show W1.alloc (.cells (([-1] : List Int).map (Value.int .i64)).toArray 3) = W1.alloc onI from rfl, hW2] at hI
 have z2 : W2.heap.size = w.heap.size + 1 + 1 := by rw [← hW2]; simp [z1]
 have b2 : Below W1.heap.size W1 W2 := by rw [← hW2]; exact below1 _ _
 have hL := (Sl.new (E := entE) (S := fun _ => True) W2 [[.string nA, .string nAnn, .slice (some ⟨W1.heap.size, 0, none⟩) 1 1, .slice none 0 0, .slice none 0 0]] oneL 37 rfl (by decide) (fun i h1 h2 => by
  match i, h1 with
  | 0, _ => exact ⟨[_], _, rfl, ⟨rfl, (by decide : 1 ≤ big)⟩, [_], _, rfl, ⟨rfl, (by decide : 3 ≤ big)⟩, [_], _, rfl, ⟨_, _, rfl, hI⟩, [_], [_], rfl, ⟨none, 0, rfl, Sl.empty⟩, ⟨none, 0, rfl, Sl.empty⟩⟩)).any
 obtain ⟨W3, hW3⟩ : ∃ W3, W2.alloc (onE W1.heap.size) = W3 := ⟨_, rfl⟩
 have hL3 : LibL (fun _ => True) W3 (some ⟨W2.heap.size, 0, none⟩) 1 oneL := by rw [← hW3]; exact hL
 have b3 : Below W2.heap.size W2 W3 := by rw [← hW3]; exact below1 _ _
 have s3 := (s1.below b2).below b3
 have b13 := bcall (bcall b1 b2) b3
 rw [z1] at hW3
 rw [z2] at hL3
 have v1 := Axioms_any (some ⟨w.heap.size, 0, none⟩) (some ⟨w.heap.size + 1 + 1, 0, none⟩) 1 1 aw4S oneL nA (by decide) W3 s3 hL3 (by decide)
 rw [one_axs] at v1
 have v1H := Lib.hid v1
 have v2H := Lib.hid (fun W (hb : Below W3.heap.size W3 W) => Sound_any (b := true) (some ⟨w.heap.size, 0, none⟩) (some ⟨w.heap.size + 1 + 1, 0, none⟩) 1 1 aw4S oneL W (s3.below hb) (hL3.below hb) (by decide) (fun B W xb _ hD => circNil_no hD (fun x _ => one_loop x)))
 have hb13 := Lib.hid b13
 have hWW := Lib.hid (show ((w.alloc skS).alloc onI).alloc (onE (w.heap.size + 1)) = W3 by rw [hW1, hW2, hW3])
 clear v1 s1 s3 hI hL hL3 b1 b2 b3 b13 hW1 hW2 hW3 z1 z2
 go_enter Tryz.func63, Tryz.ntmps63
 go_wp2_with fail
 rw [hWW.out]
 refine v1H.out.mono ?_
 rintro e w4 h4
 obtain ⟨a4, c4, rfl, hI4, hb4⟩ := h4.is (M := [nA]) (List.pairwise_singleton _ _) (fun x => by simp)
 have v2 := v2H.out w4 hb4
 rw [one_sound] at v2
 have v2' := Lib.hid v2
 have hb4H := Lib.hid (bcall hb13.out hb4)
 have hI4H := Lib.hid hI4
 clear h4 hI4 hb4 v2
 go_wp2_with fail
 refine v2'.out.mono ?_
 rintro e w5 ⟨rfl, hb5⟩
 have hu := (Sl.new (E := strE) (S := fun _ => False) w5 [[.string nA]] [nA] 9 rfl (by decide) (fun i h1 h2 => by
  match i, h1 with
  | 0, _ => exact ⟨rfl, (by decide : 1 ≤ big)⟩)).any
 obtain ⟨W6, hW6⟩ : ∃ W6, w5.alloc (.cells #[.string ⟨#[97]⟩] 9) = W6 := ⟨_, rfl⟩
 have hu6 : Sl strE (fun _ => True) W6 (some ⟨w5.heap.size, 0, none⟩) 1 [nA] := by rw [← hW6]; exact hu
 have hb6 : Below w5.heap.size w5 W6 := by rw [← hW6]; exact below1 _ _
 have vt := Lib.hid (SameTexts_any a4 (some ⟨w5.heap.size, 0, none⟩) c4 1 [nA] [nA] W6 ((hI4H.out.below hb5).below hb6) hu6)
 have hAA : decide ([nA] = [nA]) = true := by simp
 have hW6H := Lib.hid hW6
 have hb6H := Lib.hid (bcall (bcall hb4H.out hb5) hb6)
 clear hu hu6 hb5 hb6 hW6
 go_wp2_with fail
 rw [hW6H.out]
 refine vt.out.mono ?_
 rintro e w7 ⟨rfl, hd⟩
 have hfin := Lib.hid (bcall hb6H.out (hd.below _))
 clear hd
 go_wp2_with fail
 go_ret
 exact ⟨rfl, hfin.out⟩
end Go.Proofs.YtpmnnoopoblpgaaGreat

/- Walks: heavy6 of lemmarytop. -/
namespace Go.Proofs.YtpmnnoopoblpgaaGreat
open Go Go.RowKit Go.Maps

def heaRel (w1 : World) (N : Nat) (i : Value) (wr : World) : Prop := ∃ k : Nat, i = .int .i64 k ∧ k ≤ N ∧ w1 = wr
set_option maxHeartbeats 4000000 in
theorem heavyS_any {S1 S2 : Nat → Prop} (sa la : Option Addr) (sc lc : Nat) (s : Sg) (l : List Ent) (w : World) (h1 : Sign S1 w sa sc s) (h2 : LibL S2 w la lc l) :
  Calls Tryz.prog 62 #[.slice sa s.length sc, .slice la l.length lc] w fun e w' => ∃ r : Bool, e = .returned (.bool r) ∧ (r = false → okLib s l = true ∧ l.length ≤ 10) ∧ Below w.heap.size w w' := by
 have v := rVld_any sa la sc lc s l w h1 h2
 have m := h2.le
 have m1 := h1.le
 have h2H := Lib.hid h2
 have vH := Lib.hid v
 clear v h1 h2
 by_cases x1 : 20 < s.length
 ·have y1 : ((20 : Int) < (s.length : Int)) = True := eq_true (by omega)
  go_enter Tryz.func62, Tryz.ntmps62
  go_wp2_with fail
  go_ret
  exact ⟨true, rfl, (fun h => by cases h), .refl _ _⟩
 have y1 : ((20 : Int) < (s.length : Int)) = False := eq_false (by omega)
 by_cases x2 : 10 < l.length
 ·have y2 : ((10 : Int) < (l.length : Int)) = True := eq_true (by omega)
  go_enter Tryz.func62, Tryz.ntmps62
  go_wp2_with fail
  go_ret
  exact ⟨true, rfl, (fun h => by cases h), .refl _ _⟩
 have y2 : ((10 : Int) < (l.length : Int)) = False := eq_false (by omega)
 have hl10 : l.length ≤ 10 := by omega
 clear x1 x2
 cases hok : okLib s l with
 | false =>
  rw [hok] at vH
  clear hok
  go_enter Tryz.func62, Tryz.ntmps62
  go_wp2_with fail
  refine vH.out.mono ?_
  rintro e w1 ⟨rfl, hb⟩
  have hbH := Lib.hid hb
  clear hb
  go_wp2_with fail
  go_ret
  exact ⟨true, rfl, (fun h => by cases h), hbH.out⟩
 | true =>
  rw [hok] at vH
  have hokH := Lib.hid hok
  clear hok
  go_enter Tryz.func62, Tryz.ntmps62
  go_wp2_with fail
  refine vH.out.mono ?_
  rintro e w1 ⟨rfl, hb⟩
  have h3 := Lib.hid (h2H.out.below hb)
  have hbH := Lib.hid hb
  clear hb
  go_wp2_with fail
  go_loopw [5] (fun iv wr => heaRel w1 l.length iv wr) (fun iv _ => l.length - (intOf iv).toNat)
  case atStart => exact ⟨0, rfl, Nat.zero_le _, rfl⟩
  case round =>
   obtain ⟨k, rfl, hk, rfl⟩ := hrel
   by_cases hlt : k < l.length
   ·obtain ⟨b, off, a1, c1, a2, c2, a3, c3, rfl, hbB, p0, p1, p2, p3, p4, z1, z2, hI, hU, hP⟩ := h3.out.ent k hlt
    have hkk : (k : Int) < (l.length : Int) := by omega
    have mP := hP.le
    clear hI hU hP z1 z2
    generalize (ePf l[k]).length = np at *
    by_cases hp : 12 < np
    ·have y3 : ((12 : Int) < (np : Int)) = True := eq_true (by omega)
     go_wp2_with fail
     go_ret
     exact ⟨true, rfl, (fun h => by cases h), hbH.out⟩
    ·have y3 : ((12 : Int) < (np : Int)) = False := eq_false (by omega)
     have hfin := Lib.hid (show heaRel w1 l.length (.int .i64 ((k : Int) + 1)) w1 from ⟨k + 1, by simp, hlt, rfl⟩)
     go_wp2_with fail
     go_roundw
     case rel => exact hfin.out
     case measure => simp [intOf]; omega
   ·have hkk : ((k : Int) < (l.length : Int)) = False := eq_false (by omega)
    go_wp2_with fail
    go_ret
    exact ⟨false, rfl, (fun _ => ⟨by first | exact hokH.out | trivial | rfl, hl10⟩), hbH.out⟩
end Go.Proofs.YtpmnnoopoblpgaaGreat

/- The law TopStrong, walked. -/
namespace Go.Proofs.YtpmnnoopoblpgaaGreat
open Go Go.RowKit Go.Maps

theorem natI_at {T : List Nat} {q : Nat} (h : q < (natI T).length) : (natI T)[q] = ((T[q]'(by rw [natI_len] at h; exact h) : Nat) : Int) := by simp only [natI, List.getElem_map]
structure St6 (s : Sg) (l : List Ent) (x3 : World) (an : Option Addr) (cn : Nat) (T : List Nat) (now : List Ent) (wr : World) : Prop where
 st : Strd s l now T
 own : OwnE (fun _ => True) wr x3.heap.size (.slice an l.length cn) now
 b : Below x3.heap.size x3 wr
theorem St6.call {s : Sg} {l now : List Ent} {x3 wr W : World} {an : Option Addr} {cn : Nat} {T : List Nat} (h : St6 s l x3 an cn T now wr) (hb : Below wr.heap.size wr W) : St6 s l x3 an cn T now W := ⟨h.st, OwnL.call h.own hb, bcall h.b hb⟩
theorem St6.lib {s : Sg} {l now : List Ent} {x3 wr : World} {an : Option Addr} {cn : Nat} {T : List Nat} (h : St6 s l x3 an cn T now wr) : LibL (fun _ => True) wr an cn now := by
 obtain ⟨a, c, e, hS⟩ := OwnL.sl h.own
 injection e with e1 _ e3
 subst e1 e3
 exact hS.any
def st1Rel (s : Sg) (l : List Ent) (x3 : World) (an : Option Addr) (cn : Nat) (T : List Nat) (iv : Value) (wr : World) : Prop := ∃ (q : Nat) (now : List Ent), iv = .int .i64 q ∧ q ≤ T.length ∧ St6 s l x3 an cn (T.take q) now wr
def st2Rel (x4 : World) (N : Nat) (iv : Value) (wr : World) : Prop := ∃ i : Nat, iv = .int .i64 i ∧ i ≤ N ∧ Below x4.heap.size x4 wr
theorem St6.put {s : Sg} {l now : List Ent} {x3 w8 wr : World} {an : Option Addr} {cn : Nat} {T T' : List Nat} {k : Nat} {t : List Int} {ta : Option Addr} {tc : Nat} (h : St6 s l x3 an cn T now wr) (hk : k < l.length) (ht : Ints (FrI w8 wr) wr ta tc t) (hg8 : ∀ g, an = some ⟨g, 0, none⟩ → g < w8.heap.size)
  (hst : Strd s l (setSays now k t) T') : ∃ g, an = some ⟨g, 0, none⟩ ∧ (∃ v, wr.cell? ⟨g, k * 5 + 2, none⟩ = some v ∧ wr.frozen? ⟨g, k * 5 + 2, none⟩ = false) ∧ St6 s l x3 an cn T' (setSays now k t) (wr.setCell ⟨g, k * 5 + 2, none⟩ (.slice ta t.length tc)) := by
 have hl := h.st.len
 have ho := h.own
 rw [← hl] at ho
 have hkn : k < now.length := by rw [hl]; exact hk
 obtain ⟨g, cap, e, hg1, hg2⟩ := OwnL.form ho (fun e => by rw [e] at hkn; simp at hkn)
 injection e with e1 _ e3
 subst e1 e3
 have hne : ∀ b, FrI w8 wr b → True ∧ b ≠ g := fun b hb => ⟨trivial, fun e => by
  subst e
  rcases hb with hb | hb
  ·have := hg8 b rfl; omega
  ·obtain ⟨cur, hc⟩ := OwnL.rowCells ho b rfl
   exact not_intB hc (by decide) hb⟩
 obtain ⟨h1, h2⟩ := OwnE.setSays ho k hkn (ht.weak hne)
 obtain ⟨v, c1, c2⟩ := entSays_cell ho k hkn
 refine ⟨g, rfl, ⟨v, c1, c2⟩, hst, ?_, h.b.grown h2 h.b.size (fun j e => by injection e with e; omega)⟩
 rw [← hl]
 exact h1
set_option maxRecDepth 100000 in
set_option maxHeartbeats 16000000 in
theorem TopStrong_walk {S1 S2 : Nat → Prop} (sa : Option Addr) (sc : Nat) (s : Sg) (la : Option Addr) (lc : Nat) (l : List Ent) (w : World) (h1 : Sign S1 w sa sc s) (h2 : LibL S2 w la lc l) :
  Calls Tryz.prog 10 #[.slice sa s.length sc, .slice la l.length lc] w fun e w' => e = .returned (.bool true) ∧ Below w.heap.size w w' := by
 have m1 := h1.le
 have m2 := h2.le
 have vh := Lib.hid (heavyS_any sa la sc lc s l w h1 h2)
 have h1H := Lib.hid h1
 have h2H := Lib.hid h2
 clear h1 h2
 go_enter Tryz.func10, Tryz.ntmps10
 go_wp2_with fail
 refine vh.out.mono ?_
 rintro e w1 ⟨r, rfl, hrf, hb1⟩
 have hb1H := Lib.hid hb1
 clear hb1
 cases r with
 | true =>
  have va := Lib.hid (awakeS_any w1)
  clear hrf
  go_wp2_with fail
  refine va.out.mono ?_
  rintro e w2 ⟨rfl, hb2⟩
  have hfin := Lib.hid (bcall hb1H.out hb2)
  clear hb2
  go_wp2_with fail
  go_ret
  exact ⟨rfl, hfin.out⟩
 | false =>
 obtain ⟨hok, hl10⟩ := hrf rfl
 have hl1000 : l.length ≤ 1000 := by omega
 have vS := Sound_any (b := noCirc l) sa la sc lc s l w1 (h1H.out.below hb1H.out) (h2H.out.below hb1H.out) hl1000 (fun _ _ _ _ hD => circNil_gen hD)
 obtain ⟨so, hso⟩ : ∃ so, soundE s l (noCirc l) = (so, 0) := ⟨((noneB (misB l) && noCirc l) && noneB (faiB s l)), by unfold soundE; rw [if_pos hok]⟩
 rw [hso] at vS
 have vSH := Lib.hid vS
 have hokH := Lib.hid hok
 have hsoH := Lib.hid hso
 clear vS hok hso hrf
 go_wp2_with fail
 refine vSH.out.mono ?_
 rintro e w2 ⟨rfl, hb2⟩
 have hb2H := Lib.hid (bcall hb1H.out hb2)
 clear hb2
 cases so with
 | false =>
  have va := Lib.hid (awakeS_any w2)
  go_wp2_with fail
  refine va.out.mono ?_
  rintro e w3 ⟨rfl, hb3⟩
  have hfin := Lib.hid (bcall hb2H.out hb3)
  clear hb3
  go_wp2_with fail
  go_ret
  exact ⟨rfl, hfin.out⟩
 | true =>
 have hsnd : noneB (misB l) = true ∧ noCirc l = true ∧ noneB (faiB s l) = true := by
  have := hsoH.out
  unfold soundE at this
  rw [if_pos hokH.out] at this
  injection this with this _
  simp only [Bool.and_eq_true] at this
  exact ⟨this.1.1, this.1.2, this.2⟩
 obtain ⟨hmis, hcir, hfai⟩ := hsnd
 have hd := (okLib_parts hokH.out).2.2.2
 have hcl : CircR l none := by
  have hc := hcir
  unfold noCirc at hc
  exact @of_decide_eq_true _ (Classical.propDecidable _) hc
 have hor := ordly_ok hokH.out hmis hcl
 have hTl := (ordL_circ hd hmis hcl).2 rfl
 have hhold : ∀ i, i < l.length → holdX s l i = true := fun i hi => by
  unfold noneB at hfai
  simp only [decide_eq_true_eq] at hfai
  have := hfai (nmI l i)
  unfold faiB at this
  rw [Bool.or_eq_false_iff, chB_at hd, atN_nmI hd hi] at this
  simpa using this.2
 have vO := DepsOrder_any sa la sc lc s l w2 (h1H.out.below hb2H.out) (h2H.out.below hb2H.out) hl1000
 rw [hor] at vO
 have hOS := Lib.hid (ordL_ord l)
 have hfull := Lib.hid (fun i (hi : i < l.length) => ordS_full (ordL_ord l) hTl hi)
 obtain ⟨T, hT⟩ : ∃ T, ordL l = T := ⟨_, rfl⟩
 rw [hT] at vO hTl hOS hfull
 have vOH := Lib.hid vO
 have hmisH := Lib.hid hmis
 have hcirH := Lib.hid hcir
 have hholdH := Lib.hid hhold
 have hdH := Lib.hid hd
 have hTlH := Lib.hid hTl
 clear vO hmis hcir hfai hd hcl hor hTl hhold hT
 go_wp2_with fail
 refine vOH.out.mono ?_
 rintro e x3 ⟨v, rfl, hO, hb3⟩
 obtain ⟨ao, co, rfl, hI⟩ := OwnI.ints hO
 have hnl : (natI T).length = l.length := by rw [natI_len, hTlH.out]
 have mI := hI.le
 have hb3H := Lib.hid (bcall hb2H.out hb3)
 have hIH := Lib.hid hI.lt
 simp only at hnl mI
 try simp only
 rw [hnl] at mI ⊢
 obtain ⟨v', x4, hrun, ho, hb4⟩ := ents_copied (h2H.out.below hb3H.out) hl1000
 obtain ⟨an, cn, rfl, hSn⟩ := OwnL.sl ho
 have mN := hSn.le
 have hS0 : St6 s l x3 an cn (T.take 0) l x4 := ⟨by rw [List.take_zero]; exact Strd.start hokH.out, OwnL.weak ho (fun _ _ _ => trivial), hb4⟩
 have hg4 : ∀ g, an = some ⟨g, 0, none⟩ → g < x4.heap.size := fun g e => by
  subst e
  exact (OwnL.lt ho g rfl).2
 have hst := Lib.hid (show st1Rel s l x3 an cn T (.int .i64 0) x4 from ⟨0, l, rfl, Nat.zero_le _, hS0⟩)
 have hrunH := Lib.hid hrun
 have hg4H := Lib.hid hg4
 have hx34 : x3.heap.size ≤ x4.heap.size := hb4.size
 have hz4H := Lib.hid hx34
 have hL3 := Lib.hid ((h2H.out.below hb3H.out).lt)
 have hS3 := Lib.hid (h1H.out.below hb3H.out).lt
 clear hO hI hb3 hrun ho hSn hS0 hg4 hb4 hx34
 go_wp2_with (at_builtin; refine wpList_append_run rfl _ _ _ rfl rfl rfl hrunH.out ?_)
 have hTl := hTlH.out
 go_loopw [9] (fun iv wr => st1Rel s l x3 an cn T iv wr ∧ x4.heap.size ≤ wr.heap.size) (fun iv _ => l.length - (intOf iv).toNat)
 case atStart => exact ⟨hst.out, Nat.le_refl _⟩
 case round =>
  obtain ⟨⟨q, now, rfl, hq, hSt⟩, hxz⟩ := hrel
  by_cases hql : q < l.length
  ·have hqT : q < T.length := by omega
   have hqq : (q : Int) < (l.length : Int) := by omega
   have hIr : Ints (fun b => w2.heap.size ≤ b ∧ b < x3.heap.size) wr ao co (natI T) := hIH.out.same (fun b hb _ => hSt.b.block b hb.2)
   obtain ⟨bo, oo, rfl, -, qo, -⟩ := hIr.int q (by rw [hnl]; exact hql)
   rw [natI_at] at qo
   obtain ⟨k, hk⟩ : ∃ k, T[q] = k := ⟨_, rfl⟩
   rw [hk] at qo
   have hkl : k < l.length := by rw [← hk]; exact hOS.out.lt _ (List.getElem_mem hqT)
   have htk : T.take (q + 1) = T.take q ++ [k] := by rw [List.take_succ_eq_append_getElem hqT, hk]
   have hkT : k ∉ T.take q := fun hm => by
    have hnd := hOS.out.nd
    obtain ⟨j, hj, he⟩ := List.getElem_of_mem hm
    rw [List.length_take] at hj
    rw [List.getElem_take] at he
    have := (List.getElem_inj (xs := T) (h₀ := by omega) (h₁ := hqT) hnd).1 (he.trans hk.symm)
    omega
   have hdn : ∀ u ∈ usI l k, u ∈ (T.take q).map (nmI l) := fun u hu => hOS.out.dn q hqT u (by rw [hk]; exact hu)
   have hTlt : ∀ i ∈ T.take q, i < l.length := fun i hi => hOS.out.lt i (List.mem_of_mem_take hi)
   have hdT : ∀ i ∈ T.take q, ∀ u ∈ usI l i, u ∈ (T.take q).map (nmI l) := fun i hi u hu => by
    obtain ⟨j, hj, rfl⟩ := List.getElem_of_mem hi
    rw [List.length_take] at hj
    rw [List.getElem_take] at hu
    have := hOS.out.dn j (by omega) u hu
    obtain ⟨p, hp, e2⟩ := List.mem_map.1 this
    exact List.mem_map.2 ⟨p, (List.take_subset_take_left _ (by omega)) hp, e2⟩
   have hstep := Lib.hid (fun t ht => hSt.st.step hokH.out hholdH.out hkl hkT hdn hTlt hdT (t := t) ht)
   have hkI : (k : Int) < (l.length : Int) := by omega
   have hk0 : ((k : Int) < 0) = False := eq_false (by omega)
   have hk1 : ((l.length : Int) ≤ (k : Int)) = False := eq_false (by omega)
   have hLr := hL3.out.same (w' := wr) (fun b hb _ => hSt.b.block b hb.2)
   obtain ⟨b, off, a1, c1, a2, c2, a3, c3, rfl, hbB, p0, p1, p2, p3, p4, z1, z2, hIs, hU, hP⟩ := hLr.ent k hkl
   have hatn : atN now (eNm l[k]) = some k := by rw [atN_map hSt.st.nm, ← nmI_at hkl]; exact atN_nmI hdH.out hkl
   have hlen := hSt.st.len
   have vG := StrongestB_any sa an sc cn s now (eNm l[k]) z1 wr (hS3.out.same (fun b hb _ => hSt.b.block b hb.2)) hSt.lib (by omega)
   rw [hlen] at vG
   have hge : strgE s now (eNm l[k]) = (match strX s now k with | some t => (t, (0 : Int)) | none => ([], 11)) := by unfold strgE; rw [if_pos hSt.st.ok, hatn] <;> rfl
   rw [hge] at vG
   have hgd : l.getD k default = l[k] := getD_at hkl
   have mS := hIs.le
   have hStH := Lib.hid hSt
   have htkH := Lib.hid htk
   have hIsH := Lib.hid hIs
   clear hIr hk hkT hdn hTlt hdT hLr hU hP hatn hge hSt htk hIs z1 z2
   cases hsx : strX s now k with
   | none =>
    rw [hsx] at vG
    have vGH := Lib.hid vG
    clear vG hsx
    generalize eNm l[k] = nm at *
    go_wp2_with fail
    refine vGH.out.mono ?_
    rintro e w9 ⟨ta, tc, rfl, -, hb9⟩
    have va := Lib.hid (awakeS_any w9)
    have hb9H := Lib.hid (bcall hb3H.out (bcall hStH.out.b hb9))
    clear hb9
    go_wp2_with fail
    refine va.out.mono ?_
    rintro e w10 ⟨rfl, hb10⟩
    have hfin := Lib.hid (bcall hb9H.out hb10)
    clear hb10
    go_wp2_with fail
    go_ret
    exact ⟨rfl, hfin.out⟩
   | some t =>
    rw [hsx] at vG
    obtain ⟨hst2, o1, o2, o3⟩ := hstep.out t hsx
    rw [hgd] at o2 o3
    have vGH := Lib.hid vG
    have hst2H := Lib.hid hst2
    have hins := Lib.hid (show (okT s t && okT s (eSays l[k]) && instB s t (eSays l[k])) = true by rw [o1, o2, o3]; rfl)
    clear vG hsx hst2 o1 o2 o3
    generalize eNm l[k] = nm at *
    obtain ⟨sy, hsy⟩ : ∃ sy, eSays l[k] = sy := ⟨_, rfl⟩
    rw [hsy] at p2 mS hIsH hins
    clear hsy hgd
    go_wp2_with fail
    refine vGH.out.mono ?_
    rintro e w9 ⟨ta, tc, rfl, hIt, hb9⟩
    have mT := hIt.le
    have p2' := cell_later hb9 p2
    have hS9 := hStH.out.call hb9
    have vn := rInstance_any sa ta a1 sc tc c1 s t sy w9 (hS3.out.same (fun b hb _ => hS9.b.block b hb.2)) hIt (hIsH.out.below hb9)
    rw [hins.out] at vn
    have vnH := Lib.hid vn
    have hS9H := Lib.hid hS9
    have hItH := Lib.hid hIt
    have hz9 : x4.heap.size ≤ w9.heap.size := Nat.le_trans hxz hb9.size
    have hz9H := Lib.hid hz9
    clear vn hS9 hIt hb9 hz9
    simp only at mT
    go_wp2_with fail
    refine vnH.out.mono ?_
    rintro e w10 ⟨rfl, hb10⟩
    obtain ⟨g, rfl, ⟨vv, ec1, ec2⟩, hS10⟩ := (hS9H.out.call hb10).put (w8 := wr) hkl (hItH.out.fr hb10) (fun g e => Nat.lt_of_lt_of_le (hg4H.out g e) hxz) hst2H.out
    have hfin := Lib.hid (show st1Rel s l x3 (some ⟨g, 0, none⟩) cn T (.int .i64 ((q : Int) + 1)) (w10.setCell ⟨g, k * 5 + 2, none⟩ (.slice ta t.length tc)) ∧ x4.heap.size ≤ (w10.setCell ⟨g, k * 5 + 2, none⟩ (.slice ta t.length tc)).heap.size from
     ⟨⟨q + 1, _, by simp, by omega, by rw [htkH.out]; exact hS10⟩, by rw [World.size_setCell]; exact Nat.le_trans hz9H.out hb10.size⟩)
    clear hS10 hb10
    go_wp2_with fail
    go_roundw
    case rel => exact hfin.out
    case measure => simp [intOf]; omega
  ·have hqq : ((q : Int) < (l.length : Int)) = False := eq_false (by omega)
   have hqe : q = T.length := by omega
   rw [hqe, List.take_length] at hSt
   obtain ⟨hsd, hstr⟩ := hSt.st.sound hfull.out hmisH.out hcirH.out
   have hlen := hSt.st.len
   have hSg : Sign _ wr sa sc s := hS3.out.same (fun b hb _ => hSt.b.block b hb.2)
   have vS2 := Sound_any (b := noCirc now) sa an sc cn s now wr hSg hSt.lib (by omega) (fun _ _ _ _ hD => circNil_gen hD)
   rw [hsd, hlen] at vS2
   have vS2H := Lib.hid vS2
   have hStH := Lib.hid hSt
   have hstrH := Lib.hid hstr
   have hlenH := Lib.hid hlen
   clear vS2 hsd hstr hSg hSt hlen
   go_wp2_with fail
   refine vS2H.out.mono ?_
   rintro e x5 ⟨rfl, hb5⟩
   have hS5 := Lib.hid (hStH.out.call hb5)
   have hst5 := Lib.hid (show st2Rel x5 l.length (.int .i64 0) x5 from ⟨0, rfl, Nat.zero_le _, .refl _ _⟩)
   clear hb5
   go_wp2_with fail
   go_loopw [13] (fun iv wr => st2Rel x5 l.length iv wr) (fun iv _ => l.length - (intOf iv).toNat)
   case atStart => exact hst5.out
   case round =>
    obtain ⟨i, rfl, hi, hB⟩ := hrel
    have hS6 := hS5.out.call hB
    by_cases hil : i < l.length
    ·have hii : (i : Int) < (l.length : Int) := by omega
     have hin : i < now.length := by rw [hlenH.out]; exact hil
     have hlb := hS6.lib
     obtain ⟨b, off, a1, c1, a2, c2, a3, c3, rfl, hbB, p0, p1, p2, p3, p4, z1, z2, hIs, hU, hP⟩ := hlb.ent i hin
     have vG := StrongestB_any sa (some ⟨b, off, none⟩) sc cn s now (eNm now[i]) z1 wr (hS3.out.same (fun b hb _ => hS6.b.block b hb.2)) hlb (by rw [hlenH.out]; omega)
     have hge := hstrH.out i hin
     rw [nmI_at hin, getD_at hin] at hge
     rw [hge, hlenH.out] at vG
     have vGH := Lib.hid vG
     have mS := hIs.le
     have hIsH := Lib.hid hIs
     have hBH := Lib.hid hB
     have hS6H := Lib.hid hS6
     clear vG hge hIs hU hP z1 z2 hlb hS6 hB
     generalize eNm now[i] = nm at *
     generalize eSays now[i] = sy at *
     go_wp2_with fail
     refine vGH.out.mono ?_
     rintro e w9 ⟨ta, tc, rfl, hIt, hb9⟩
     have mT := hIt.le
     have p2' := cell_later hb9 p2
     have vt := Lib.hid (SameTermD_any ta a1 tc c1 sy sy w9 hIt (hIsH.out.below hb9))
     have hss : decide (sy = sy) = true := by simp
     have hb9H := Lib.hid (bcall hBH.out hb9)
     clear hIt hb9
     simp only at mT
     go_wp2_with fail
     refine vt.out.mono ?_
     rintro e w10 ⟨rfl, hd⟩
     have hfin := Lib.hid (show st2Rel x5 l.length (.int .i64 ((i : Int) + 1)) w10 from ⟨i + 1, by simp, hil, bcall hb9H.out (hd.below _)⟩)
     clear hd
     go_wp2_with fail
     go_roundw
     case rel => exact hfin.out
     case measure => simp [intOf]; omega
    ·have hii : ((i : Int) < (l.length : Int)) = False := eq_false (by omega)
     have va := Lib.hid (awakeS_any wr)
     have hbF := Lib.hid (bcall hb3H.out hS6.b)
     clear hS6 hB hil hi
     go_wp2_with fail
     refine va.out.mono ?_
     rintro e w11 ⟨rfl, hb11⟩
     have hfin := Lib.hid (bcall hbF.out hb11)
     clear hb11
     go_wp2_with fail
     go_ret
     exact ⟨rfl, hfin.out⟩
end Go.Proofs.YtpmnnoopoblpgaaGreat

/- The statement TopStrongSaid: for every input TopStrong returns true and leaves its arguments as they were. No condition. -/
namespace Go.Proofs.YtpmnnoopoblpgaaGreat
open Go Go.RowKit Go.ChangeShapes Go.WideShapes Go.ChangeAt

set_option maxRecDepth 100000 in
theorem topStrong_lifted (os : Os) (started : os.Started) (H : Type) (enc : TypeId × Value → H) :
  ReturnsInHanded {} Tryz.checked os 10 .any (Rows.topStrongSpec.pre6 enc Tryz.prog Tryz.f10 Rows.topStrongRow.domain false) (Rows.topStrongSpec.post enc Tryz.prog Tryz.f10 false true false false) := by
 refine returnsInHanded_of_change (C := Tryz.checked) Tryz.own started (by kernel_rfl) Tryz.func10
  (ChangeSpec.witness6 (enc := enc) (C := Tryz.checked) false ⟨#[], #[.slice none 0 0, .slice none 0 0], []⟩ 8 (by kernel_rfl) (by kernel_rfl) (by kernel_rfl) (by kernel_rfl)) ?_
 intro W base args ds gs before hval0 hW hcnd _
 have hval : ∀ (j : Nat) t v, Tryz.f10.params[j]? = some t → args[j]? = some v → Value.okWide Tryz.prog W .any base t v := hval0
 have hW' := hW
 obtain ⟨p, q, hA0, hV, rfl, hfz, hnd⟩ := hW
 have hA : DataW.TrodAll enc Tryz.prog W 0 (fun _ => true) true Tryz.f10.params.toList args.toList ds p := hA0
 rw [Tryz.params10] at hA hval
 obtain ⟨v0, v1, d0, d1, p0, p1, rfl, rfl, rfl, h0, h1⟩ := trodAll_two hA
 obtain ⟨rfl, rfl⟩ := trodVars_none hV
 clear hA0 hval0
 simp only [List.append_nil] at hW'
 have hlt : ∀ x ∈ p0 ++ p1, x.block < W.heap.size := fun x hx => hW'.lt x (by simpa using hx)
 have keep0 := fun (W' : World) (hn : Below W.heap.size W W') => Below.trod Tryz.laidOut (by kernel_rfl) (of_decide_eq_true (by kernel_rfl)) h0 hn (fun x hx => hlt x (by simp [hx]))
 have keep1 := fun (W' : World) (hn : Below W.heap.size W W') => Below.trod Tryz.laidOut (by kernel_rfl) (of_decide_eq_true (by kernel_rfl)) h1 hn (fun x hx => hlt x (by simp [hx]))
 obtain ⟨l0, a0, c0, rfl, r0⟩ := gSign.arg h0 (okWide_slice Tryz.underlying23 (hval 0 23 v0 rfl rfl))
 obtain ⟨l1, a1, c1, rfl, r1⟩ := gLib.arg h1 (okWide_slice Tryz.underlying24 (hval 1 24 v1 rfl rfl))
 refine (TopStrong_walk _ _ _ _ _ _ W r0 r1).mono fun e W' ⟨he, hB⟩ => ?_
 subst he
 exact ⟨_, rfl, _, _, _, [], p0 ++ p1, [], hW', trodAll_mk1 (shut_bool Tryz.underlying4 true), trodAll_mk2 (keep0 _ hB) (keep1 _ hB), rfl, hB.frame _, fun h => by cases h⟩

theorem topStrong_holds : Rows.TopStrongSaid :=
 OpenClaim.holds_of_wide 10 Tryz.f10 rfl rfl rfl rfl rfl rfl rfl ⟨rfl, rfl, rfl, rfl, rfl⟩ rfl rfl rfl rfl rfl (by kernel_rfl) Tryz.func10 (by kernel_rfl)
  (of_decide_eq_true (by kernel_rfl)) (by unfold Func.isWrapper; rw [if_neg (of_decide_eq_false (by kernel_rfl))]; exact ⟨rfl, rfl⟩)
  (fun os started H enc _ => topStrong_lifted os started H enc)
end Go.Proofs.YtpmnnoopoblpgaaGreat
