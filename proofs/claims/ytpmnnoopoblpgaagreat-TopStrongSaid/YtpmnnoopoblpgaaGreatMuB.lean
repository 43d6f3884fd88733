/- The proof of a statement, some of its texts joined in build order: part B. -/
import Derived.Test.YtpmnnoopoblpgaaGreatRegS
import Derived.Test.YtpmnnoopoblpgaaGreatWalkL
import Derived.Lib.AppendZeros
import Derived.Test.YtpmnnoopoblpgaaGreatUAfter
import Derived.Test.YtpmnnoopoblpgaaGreatVMap
import Derived.Test.YtpmnnoopoblpgaaGreatWalkE
import Derived.Test.YtpmnnoopoblpgaaGreatWalkI
import Derived.Test.YtpmnnoopoblpgaaGreatWalkK
import Derived.Test.YtpmnnoopoblpgaaGreatWalkJ
import Derived.Test.YtpmnnoopoblpgaaGreatUniStep
import Derived.Test.YtpmnnoopoblpgaaGreatMath6
import Derived.Deep.LoopGhost
import Derived.Test.YtpmnnoopoblpgaaGreatWalkD
import Derived.Test.YtpmnnoopoblpgaaGreatUSt
import Derived.Test.YtpmnnoopoblpgaaGreatRegion
import Derived.Test.YtpmnnoopoblpgaaGreatWalkG
import Derived.Test.YtpmnnoopoblpgaaGreatBoxList
/- Walks: Args, of both; lists of terms alike; all valid. -/
namespace Go.Proofs.YtpmnnoopoblpgaaGreat
open Go Go.RowKit Go.Maps

theorem quiet_drew {P : Program} {f : FuncId} {args : Array Value} {w : World} {n : Nat} {v : Value}
  (h : Calls P f args (w.drewN n) fun e w' => e = .returned v ∧ Drew (w.drewN n) w') : Calls P f args (w.drewN n) fun e w'' => e = .returned v ∧ ∃ m, w'' = w.drewN m :=
 h.mono fun _ _ ⟨he, m, hm⟩ => ⟨he, n + m, by rw [hm]; simp⟩

theorem flatten_set1 : ∀ {xs : List (List Value)} (_ : ∀ x ∈ xs, x.length = 1) (i : Nat) (u : Value), (xs.set i [u]).flatten = xs.flatten.set i u
 | [], _, _, _ => rfl
 | x :: r, h, i, u => by
  have hx := h x (by simp)
  obtain ⟨y, rfl⟩ := List.length_eq_one_iff.1 hx
  cases i with
  | zero => rfl
  | succ i =>
   rw [List.set_cons_succ, List.flatten_cons, flatten_set1 (fun z hz => h z (by simp [hz])) i u]; rfl
section
variable {S : Nat → Prop} {w : World} {base g n cap : Nat} {l : List (List Int)}
theorem OwnTs.ones {xs : List (List Value)} {T : Nat → Prop} (hl : xs.length = l.length) (hx : ∀ i (h1 : i < xs.length) (h2 : i < l.length), (slE intE).R T w xs[i] l[i]) : ∀ x ∈ xs, x.length = 1 := by
 intro x hxm
 obtain ⟨i, hi, rfl⟩ := List.getElem_of_mem hxm
 exact (slE intE).len (hx i hi (by omega))
theorem OwnTs.cell (h : OwnTs S w base (.slice (some ⟨g, 0, none⟩) n cap) l) (hn : n = l.length) (i : Nat) (hi : i < l.length) :
  ∃ a c, w.cell? ⟨g, i, none⟩ = some (.slice a l[i].length c) ∧ Ints (Off S (.slice (some ⟨g, 0, none⟩) n cap)) w a c l[i] ∧ w.frozen? ⟨g, i, none⟩ = false := by
 subst hn
 obtain ⟨xs, ho, hl, hx⟩ := h
 have hi' : i < xs.length := by omega
 obtain ⟨a, c, he, hI⟩ := hx i hi' hi
 have h1 := OwnTs.ones hl hx
 refine ⟨a, c, ?_, hI, ho.frozenAt i⟩
 rw [ho.cellAt i (by show i < l.length * 1; omega)]
 have := flatten_get h1 i hi' 0 (by rw [he]; simp)
 rw [Nat.mul_one, Nat.add_zero] at this
 rw [this]; simp [he]
theorem OwnTs.set (h : OwnTs S w base (.slice (some ⟨g, 0, none⟩) n cap) l) (hn : n = l.length) (i : Nat) {a : Option Addr} {c : Nat} {u : List Int} (hu : Ints (Off S (.slice (some ⟨g, 0, none⟩) n cap)) w a c u) :
  OwnTs S (w.setCell ⟨g, i, none⟩ (.slice a u.length c)) base (.slice (some ⟨g, 0, none⟩) n cap) (l.set i u) ∧ w.grownBy (w.setCell ⟨g, i, none⟩ (.slice a u.length c)) (some g) := by
 subst hn
 obtain ⟨xs, ho, hl, hx⟩ := h
 have h1 := OwnTs.ones hl hx
 obtain ⟨r1, r2⟩ := ho.stored i (.slice a u.length c)
 have hA : Agree (Off S (.slice (some ⟨g, 0, none⟩) l.length cap)) w (w.setCell ⟨g, i, none⟩ (.slice a u.length c)) := .of_grown r2 (fun b hb e => hb.2 (by rw [e]; rfl))
 refine ⟨⟨xs.set i [.slice a u.length c], by rw [List.length_set, flatten_set1 h1]; exact r1, by simp [hl], fun j h1 h2 => ?_⟩, r2⟩
 by_cases hj : i = j
 ·subst hj
  simp only [List.getElem_set_self]
  exact (slE intE).mono (w := w) (S := Off S (.slice (some ⟨g, 0, none⟩) l.length cap)) ⟨a, c, rfl, hu⟩ (fun _ _ h => h) hA
 ·rw [List.getElem_set_ne hj, List.getElem_set_ne hj]
  exact (slE intE).mono (hx j (by simpa using h1) (by simpa using h2)) (fun _ _ h => h) hA
end

def argsE (s : Sg) (t : List Int) : List (List Int) × Int := if okT s t then (argsT s t, 0) else ([], 1)
theorem argsE_ok {s : Sg} {t : List Int} (h : okT s t = true) : argsE s t = (argsT s t, 0) := by rw [argsE, if_pos h]
theorem argsE_no {s : Sg} {t : List Int} (h : okT s t = false) : argsE s t = ([], 1) := by rw [argsE, h]; rfl
def retTE (r : List (List Int) × Int) (w : World) (e : Ending) (w' : World) : Prop := ∃ v, e = .returned (.tuple #[v, .int .i64 r.2]) ∧ OwnTs (fun _ => True) w' w.heap.size v r.1 ∧ Below w.heap.size w w'

def ArgRel (L : List (List Int)) (w : World) (v i : Value) (wr : World) : Prop := ∃ k : Nat, i = .int .i64 k ∧ k ≤ L.length ∧ OwnTs (fun _ => True) wr w.heap.size v L ∧ Below w.heap.size w wr
set_option maxHeartbeats 1000000 in
theorem Args_any {S1 S2 : Nat → Prop} (a1 a2 : Option Addr) (c1 c2 : Nat) (s : Sg) (t : List Int) (w : World) (h1 : Sign S1 w a1 c1 s) (h2 : Ints S2 w a2 c2 t) :
  Calls Tryz.prog 232 #[.slice a1 s.length c1, .slice a2 t.length c2] w (retTE (argsE s t) w) := by
 have m2 := h2.le
 have v1 := Valid_any a1 a2 c1 c2 s t w h1 h2
 obtain ⟨x, hx⟩ : ∃ x, okT s t = x := ⟨_, rfl⟩
 rw [hx] at v1
 have v1H := Lib.hid v1
 clear v1
 cases x with
 | false =>
  rw [argsE_no hx]
  clear hx
  go_enter Tryz.func232, Tryz.ntmps232
  go_wp2_with (go_at_call 119; refine v1H.out.mono ?_; rintro e w1 ⟨rfl, hb⟩)
  go_ret2
  exact ⟨_, rfl, .nil _ _ _ _ _, hb⟩
 | true =>
  rw [argsE_ok hx]
  have hl := (okT_parts hx).2.2.1
  have hsp := argsT_spec hx
  have hall : ∀ u ∈ argsT s t, u.length ≤ lim := fun u hu => okT_lim (hsp.2.2 u hu)
  have hLn : (argsT s t).length ≤ 60 := by
   rw [hsp.1]
   obtain ⟨n, r, rfl, hc, -⟩ := okT_head hx
   have := (arC_ok (okT_parts hx).1 hc).2
   simp only [List.headD_cons]; omega
  have ca := fun W (hb : Below w.heap.size w W) => args_any a1 a2 c1 c2 s t W (h1.below hb) (h2.below hb) hx
  obtain ⟨L, hL⟩ : ∃ L, argsT s t = L := ⟨_, rfl⟩
  rw [hL] at ca hall hLn ⊢
  have caH := Lib.hid ca
  clear hx ca hsp hL
  go_enter Tryz.func232, Tryz.ntmps232
  go_wp2_with (first | (go_at_call 119; refine v1H.out.mono ?_; rintro e w1 ⟨rfl, hb⟩) | (go_at_call 238; refine (caH.out w1 hb).mono ?_; rintro e w2 ⟨v, rfl, ho0, hb2⟩; have hB2 := bcall hb hb2; have ho := (ho0.weak (S' := fun _ => True) (fun _ _ _ => trivial)).baseMono hb.size; clear ho0; obtain ⟨a, c, rfl, -⟩ := ho.sl))
  go_loopw [18] (fun i wr => ArgRel L w (.slice a L.length c) i wr) (fun i _ => L.length - (intOf i).toNat)
  case atStart => exact ⟨0, rfl, Nat.zero_le _, ho, hB2⟩
  case round =>
   clear ho hB2 hb2
   obtain ⟨k, rfl, hk, ho, hB⟩ := hrel
   by_cases hlt : k < L.length
   ·obtain ⟨g, cap, hv, hg1, hg2⟩ := ho.form (by intro e; subst e; simp at hlt)
    simp only [Value.slice.injEq] at hv
    obtain ⟨rfl, -, rfl⟩ := hv
    obtain ⟨a', c', q1, hI, hf1⟩ := ho.cell rfl k hlt
    have cc := Clone_any a' c' L[k] wr hI (hall _ (List.getElem_mem hlt))
    have hset : L.set k L[k] = L := List.set_getElem_self hlt
    have hkey : ∀ w2 v', OwnI w2 wr.heap.size v' L[k] → Below wr.heap.size wr w2 → w2.cell? ⟨g, k, none⟩ = some (.slice a' L[k].length c') ∧ w2.frozen? ⟨g, k, none⟩ = false ∧ RowKit.Hid (OwnTs (fun _ => True) (w2.setCell ⟨g, k, none⟩ v') w.heap.size (.slice (some ⟨g, 0, none⟩) L.length c) L) ∧ RowKit.Hid (Below w.heap.size w (w2.setCell ⟨g, k, none⟩ v')) := by
     intro w2 v' ho' hb'
     have ho2 := ho.call hb'
     obtain ⟨a3, c3, rfl, hI3⟩ := ho'.ints
     have hst := OwnTs.set ho2 rfl k (hI3.weak (S' := Off (fun _ => True) (.slice (some ⟨g, 0, none⟩) L.length c)) (fun b hb => ⟨trivial, fun e => by simp [Value.ownBlock] at e; omega⟩))
     rw [hset] at hst
     obtain ⟨-, -, -, -, hf2⟩ := OwnTs.cell ho2 rfl k hlt
     exact ⟨(hb'.cell (p := ⟨g, k, none⟩) hg2).trans q1, hf2, Lib.hid hst.1, Lib.hid ((hB.trans (hb'.mono hB.size)).grown hst.2 (by have := hB.size; have := hb'.size; omega) (fun j e => by simp at e; omega))⟩
    have ccH := Lib.hid cc
    have hkH := Lib.hid hkey
    clear cc hkey ho hI hset hB
    go_wp2_with (go_at_call 145; refine ccH.out.mono ?_; rintro e w3 ⟨v', rfl, ho', hb'⟩; obtain ⟨a3, c3, rfl, -⟩ := ho'.ints; obtain ⟨q2, hf2, hoH, hBH⟩ := hkH.out w3 _ ho' hb')
    go_roundw
    case rel => exact ⟨k + 1, by go_num, by omega, hoH.out, hBH.out⟩
    case measure => simp [intOf]; omega
   ·have hoH := Lib.hid ho
    clear ho
    go_wp2_with fail
    go_ret2
    exact ⟨_, rfl, hoH.out, hB⟩

end Go.Proofs.YtpmnnoopoblpgaaGreat

/- Walks: slices.Grow, slices.Concat, of terms. -/
namespace Go.Proofs.YtpmnnoopoblpgaaGreat
open Go Go.RowKit Go.Maps

end Go.Proofs.YtpmnnoopoblpgaaGreat

/- Walks of package unify: match, Instance. -/
namespace Go.Proofs.YtpmnnoopoblpgaaGreat
open Go Go.RowKit Go.Maps

open Classical in
noncomputable def instB (s : Sg) (a b : List Int) : Bool := if ∃ η, Wsub s η ∧ ap η a = b then true else false
theorem instB_yes {s : Sg} {a b : List Int} {η : Int → List Int} (h : Wsub s η) (he : ap η a = b) : instB s a b = true := by
 unfold instB; exact if_pos ⟨η, h, he⟩
theorem instB_no {s : Sg} {a b : List Int} (h : ∀ η, Wsub s η → ap η a ≠ b) : instB s a b = false := by
 unfold instB; exact if_neg fun ⟨η, h1, h2⟩ => h η h1 h2
theorem instB_iff {s : Sg} {a b : List Int} : instB s a b = true ↔ ∃ η, Wsub s η ∧ ap η a = b := by unfold instB; split <;> simp_all

structure MRel (s : Sg) (a b : List Int) (k i : Nat) (B : Bd) : Prop where
 ka : k ≤ a.length
 ib : i ≤ b.length
 op : ∃ c, skw s c (a.drop k) = some [] ∧ skw s c (b.drop i) = some []
 wf : ∀ n u, B n = some u → W1 s u
 fwd : ∀ η, (∀ n u, B n = some u → η n = u) → ap η (a.take k) = b.take i
 bwd : ∀ η, Wsub s η → ap η a = b → ∀ n u, B n = some u → η n = u
section
variable {s : Sg} {a b : List Int} {k i : Nat} {B : Bd}
theorem MRel.start (ha : W1 s a) (hb : W1 s b) : MRel s a b 0 0 (fun _ => none) :=
 ⟨Nat.zero_le _, Nat.zero_le _, ⟨1, by simpa using ha, by simpa using hb⟩, fun _ _ h => (by cases h), fun _ _ => rfl, fun _ _ _ _ _ h => (by cases h)⟩
theorem MRel.rest (h : MRel s a b k i B) {η : Int → List Int} (hw : Wsub s η) (he : ap η a = b) : ap η (a.drop k) = b.drop i := by
 have h1 := h.fwd η (h.bwd η hw he)
 have h2 : ap η (a.take k) ++ ap η (a.drop k) = b.take i ++ b.drop i := by rw [← ap_append, List.take_append_drop, List.take_append_drop, he]
 rw [h1] at h2
 exact List.append_cancel_left h2
theorem MRel.part (h : MRel s a b k i B) (hk : k < a.length) : i < b.length ∧ ∃ r, skw s 1 (b.drop i) = some r ∧ cw s a[k] = true := by
 obtain ⟨c, h1, h2⟩ := h.op
 cases c with
 | zero => rw [skw_zero] at h1; have := congrArg List.length (Option.some.inj h1); simp at this; omega
 | succ c =>
  obtain ⟨m, hm, -⟩ := skw_one h2
  exact ⟨(skw_drop h2).1, m, hm, (skw_drop h1).2.1⟩
theorem MRel.sym (h : MRel s a b k i B) (hk : k < a.length) (hi : i < b.length) (hp : ¬ a[k] < 0) (he : b[i] = a[k]) : MRel s a b (k + 1) (i + 1) B := by
 obtain ⟨c, h1, h2⟩ := h.op
 have ta : a.take (k + 1) = a.take k ++ [a[k]] := List.take_succ_eq_append_getElem hk
 have tb : b.take (i + 1) = b.take i ++ [b[i]] := List.take_succ_eq_append_getElem hi
 refine ⟨hk, hi, ?_, h.wf, fun η hη => ?_, h.bwd⟩
 ·cases c with
  | zero => rw [skw_zero] at h1; have := congrArg List.length (Option.some.inj h1); simp at this; omega
  | succ c =>
   obtain ⟨_, _, g1⟩ := skw_drop h1
   obtain ⟨_, _, g2⟩ := skw_drop h2
   rw [he] at g2
   exact ⟨_, g1, g2⟩
 ·rw [ta, tb, ap_append, h.fwd η hη, ap_pos hp, ap_nil, he]
theorem MRel.sym_no (h : MRel s a b k i B) (hk : k < a.length) (hi : i < b.length) (hp : ¬ a[k] < 0) (he : b[i] ≠ a[k]) : instB s a b = false := by
 refine instB_no fun η hw hq => ?_
 have := h.rest hw hq
 rw [List.drop_eq_getElem_cons hk, List.drop_eq_getElem_cons hi, ap_pos hp] at this
 exact he (List.cons.inj this).1.symm
theorem MRel.tail (h : MRel s a b k i B) (hk : k < a.length) (hn : a[k] < 0) {r : List Int} (hr : skw s 1 (b.drop i) = some r) {η : Int → List Int} (hw : Wsub s η) (hq : ap η a = b) : η a[k] = partW s (b.drop i) := by
 have h1 := h.rest hw hq
 rw [List.drop_eq_getElem_cons hk, ap_neg hn] at h1
 obtain ⟨p1, p2, -⟩ := partW_eq hr
 rw [p1] at h1
 exact (W1.uniq (hw _ hn) p2 h1).1
theorem part_ends {r : List Int} (hi : i < b.length) (hr : skw s 1 (b.drop i) = some r) : partW s (b.drop i) = (b.drop i).take (b.length - r.length - i) ∧ i ≤ b.length - r.length ∧ r = b.drop (b.length - r.length) ∧ b.take (b.length - r.length) = b.take i ++ partW s (b.drop i) ∧ W1 s (partW s (b.drop i)) ∧ (partW s (b.drop i)).length = b.length - r.length - i ∧ i < b.length - r.length := by
 obtain ⟨p1, p2, p3⟩ := partW_eq hr
 have hl := partW_len hr
 have hl2 := skw_len s 1 _ _ hr
 rw [List.length_drop] at hl hl2
 have e1 : partW s (b.drop i) = (b.drop i).take (b.length - r.length - i) := by
  unfold partW; rw [hr, Option.getD_some, List.length_drop]; congr 1; omega
 have hi2 : i ≤ b.length - r.length := by omega
 refine ⟨e1, hi2, ?_, ?_, p2, by omega, by omega⟩
 ·have : (b.drop i).drop (b.length - r.length - i) = r := by
   rw [congrArg (List.drop (b.length - r.length - i)) p1, List.drop_append_of_le_length (by omega), List.drop_of_length_le (by omega), List.nil_append]
  rw [List.drop_drop, show i + (b.length - r.length - i) = b.length - r.length by omega] at this
  exact this.symm
 ·rw [e1, ← List.take_add]; congr 1; omega
theorem MRel.var (h : MRel s a b k i B) (hk : k < a.length) (hn : a[k] < 0) {r : List Int} (hr : skw s 1 (b.drop i) = some r) (hB : B a[k] = none ∨ B a[k] = some (partW s (b.drop i))) :
  MRel s a b (k + 1) (b.length - r.length) (upB B a[k] (partW s (b.drop i))) := by
 have hi := (h.part hk).1
 obtain ⟨-, e2, e3, e4, e5, -⟩ := part_ends hi hr
 have ta : a.take (k + 1) = a.take k ++ [a[k]] := List.take_succ_eq_append_getElem hk
 have hsub : ∀ η : Int → List Int, (∀ n u, upB B a[k] (partW s (b.drop i)) n = some u → η n = u) → (∀ n u, B n = some u → η n = u) ∧ η a[k] = partW s (b.drop i) := fun η hη => by
  have hv := hη a[k] _ (by unfold upB; rw [if_pos rfl])
  refine ⟨fun n u hu => ?_, hv⟩
  by_cases e : n = a[k]
  ·subst e
   rcases hB with g | g
   ·rw [g] at hu; cases hu
   ·rw [g] at hu; rw [← Option.some.inj hu]; exact hv
  ·exact hη n u (by unfold upB; rw [if_neg e]; exact hu)
 refine ⟨hk, by omega, ?_, fun n u hu => ?_, fun η hη => ?_, fun η hw hq n u hu => ?_⟩
 ·obtain ⟨c, h1, h2⟩ := h.op
  cases c with
  | zero => rw [skw_zero] at h1; have := congrArg List.length (Option.some.inj h1); simp at this; omega
  | succ c =>
   obtain ⟨_, _, g1⟩ := skw_drop h1
   rw [arW_neg hn, Nat.add_zero] at g1
   obtain ⟨m, m1, m2⟩ := skw_one h2
   rw [hr] at m1
   cases m1
   rw [← e3]
   exact ⟨c, g1, m2⟩
 ·unfold upB at hu
  split at hu
  ·cases hu; exact e5
  ·exact h.wf n u hu
 ·obtain ⟨g1, g2⟩ := hsub η hη
  rw [ta, ap_append, h.fwd η g1, ap_one hn, g2, e4]
 ·unfold upB at hu
  split at hu
  ·rename_i e; cases hu; rw [e]; exact h.tail hk hn hr hw hq
  ·exact h.bwd η hw hq n u hu
theorem MRel.var_no (h : MRel s a b k i B) (hk : k < a.length) (hn : a[k] < 0) {r u : List Int} (hr : skw s 1 (b.drop i) = some r) (hB : B a[k] = some u) (hne : u ≠ partW s (b.drop i)) : instB s a b = false := by
 refine instB_no fun η hw hq => hne ?_
 rw [← h.bwd η hw hq _ _ hB]
 exact h.tail hk hn hr hw hq
theorem MRel.done (h : MRel s a b a.length i B) : instB s a b = true := by
 have hi : i = b.length := by
  obtain ⟨c, h1, h2⟩ := h.op
  rw [List.drop_length] at h1
  cases c with
  | zero => rw [skw_zero] at h2; have := congrArg List.length (Option.some.inj h2); simp at this; have := h.ib; omega
  | succ c => rw [skw_nil] at h1; cases h1
 have hf := h.fwd (fun n => (B n).getD [n]) (fun n u hu => by simp only [hu, Option.getD_some])
 rw [List.take_length, hi, List.take_length] at hf
 refine instB_yes (fun n hn => ?_) hf
 cases hB : B n with
 | none => exact W1.var hn
 | some u => exact h.wf n u hB
end

theorem zTerm (w : World) : (zeroValue 26).run Tryz.prog w = .ok (.slice none 0 0) w := by kernel_rfl
noncomputable abbrev KI := intK (P := Tryz.prog) (tk := 3) Tryz.underlying3
def BdMap (w0 w : World) (mb : Nat) (n : Nat) (B : Bd) : Prop :=
 ∃ f, VMap KI w mb n f ∧ (∀ x, B x = none → f x = none) ∧ ∀ x u, B x = some u → ∃ a c, f x = some (.slice a u.length c) ∧ Ints (fun b => b < w0.heap.size) w0 a c u
theorem BdMap.made (w0 w : World) : BdMap w0 (w.alloc (.map #[] 0)) w.heap.size 0 (fun _ => none) :=
 ⟨_, VMap.made KI w, fun _ _ => rfl, fun _ _ h => by cases h⟩
theorem BdMap.below {w0 w w' : World} {mb n K : Nat} {B : Bd} (h : BdMap w0 w mb n B) (hb : Below K w w') (hm : mb < K) : BdMap w0 w' mb n B := by
 obtain ⟨f, h1, h2, h3⟩ := h
 exact ⟨f, h1.below hb hm, h2, h3⟩
theorem BdMap.lt {w0 w : World} {mb n : Nat} {B : Bd} (h : BdMap w0 w mb n B) : mb < w.heap.size := by obtain ⟨f, h1, -⟩ := h; exact h1.lt
theorem BdMap.store {w0 w : World} {mb n : Nat} {B : Bd} (h : BdMap w0 w mb n B) (hn : n < maxLen) (x : Int) (hx : inRange x) {a : Option Addr} {c : Nat} {u : List Int} (hu : Ints (fun b => b < w0.heap.size) w0 a c u) :
  ∃ w' n', RowKit.Hid ((Instr.mapUpdate 157 (.map (some mb)) (.int .i64 x) (.slice a u.length c)).run Tryz.prog w = .ok () w') ∧ RowKit.Hid (n' ≤ n + 1) ∧ RowKit.Hid (BdMap w0 w' mb n' (upB B x u)) ∧ RowKit.Hid (w.grownBy w' (some mb)) ∧ RowKit.Hid ((B x).isSome = true → n' = n) := by
 obtain ⟨f, h1, h2, h3⟩ := h
 obtain ⟨w', r, hv, hg⟩ := h1.store (tm := 157) (te := 26) Tryz.underlying157 hn x hx (.slice a u.length c)
 refine ⟨w', _, Lib.hid r, Lib.hid ?_, Lib.hid ⟨_, hv, fun y hy => ?_, fun y v hy => ?_⟩, Lib.hid hg, Lib.hid fun hs => ?_⟩
 ·split <;> omega
 ·unfold upB at hy
  split at hy
  ·cases hy
  ·rename_i e; simp only [if_neg e]; exact h2 y hy
 ·unfold upB at hy
  split at hy
  ·rename_i e; cases hy; simp only [if_pos e]; exact ⟨a, c, rfl, hu⟩
  ·rename_i e; simp only [if_neg e]; exact h3 y v hy
 ·rw [if_pos]
  cases hB : B x with
  | none => rw [hB] at hs; cases hs
  | some v => obtain ⟨a', c', q, -⟩ := h3 x v hB; rw [q]; rfl
theorem BdMap.look_none {w0 w : World} {mb n : Nat} {B : Bd} (h : BdMap w0 w mb n B) (x : Int) (hx : inRange x) (hB : B x = none) :
  (Instr.lookup 157 (.map (some mb)) (.int .i64 x) true).run Tryz.prog w = .ok (.tuple #[.slice none 0 0, .bool false]) w := by
 obtain ⟨f, h1, h2, h3⟩ := h
 have := h1.look_ok (tm := 157) (te := 26) Tryz.underlying157 (zTerm w) x hx
 rw [h2 x hB] at this; exact this
theorem BdMap.look_some {w0 w : World} {mb n : Nat} {B : Bd} (h : BdMap w0 w mb n B) (x : Int) (hx : inRange x) {u : List Int} (hB : B x = some u) :
  ∃ a c, (Instr.lookup 157 (.map (some mb)) (.int .i64 x) true).run Tryz.prog w = .ok (.tuple #[.slice a u.length c, .bool true]) w ∧ Ints (fun b => b < w0.heap.size) w0 a c u := by
 obtain ⟨f, h1, h2, h3⟩ := h
 obtain ⟨a, c, q, hI⟩ := h3 x u hB
 have := h1.look_ok (tm := 157) (te := 26) Tryz.underlying157 (zTerm w) x hx
 rw [q] at this; exact ⟨a, c, this, hI⟩
end Go.Proofs.YtpmnnoopoblpgaaGreat

/- Walks: Built, of both. -/
namespace Go.Proofs.YtpmnnoopoblpgaaGreat
open Go Go.RowKit Go.Maps

theorem Drew.trans {a b c : World} (h : Drew a b) (h2 : Drew b c) : Drew a c := by obtain ⟨n, rfl⟩ := h2; exact drew_more h n
def idxTPost (s : Sg) (L : List (List Int)) (w : World) (e : Ending) (w' : World) : Prop := ∃ n : Int, e = .returned (.int .i64 n) ∧ -1 ≤ n ∧ decide (0 ≤ n) = !(L.all (okT s)) ∧ Below w.heap.size w w'
end Go.Proofs.YtpmnnoopoblpgaaGreat

/- What unification makes of terms of valid logics, in plain words: renamed apart, unified, the canonical form; a hole in a term. No program is named. -/
namespace Go.Proofs.YtpmnnoopoblpgaaGreat

def apN (n : Int) : Int := if n < 0 then n - 12 else n
def apartT (t : List Int) : List Int := t.map apN
theorem ap_apart {η : Int → List Int} {t : List Int} : ap η (apartT t) = ap (fun n => η (n - 12)) t := by
 induction t with
 | nil => rfl
 | cons n r ih =>
  show ap η (apN n :: apartT r) = _
  by_cases h : n < 0
  ·rw [ap_neg h, apN, if_pos h, ap_neg (by omega), ih]
  ·rw [ap_pos h, apN, if_neg h, ap_pos h, ih]
theorem apartT_eq (t : List Int) : apartT t = ap (fun n => [n - 12]) t := by
 induction t with
 | nil => rfl
 | cons n r ih =>
  show apN n :: apartT r = _
  by_cases h : n < 0
  ·rw [ap_neg h, apN, if_pos h, ih]; rfl
  ·rw [ap_pos h, apN, if_neg h, ih]
theorem apartT_w {s : Sg} {t : List Int} (h : W1 s t) : W1 s (apartT t) := by
 rw [apartT_eq]; exact h.ap (fun n hn => W1.var (by omega))
theorem apartT_len (t : List Int) : (apartT t).length = t.length := by unfold apartT; rw [List.length_map]
theorem okT_rg {s : Sg} {t : List Int} (h : okT s t = true) : ∀ n ∈ t, n < 0 → -12 ≤ n := fun n hn _ => (codeOk_bd (okT_parts h).1 (skip_codes s 1 t (okT_parts h).2.2.2 n hn)).1
theorem okT_Rg {s : Sg} {t : List Int} (h : okT s t = true) : Rg t := fun n hn h0 => by have := okT_rg h n hn h0; omega
theorem apartT_rg {s : Sg} {t : List Int} (h : okT s t = true) : Rg (apartT t) := fun n hn h0 => by
 unfold apartT at hn
 obtain ⟨m, hm, rfl⟩ := List.mem_map.1 hn
 unfold apN at h0 ⊢
 split
 ·have := okT_rg h m hm ‹_›; omega
 ·rename_i hh; rw [if_neg hh] at h0; omega
end Go.Proofs.YtpmnnoopoblpgaaGreat

/- Walks: Built. -/
namespace Go.Proofs.YtpmnnoopoblpgaaGreat
open Go Go.RowKit Go.Maps

theorem OwnTs.lit1 {w : World} {a : Option Addr} {c : Nat} {u : List Int} {T : Nat → Prop} (h : Ints T w a c u) :
  OwnTs (fun _ => True) (w.alloc (.cells #[.slice a u.length c] 26)) w.heap.size (.slice (some ⟨w.heap.size, 0, none⟩) 1 1) [u] := by
 have hr := World.ownsRow_lit (base := w.heap.size) (e := 26) (size := 1) w #[.slice a u.length c] 1 (Nat.le_refl _) (by unfold maxLen; omega) (by simp)
 refine ⟨[[.slice a u.length c]], hr, rfl, fun i h1 h2 => ?_⟩
 match i, h1 with
 | 0, _ => exact ⟨a, c, rfl, (h.lt.weak (S' := Off (fun _ => True) (.slice (some ⟨w.heap.size, 0, none⟩) 1 1)) (fun b hb => ⟨trivial, fun e => by simp [Value.ownBlock] at e; omega⟩)).below (below1 _ _)⟩

end Go.Proofs.YtpmnnoopoblpgaaGreat

/- Walks of package unify: a solver in the world; look. -/
namespace Go.Proofs.YtpmnnoopoblpgaaGreat
open Go Go.RowKit Go.Maps

def LkdN (B : Bd) (p : List Int) : Nat → List Int → Prop
 | 0, t => t = p ∧ ∀ n r, t = n :: r → n < 0 → B n = none
 | k + 1, t => ∃ n r u, t = n :: r ∧ n < 0 ∧ B n = some u ∧ LkdN B p k u
theorem Lkd.num {B : Bd} {t p : List Int} (h : Lkd B t p) : ∃ k, LkdN B p k t := by
 induction h with
 | stop h => exact ⟨0, rfl, h⟩
 | go hn hB _ ih => obtain ⟨k, hk⟩ := ih; exact ⟨k + 1, _, _, _, rfl, hn, hB, hk⟩

structure SolvW (w0 w : World) (xb mb n : Nat) (a1 : Option Addr) (c1 : Nat) (s : Sg) (B : Bd) : Prop where
 k0 : w.cell? ⟨xb, 0, none⟩ = some (.slice a1 s.length c1)
 k1 : w.cell? ⟨xb, 1, none⟩ = some (.map (some mb))
 map : BdMap w0 w mb n B
 bx : w0.heap.size ≤ xb
 bm : w0.heap.size ≤ mb
 ne : xb ≠ mb
 sg : Sign (fun b => b < w0.heap.size) w0 a1 c1 s
 bel : Below w0.heap.size w0 w
 wf : ∀ n u, B n = some u → W1 s u
theorem SolvW.lt {w0 w : World} {xb mb n : Nat} {a1 : Option Addr} {c1 : Nat} {s : Sg} {B : Bd} (h : SolvW w0 w xb mb n a1 c1 s B) : xb < w.heap.size := World.block_lt_of_cell? _ _ h.k0
theorem SolvW.below {w0 w w' : World} {xb mb n : Nat} {a1 : Option Addr} {c1 : Nat} {s : Sg} {B : Bd} (h : SolvW w0 w xb mb n a1 c1 s B) (hb : Below w.heap.size w w') : SolvW w0 w' xb mb n a1 c1 s B :=
 ⟨cell_later hb h.k0, cell_later hb h.k1, h.map.below hb h.map.lt, h.bx, h.bm, h.ne, h.sg, bcall h.bel hb, h.wf⟩

abbrev T0 (w0 : World) (a : Option Addr) (c : Nat) (t : List Int) : Prop := Ints (fun b => b < w0.heap.size) w0 a c t
def LkF (w0 : World) (f : Int → Option Value) (B : Bd) (p : List Int) (a' : Option Addr) (c' : Nat) : Nat → Option Addr → Nat → List Int → Prop
 | 0, a, c, t => (t = p ∧ a = a' ∧ c = c') ∧ ∀ n r, t = n :: r → n < 0 → B n = none
 | k + 1, _, _, t => ∃ n r u a3 c3, t = n :: r ∧ n < 0 ∧ B n = some u ∧ f n = some (.slice a3 u.length c3) ∧ T0 w0 a3 c3 u ∧ LkF w0 f B p a' c' k a3 c3 u
theorem LkF.ex {w0 : World} {f : Int → Option Value} {B : Bd} {p : List Int} (h3 : ∀ x u, B x = some u → ∃ a c, f x = some (.slice a u.length c) ∧ T0 w0 a c u) :
  ∀ (k : Nat) (t : List Int) (a : Option Addr) (c : Nat), T0 w0 a c t → LkdN B p k t → ∃ a' c', LkF w0 f B p a' c' k a c t ∧ T0 w0 a' c' p
 | 0, t, a, c, hT, ⟨h1, h2⟩ => ⟨a, c, ⟨⟨h1, rfl, rfl⟩, h2⟩, h1 ▸ hT⟩
 | k + 1, t, a, c, hT, ⟨n, r, u, h1, h2, hB, h4⟩ => by
  obtain ⟨a3, c3, g1, g2⟩ := h3 n u hB
  obtain ⟨a', c', g3, g4⟩ := LkF.ex h3 k u a3 c3 g2 h4
  exact ⟨a', c', ⟨n, r, u, a3, c3, h1, h2, hB, g1, g2, g3⟩, g4⟩
def lookRel (w0 w : World) (s : Sg) (f : Int → Option Value) (B : Bd) (p : List Int) (a' : Option Addr) (c' : Nat) (k : Nat) (tv : Value) (wr : World) : Prop :=
 ∃ t a c, tv = .slice a (List.length t) c ∧ T0 w0 a c t ∧ W1 s t ∧ LkF w0 f B p a' c' k a c t ∧ Drew w wr
set_option maxRecDepth 20000 in
set_option maxHeartbeats 4000000 in
theorem look_any {w0 w : World} {xb mb n : Nat} {a1 : Option Addr} {c1 : Nat} {s : Sg} {B : Bd} (hS0 : SolvW w0 w xb mb n a1 c1 s B) {a : Option Addr} {c : Nat} {t p : List Int} (ht : T0 w0 a c t) (hw : W1 s t) (hl : Lkd B t p) :
  ∃ a' c', T0 w0 a' c' p ∧ ∀ m, Calls Tryz.prog 242 #[.pointer (some ⟨xb, 0, none⟩), .slice a t.length c] (w.drewN m) fun e w' => e = .returned (.slice a' p.length c') ∧ Drew (w.drewN m) w' := by
 obtain ⟨k0, hk0⟩ := hl.num
 obtain ⟨f, f1, f2, f3⟩ := hS0.map
 obtain ⟨a', c', hk1, hTp⟩ := LkF.ex f3 k0 t a c ht hk0
 refine ⟨a', c', hTp, fun m => ?_⟩
 have hS := hS0.below ((Drew.mk w m).below w.heap.size)
 have f1 := f1.below ((Drew.mk w m).below w.heap.size) hS0.map.lt
 generalize w.drewN m = w at *
 have hSH := Lib.hid hS
 have htH := Lib.hid ht
 have hwH := Lib.hid hw
 have hkH := Lib.hid hk1
 have m2 := ht.le
 have f1H := Lib.hid f1
 have f2H := Lib.hid f2
 have hlt := f1.lt
 clear hS ht hw hl hk0 hk1 hTp f1 f2 f3 hS0
 go_enter Tryz.func242, Tryz.ntmps242
 go_wp2_with fail
 go_loopg [1] k0 (fun k tv wr => lookRel w0 w s f B p a' c' k tv wr)
 case atStart => exact ⟨t, a, c, rfl, htH.out, hwH.out, hkH.out, .refl _⟩
 case round =>
  obtain ⟨t', a4, c4, rfl, ht', hw', hk, hd⟩ := hrel
  have hB := bcall hSH.out.bel (hd.below _)
  have hlen := hw'.len
  obtain ⟨b, o, rfl, -, q, hr⟩ := (ht'.below hB).int 0 (by omega)
  rw [Nat.add_zero] at q
  have q2 := (hSH.out.below (hd.below _)).k1
  have hlk := fun m => (f1H.out.below (w' := wr.drewN m) ((drew_more hd m).below w.heap.size) hlt).look_ok (tm := 157) (te := 26) Tryz.underlying157 (zTerm _)
  cases gk with
  | zero =>
   obtain ⟨⟨rfl, rfl, rfl⟩, hstop⟩ := hk
   obtain ⟨x, hx⟩ : ∃ x, t'[0] = x := ⟨_, rfl⟩
   have hxs : x < 0 → B x = none := fun h0 => hstop x t'.tail (by rw [← hx]; cases t' with | nil => simp at hlen | cons _ _ => rfl) h0
   rw [hx] at q hr
   by_cases h0 : x < 0
   ·have hl : ∀ m, (Instr.lookup 157 (.map (some mb)) (.int .i64 x) true).run Tryz.prog (wr.drewN m) = .ok (.tuple #[.slice none 0 0, .bool false]) (wr.drewN m) := fun m => by
     have := hlk m x hr
     rw [f2H.out x (hxs h0)] at this; exact this
    have hdH := Lib.hid hd
    clear hstop hxs hw' hx hB ht' hd hlk
    go_wp2_with fail
    go_quiet (fail)
    clear hl
    all_goals go_wp2_with fail
    all_goals go_ret
    exact ⟨rfl, drew_more hdH.out _⟩
   ·have hdH := Lib.hid hd
    clear hstop hxs hw' hx hB ht' hd hlk
    go_wp2_with fail
    go_ret
    exact ⟨rfl, hdH.out⟩
  | succ k =>
   obtain ⟨x, r, u, a3, c3, he, h0, hBx, hfx, hI3, hk⟩ := hk
   subst he
   have hu := hSH.out.wf _ _ hBx
   simp only [List.getElem_cons_zero] at q hr
   have hl : ∀ m, (Instr.lookup 157 (.map (some mb)) (.int .i64 x) true).run Tryz.prog (wr.drewN m) = .ok (.tuple #[.slice a3 u.length c3, .bool true]) (wr.drewN m) := fun m => by
    have := hlk m x hr
    rw [hfx] at this; exact this
   have hdH := Lib.hid hd
   have hkH2 := Lib.hid hk
   have huH := Lib.hid hu
   have hI3H := Lib.hid hI3
   clear hw' hB ht' hd hk hu hI3 hBx hfx hlk
   go_wp2_with fail
   go_quiet (fail)
   clear hl
   all_goals go_wp2_with fail
   go_roundg k
   case measure => omega
   case rel => exact ⟨u, a3, c3, rfl, hI3H.out, huH.out, hkH2.out, drew_more hdH.out _⟩
end Go.Proofs.YtpmnnoopoblpgaaGreat

/- Walks of package unify: whether a variable comes. -/
namespace Go.Proofs.YtpmnnoopoblpgaaGreat
open Go Go.RowKit Go.Maps

def Mets (B : Bd) (v : Int) (M M' : Bd) : Prop := ∀ m, M m = none → (M' m).isSome = true → m ≠ v ∧ ∀ u, B m = some u → ∀ k ∈ u, k < 0 → (M' k).isSome = true
def Sub (M M' : Bd) : Prop := ∀ m, (M m).isSome = true → (M' m).isSome = true
theorem Sub.refl (M : Bd) : Sub M M := fun _ h => h
theorem Sub.trans {A B C : Bd} (h : Sub A B) (k : Sub B C) : Sub A C := fun m hm => k m (h m hm)
theorem Sub.up {M : Bd} {x : Int} {q : List Int} : Sub M (upB M x q) := fun m hm => by
 unfold upB; split
 ·rfl
 ·exact hm
theorem upB_same {M : Bd} {x : Int} {q : List Int} : (upB M x q) x = some q := by unfold upB; rw [if_pos rfl]
theorem upB_other {M : Bd} {x m : Int} {q : List Int} (h : m ≠ x) : (upB M x q) m = M m := by unfold upB; rw [if_neg h]
theorem isSome_none {α : Type} {o : Option α} (h : ¬ o.isSome = true) : o = none := by cases o <;> simp_all
theorem Mets.refl (B : Bd) (v : Int) (M : Bd) : Mets B v M M := fun m h1 h2 => by rw [h1] at h2; cases h2
theorem Mets.leaf {B M M1 : Bd} {v x : Int} (h : Mets B v M M1) (hx : x ≠ v) (hB : B x = none) : Mets B v M (upB M1 x []) := fun m h1 h2 => by
 by_cases e : m = x
 ·subst e; exact ⟨hx, fun u hu => by rw [hB] at hu; cases hu⟩
 ·rw [upB_other e] at h2
  obtain ⟨g1, g2⟩ := h m h1 h2
  exact ⟨g1, fun u hu k hk h0 => Sub.up _ (g2 u hu k hk h0)⟩
theorem Mets.node {B M M1 M2 : Bd} {v x : Int} {u : List Int} (h : Mets B v M M1) (hx : x ≠ v) (hB : B x = some u) (h2 : Mets B v (upB M1 x []) M2) (hs : Sub (upB M1 x []) M2) (hu : ∀ k ∈ u, k < 0 → (M2 k).isSome = true) : Mets B v M M2 := fun m g1 g2 => by
 by_cases e : m = x
 ·subst e; exact ⟨hx, fun u' hu' => by rw [hB] at hu'; cases hu'; exact hu⟩
 ·by_cases e1 : (M1 m).isSome = true
  ·obtain ⟨k1, k2⟩ := h m g1 e1
   exact ⟨k1, fun u' hu' k hk h0 => hs k (Sub.up k (k2 u' hu' k hk h0))⟩
  ·exact h2 m (by rw [upB_other e]; exact isSome_none e1) g2
theorem mets_not {s : Sg} {B : Bd} {θ : Int → List Int} {ρ : Int → Nat} (h : Slv s B θ ρ) {v : Int} {M : Bd} (hm : Mets B v (fun _ => none) M) : ∀ (K : Nat) (t : List Int), (∀ n ∈ t, n < 0 → (M n).isSome = true) → (∀ n ∈ t, n < 0 → ρ n < K) → v < 0 → v ∉ ap θ t
 | K, t, h1, h2, hv, hmem => by
  rcases mem_ap.1 hmem with ⟨-, e⟩ | ⟨n, hn, h0, hvn⟩
  ·exact e hv
  ·obtain ⟨g1, g2⟩ := hm n rfl (h1 n hn h0)
   cases hB : B n with
   | none => rw [h.free n h0 hB, List.mem_singleton] at hvn; exact g1 hvn.symm
   | some u =>
    rw [h.bnd n u hB] at hvn
    cases K with
    | zero => have := h2 n hn h0; omega
    | succ K =>
     exact mets_not h hm K u (g2 u hB) (fun m hm' h0' => by have := h.rk n u hB m hm' h0'; have := h2 n hn h0; omega) hv hvn

def MetW (w : World) (mm n : Nat) (M : Bd) : Prop := ∃ f, VMap KI w mm n f ∧ ∀ x, f x = (M x).map fun _ => .bool true
theorem MetW.made (w : World) : MetW (w.alloc (.map #[] 0)) w.heap.size 0 (fun _ => none) := ⟨_, VMap.made KI w, fun _ => rfl⟩
theorem MetW.lt {w : World} {mm n : Nat} {M : Bd} (h : MetW w mm n M) : mm < w.heap.size := by obtain ⟨f, h1, -⟩ := h; exact h1.lt
theorem MetW.below {w w' : World} {mm n K : Nat} {M : Bd} (h : MetW w mm n M) (hb : Below K w w') (hm : mm < K) : MetW w' mm n M := by
 obtain ⟨f, h1, h2⟩ := h; exact ⟨f, h1.below hb hm, h2⟩
theorem MetW.look {w : World} {mm n : Nat} {M : Bd} (h : MetW w mm n M) (x : Int) (hx : inRange x) :
  (Instr.lookup 239 (.map (some mm)) (.int .i64 x) false).run Tryz.prog w = .ok (.bool (M x).isSome) w := by
 obtain ⟨f, h1, h2⟩ := h
 have := h1.look (tm := 239) (te := 4) Tryz.underlying239 (zBool w) x hx
 rw [h2 x] at this
 cases hM : M x with
 | none => rw [hM] at this; exact this
 | some u => rw [hM] at this; exact this
theorem MetW.store {w : World} {mm n : Nat} {M : Bd} (h : MetW w mm n M) (hn : n < maxLen) (x : Int) (hx : inRange x) (hM : M x = none) :
  ∃ w', RowKit.Hid ((Instr.mapUpdate 239 (.map (some mm)) (.int .i64 x) (.bool true)).run Tryz.prog w = .ok () w') ∧ RowKit.Hid (MetW w' mm (n + 1) (upB M x [])) ∧ RowKit.Hid (w.grownBy w' (some mm)) := by
 obtain ⟨f, h1, h2⟩ := h
 obtain ⟨w', r, hv, hg⟩ := h1.store (tm := 239) (te := 4) Tryz.underlying239 hn x hx (.bool true)
 rw [if_neg (by rw [h2 x, hM]; simp)] at hv
 refine ⟨w', Lib.hid r, Lib.hid ⟨_, hv, fun y => ?_⟩, Lib.hid hg⟩
 unfold upB
 by_cases e : y = x
 ·rw [if_pos e, if_pos e]; rfl
 ·rw [if_neg e, if_neg e]; exact h2 y
theorem SolvW.grown {w0 w w' : World} {xb mb n k : Nat} {a1 : Option Addr} {c1 : Nat} {s : Sg} {B : Bd} (h : SolvW w0 w xb mb n a1 c1 s B) (hg : w.grownBy w' (some k)) (h1 : k ≠ xb) (h2 : k ≠ mb) (h3 : w0.heap.size ≤ k) : SolvW w0 w' xb mb n a1 c1 s B := by
 have hx : w'.heap[xb]? = w.heap[xb]? := hg.block xb h.lt (fun e => h1 (by injection e with e; exact e.symm))
 obtain ⟨f, m1, m2, m3⟩ := h.map
 exact ⟨(World.cell?_of_block (a := ⟨xb, 0, none⟩) hx).trans h.k0, (World.cell?_of_block (a := ⟨xb, 1, none⟩) hx).trans h.k1, ⟨f, m1.same (hg.block mb m1.lt (fun e => h2 (by injection e with e; exact e.symm))), m2, m3⟩, h.bx, h.bm, h.ne, h.sg,
  h.bel.grown hg h.bel.size (fun j e => by injection e with e; omega), h.wf⟩

structure CapW (w : World) (vb tb xx wb xb mm : Nat) (v : Int) : Prop where
 v : w.cell? ⟨vb, 0, none⟩ = some (.int .i64 v)
 t : w.cell? ⟨tb, 0, none⟩ = some (.map (some mm))
 x : w.cell? ⟨xx, 0, none⟩ = some (.pointer (some ⟨xb, 0, none⟩))
 f : w.cell? ⟨wb, 0, none⟩ = some (.func (.func 247) #[] #[.pointer (some ⟨vb, 0, none⟩), .pointer (some ⟨tb, 0, none⟩), .pointer (some ⟨xx, 0, none⟩), .pointer (some ⟨wb, 0, none⟩)])
 n1 : vb ≠ mm
 n2 : tb ≠ mm
 n3 : xx ≠ mm
 n4 : wb ≠ mm
theorem CapW.grown {w w' : World} {vb tb xx wb xb mm : Nat} {v : Int} (h : CapW w vb tb xx wb xb mm v) (hg : w.grownBy w' (some mm)) : CapW w' vb tb xx wb xb mm v := by
 have hk : ∀ b o u, b ≠ mm → w.cell? ⟨b, o, none⟩ = some u → w'.cell? ⟨b, o, none⟩ = some u := fun b o u hb hu =>
  (World.cell?_of_block (a := ⟨b, o, none⟩) (hg.block b (World.block_lt_of_cell? _ _ hu) (fun e => hb (by injection e)))).trans hu
 exact ⟨hk _ _ _ h.n1 h.v, hk _ _ _ h.n2 h.t, hk _ _ _ h.n3 h.x, hk _ _ _ h.n4 h.f, h.n1, h.n2, h.n3, h.n4⟩
end Go.Proofs.YtpmnnoopoblpgaaGreat

/- Walks of package unify: comes, walked. -/
namespace Go.Proofs.YtpmnnoopoblpgaaGreat
open Go Go.RowKit Go.Maps

def comesRet (B : Bd) (θ : Int → List Int) (v : Int) (t : List Int) (mm : Nat) (M : Bd) (w : World) (e : Ending) (w' : World) : Prop :=
 ∃ (M' : Bd) (n' : Nat) (r : Bool), e = .returned (.bool r) ∧ MetW w' mm n' M' ∧ n' + free M' ≤ 24 ∧ w.grownBy w' (some mm) ∧ Sub M M' ∧ (r = true → v ∈ ap θ t) ∧
  (r = false → (∀ n ∈ t, n < 0 → (M' n).isSome = true) ∧ Mets B v M M')
def comesRel (B : Bd) (v : Int) (t : List Int) (mm : Nat) (M : Bd) (w : World) (jv : Value) (wr : World) : Prop :=
 ∃ (j n : Nat) (M' : Bd), jv = .int .i64 j ∧ j ≤ t.length ∧ MetW wr mm n M' ∧ n + free M' ≤ 24 ∧ w.grownBy wr (some mm) ∧ Sub M M' ∧ (∀ n ∈ t.take j, n < 0 → (M' n).isSome = true) ∧ Mets B v M M'
theorem take_all {t : List Int} {j : Nat} {P : Int → Prop} (h : ∀ n ∈ t.take j, P n) (hj : j < t.length) (hp : P t[j]) : ∀ n ∈ t.take (j + 1), P n := by
 intro n hn
 rw [List.take_succ_eq_append_getElem hj, List.mem_append, List.mem_singleton] at hn
 rcases hn with e | e
 ·exact h n e
 ·rw [e]; exact hp

theorem grown_by' {w w1 w2 : World} {o : Option Nat} (h : w.grownBy w1 o) (b : w1.grownBy w2 o) : w.grownBy w2 o :=
 ⟨b.os.trans h.os, b.tape.trans h.tape, b.output.trans h.output, Nat.le_trans h.size b.size, fun x hx hne => (b.block x (Nat.lt_of_lt_of_le hx h.size) hne).trans (h.block x hx hne)⟩
set_option maxRecDepth 20000 in
set_option maxHeartbeats 8000000 in
theorem comes1_any {w0 : World} {xb mb nb : Nat} {a1 : Option Addr} {c1 : Nat} {s : Sg} {B : Bd} {θ : Int → List Int} {ρ : Int → Nat} (hSl : Slv s B θ ρ) (hRg : RgB B) {v : Int} (hv : v < 0) (hBv : B v = none) (vb tb xx wb mm : Nat) (hmx : mm ≠ xb) (hmb : mm ≠ mb) (hm0 : w0.heap.size ≤ mm) :
  ∀ (K : Nat) (t : List Int) (a : Option Addr) (c n : Nat) (M : Bd) (w : World), (∀ m ∈ t, m < 0 → ρ m < K) → Rg t → T0 w0 a c t → SolvW w0 w xb mb nb a1 c1 s B → CapW w vb tb xx wb xb mm v → MetW w mm n M → n + free M ≤ 24 →
   Calls Tryz.prog 247 #[.slice a t.length c, .pointer (some ⟨vb, 0, none⟩), .pointer (some ⟨tb, 0, none⟩), .pointer (some ⟨xx, 0, none⟩), .pointer (some ⟨wb, 0, none⟩)] w (comesRet B θ v t mm M w) := by
 intro K
 induction K using Nat.strongRecOn with
 | _ K ih =>
  intro t a c n M w hK hR hT hS hC hM hn
  have ihH := Lib.hid ih
  have hKH := Lib.hid hK
  have hRH := Lib.hid hR
  have hTH := Lib.hid hT
  have hSH := Lib.hid hS
  have hCH := Lib.hid hC
  have hMH := Lib.hid hM
  have hnH := Lib.hid hn
  have m2 := hT.le
  clear ih hK hR hT hS hC hM hn
  go_enter Tryz.func247, Tryz.ntmps247
  go_wp2_with fail
  go_loopw [13] (fun jv wr => comesRel B v t mm M w jv wr) (fun jv _ => t.length - (intOf jv).toNat)
  case atStart => exact ⟨0, n, M, rfl, Nat.zero_le _, hMH.out, hnH.out, ⟨rfl, rfl, rfl, Nat.le_refl _, fun _ _ _ => rfl⟩, .refl _, (fun _ h => by cases h), .refl _ _ _⟩
  case round =>
   obtain ⟨j, n1, M1, rfl, hj, hM1, hn1, hg, hs1, ht1, hMt⟩ := hrel
   have hS1 := hSH.out.grown hg hmx hmb hm0
   have hC1 := hCH.out.grown hg
   by_cases hlt : j < t.length
   ·obtain ⟨b, o, rfl, -, q, hr⟩ := (hTH.out.below hS1.bel).int j hlt
    obtain ⟨x, hx⟩ : ∃ x, t[j] = x := ⟨_, rfl⟩
    have hxm : x ∈ t := hx ▸ List.getElem_mem hlt
    have htk : x < 0 → ∀ M2 : Bd, Sub M1 M2 → (M2 x).isSome = true → ∀ n ∈ t.take (j + 1), n < 0 → (M2 n).isSome = true := fun _ M2 hsb hx2 => take_all (fun n hn h0 => hsb n (ht1 n hn h0)) hlt (by rw [hx]; exact fun _ => hx2)
    have htp : ¬ x < 0 → ∀ n ∈ t.take (j + 1), n < 0 → (M1 n).isSome = true := fun hx0 => take_all ht1 hlt (by rw [hx]; exact fun h => (hx0 h).elim)
    rw [hx] at q hr
    have qv := hC1.v
    have qt := hC1.t
    have qx := hC1.x
    have qf := hC1.f
    have hM1H := Lib.hid hM1
    have hgH := Lib.hid hg
    have hs1H := Lib.hid hs1
    have hMtH := Lib.hid hMt
    have htkH := Lib.hid htk
    have htpH := Lib.hid htp
    have hS1H := Lib.hid hS1
    have hC1H := Lib.hid hC1
    have hn1H := Lib.hid hn1
    clear hM1 hg hs1 hMt htk htp hS1 hC1 hx ht1
    by_cases hxv : x = v
    ·subst hxv
     have hin : x ∈ ap θ t := mem_ap.2 (.inr ⟨x, hxm, hv, by rw [hSl.free x hv hBv]; simp⟩)
     have hinH := Lib.hid hin
     have hxx : (x == x) = true := by simp
     clear hin hxm
     go_wp2_with fail
     go_ret
     exact ⟨M1, n1, true, rfl, hM1H.out, hn1H.out, hgH.out, hs1H.out, fun _ => hinH.out, fun h => by cases h⟩
    ·have hxvb : (x == v) = false := by simpa using hxv
     by_cases hx0 : x < 0
     ·have hlk := hM1H.out.look x hr
      by_cases hmet : (M1 x).isSome = true
      ·rw [hmet] at hlk
       have htk := Lib.hid (htkH.out hx0 M1 (.refl _) hmet)
       clear hxm hmet
       go_wp2_with fail
       go_roundw
       case rel => exact ⟨j + 1, n1, M1, by go_num, by omega, hM1H.out, hn1H.out, hgH.out, hs1H.out, htk.out, hMtH.out⟩
       case measure => simp [intOf]; omega
      ·have hnone := isSome_none hmet
       rw [hnone] at hlk
       have hx24 := hRH.out x hxm hx0
       have hfr := free_bind (q := []) hx0 hx24 hnone
       obtain ⟨w2, hst, hM2, hg2⟩ := hM1H.out.store (by have := hn1H.out; unfold maxLen; omega) x hr hnone
       have hst2 := hst.out
       have hgg := grown_by' hgH.out hg2.out
       have hS2 := hSH.out.grown hgg hmx hmb hm0
       have hC2 := hCH.out.grown hgg
       have p1 := hS2.k1
       have qx2 := hC2.x
       have qf2 := hC2.f
       have hn2 : n1 + 1 + free (upB M1 x []) ≤ 24 := by have := hn1H.out; omega
       have htk := htkH.out hx0 (upB M1 x []) Sub.up (by rw [upB_same]; rfl)
       have hin : ∀ u, B x = some u → v ∈ ap θ u → v ∈ ap θ t := fun u hu hvu => mem_ap.2 (.inr ⟨x, hxm, hx0, by rw [hSl.bnd x u hu]; exact hvu⟩)
       have hKx := hKH.out x hxm hx0
       cases hBx : B x with
       | none =>
        have hlk2 := hS2.map.look_none x hr hBx
        have hMts := Lib.hid (hMtH.out.leaf hxv hBx)
        have htkH2 := Lib.hid htk
        have hggH := Lib.hid hgg
        have hn2H := Lib.hid hn2
        clear hgg hS2 hC2 hn2 hin htk hnone hfr hxm hxv hBx hmet
        go_wp2_with fail
        go_roundw
        case rel => exact ⟨j + 1, n1 + 1, _, by go_num, by omega, hM2.out, hn2H.out, hggH.out, hs1H.out.trans Sub.up, htkH2.out, hMts.out⟩
        case measure => simp [intOf]; omega
       | some u =>
        obtain ⟨a3, c3, hlk2, hI3⟩ := hS2.map.look_some x hr hBx
        have cw := ihH.out (ρ x) hKx u a3 c3 (n1 + 1) (upB M1 x []) w2 (fun m hm h0 => hSl.rk x u hBx m hm h0) (hRg x u hBx).1 hI3 hS2 hC2 hM2.out hn2
        have hMts := Lib.hid fun M3 h1 h2 h3 => hMtH.out.node (M2 := M3) hxv hBx h1 h2 h3
        have hinH := Lib.hid (hin u hBx)
        have cwH := Lib.hid cw
        have htkH2 := Lib.hid htk
        have hggH := Lib.hid hgg
        have hn2H := Lib.hid hn2
        clear hgg hS2 hC2 hn2 hin htk hnone hfr hxm hxv hBx hmet cw hI3
        go_wp2_with fail
        (with_reducible refine cwH.out.mono ?_)
        rintro e w3 ⟨M3, n3, r3, rfl, hM3, hn3, hg3, hs3, ht3, hf3⟩
        have hM3H := Lib.hid hM3
        have hn3H := Lib.hid hn3
        have hg3H := Lib.hid (grown_by' hggH.out hg3)
        have hs3H := Lib.hid hs3
        cases r3 with
        | true =>
         have hrH := Lib.hid (hinH.out (ht3 rfl))
         clear hM3 hn3 hg3 hs3 ht3 hf3
         go_wp2_with fail
         go_ret
         exact ⟨M3, n3, true, rfl, hM3H.out, hn3H.out, hg3H.out, (hs1H.out.trans Sub.up).trans hs3H.out, fun _ => hrH.out, fun h => by cases h⟩
        | false =>
         have hrH := Lib.hid (hf3 rfl)
         clear hM3 hn3 hg3 hs3 ht3 hf3
         go_wp2_with fail
         go_roundw
         case rel => exact ⟨j + 1, n3, M3, by go_num, by omega, hM3H.out, hn3H.out, hg3H.out, (hs1H.out.trans Sub.up).trans hs3H.out, fun n hn h0 => hs3H.out n (htkH2.out n hn h0), hMts.out M3 hrH.out.2 hs3H.out hrH.out.1⟩
         case measure => simp [intOf]; omega
     ·have htk := Lib.hid (htpH.out hx0)
      clear hxm hxv
      go_wp2_with fail
      go_roundw
      case rel => exact ⟨j + 1, n1, M1, by go_num, by omega, hM1H.out, hn1H.out, hgH.out, hs1H.out, htk.out, hMtH.out⟩
      case measure => simp [intOf]; omega
   ·obtain rfl : j = t.length := by omega
    rw [List.take_length] at ht1
    have ht1H := Lib.hid ht1
    have hM1H := Lib.hid hM1
    have hgH := Lib.hid hg
    have hs1H := Lib.hid hs1
    have hMtH := Lib.hid hMt
    have hn1H := Lib.hid hn1
    clear hM1 hg hs1 hMt ht1 hS1 hC1
    go_wp2_with fail
    go_ret
    exact ⟨M1, n1, false, rfl, hM1H.out, hn1H.out, hgH.out, hs1H.out, (fun h => by cases h), fun _ => ⟨ht1H.out, hMtH.out⟩⟩
theorem cap_made (w W : World) (xb : Nat) (v : Int) (t1 t2 t3 t4 : TypeId)
  (hW : ((((w.alloc (.cells #[.pointer (some ⟨xb, 0, none⟩)] t1)).alloc (.cells #[.int .i64 v] t2)).alloc (.map #[] 0)).alloc (.cells #[.map (some (w.heap.size + 1 + 1))] t3)).alloc
   (.cells #[.func (.func 247) #[] #[.pointer (some ⟨w.heap.size + 1, 0, none⟩), .pointer (some ⟨w.heap.size + 1 + 1 + 1, 0, none⟩), .pointer (some ⟨w.heap.size, 0, none⟩), .pointer (some ⟨w.heap.size + 1 + 1 + 1 + 1, 0, none⟩)]] t4) = W) :
  CapW W (w.heap.size + 1) (w.heap.size + 1 + 1 + 1) w.heap.size (w.heap.size + 1 + 1 + 1 + 1) xb (w.heap.size + 1 + 1) v ∧ MetW W (w.heap.size + 1 + 1) 0 (fun _ => none) ∧ Below w.heap.size w W := by
 have e1 : W.cell? ⟨w.heap.size + 1, 0, none⟩ = some (.int .i64 v) := by rw [← hW]; clear hW; go_simp
 have e2 : W.cell? ⟨w.heap.size + 1 + 1 + 1, 0, none⟩ = some (.map (some (w.heap.size + 1 + 1))) := by rw [← hW]; clear hW; go_simp
 have e3 : W.cell? ⟨w.heap.size, 0, none⟩ = some (.pointer (some ⟨xb, 0, none⟩)) := by rw [← hW]; clear hW; go_simp
 have e4 : W.cell? ⟨w.heap.size + 1 + 1 + 1 + 1, 0, none⟩ = some (.func (.func 247) #[] #[.pointer (some ⟨w.heap.size + 1, 0, none⟩), .pointer (some ⟨w.heap.size + 1 + 1 + 1, 0, none⟩), .pointer (some ⟨w.heap.size, 0, none⟩), .pointer (some ⟨w.heap.size + 1 + 1 + 1 + 1, 0, none⟩)]) := by rw [← hW]; clear hW; go_simp
 refine ⟨⟨e1, e2, e3, e4, by omega, by omega, by omega, by omega⟩, ?_, ?_⟩
 ·have h := MetW.made ((w.alloc (.cells #[.pointer (some ⟨xb, 0, none⟩)] t1)).alloc (.cells #[.int .i64 v] t2))
  have h2 := h.below (below2 _ (.cells #[.map (some (w.heap.size + 1 + 1))] t3) (.cells #[.func (.func 247) #[] #[.pointer (some ⟨w.heap.size + 1, 0, none⟩), .pointer (some ⟨w.heap.size + 1 + 1 + 1, 0, none⟩), .pointer (some ⟨w.heap.size, 0, none⟩), .pointer (some ⟨w.heap.size + 1 + 1 + 1 + 1, 0, none⟩)]] t4)) (by simp)
  rw [hW] at h2
  simpa using h2
 ·rw [← hW]
  exact (((((Below.refl _ w).alloc (by simp) _).alloc (by simp <;> omega) _).alloc (by simp <;> omega) _).alloc (by simp <;> omega) _).alloc (by simp <;> omega) _
theorem free_none : free (fun _ => none) = 24 := by decide
theorem rank_bound (ρ : Int → Nat) : ∀ t : List Int, ∃ K, ∀ m ∈ t, m < 0 → ρ m < K
 | [] => ⟨0, fun _ h => by cases h⟩
 | x :: t => by
  obtain ⟨K, hK⟩ := rank_bound ρ t
  refine ⟨max K (ρ x + 1), fun m hm h0 => ?_⟩
  rcases List.mem_cons.1 hm with e | e
  ·subst e; omega
  ·have := hK m e h0; omega
set_option maxRecDepth 20000 in
set_option maxHeartbeats 4000000 in
theorem comes_any {w0 w : World} {xb mb nb : Nat} {a1 : Option Addr} {c1 : Nat} {s : Sg} {B : Bd} {θ : Int → List Int} {ρ : Int → Nat} (hS : SolvW w0 w xb mb nb a1 c1 s B) (hSl : Slv s B θ ρ) (hRg : RgB B) {v : Int} (hv : v < 0) (hBv : B v = none) {a : Option Addr} {c : Nat} {t : List Int} (ht : T0 w0 a c t) (hR : Rg t) :
  Calls Tryz.prog 243 #[.pointer (some ⟨xb, 0, none⟩), .int .i64 v, .slice a t.length c] w fun e w' => ∃ r, e = .returned (.bool r) ∧ (r = true ↔ v ∈ ap θ t) ∧ Below w.heap.size w w' := by
 obtain ⟨K, hK⟩ := rank_bound ρ t
 have hmm := @run_makeMap Tryz.prog
 have hx1 := hS.lt
 have hm1 := hS.map.lt
 have hz := hS.bel.size
 have hSH := Lib.hid hS
 have m2 := ht.le
 have key := fun vb tb xx wb mm hmx hmb hm0 n M W => comes1_any (w0 := w0) (xb := xb) (mb := mb) (nb := nb) (a1 := a1) (c1 := c1) hSl hRg hv hBv vb tb xx wb mm hmx hmb hm0 K t a c n M W hK hR ht
 have keyH := Lib.hid key
 clear key hS
 go_enter Tryz.func243, Tryz.ntmps243
 go_wp2_with fail
 obtain ⟨hC, hM, hB⟩ := cap_made w _ xb v _ _ _ _ rfl
 (with_reducible refine (keyH.out _ _ _ _ _ (by omega) (by omega) (by omega) 0 _ _ (hSH.out.below hB) hC hM (by rw [free_none]; omega)).mono ?_)
 rintro e w3 ⟨M3, n3, r3, rfl, -, -, hg3, -, ht3, hf3⟩
 have hB3 : Below w.heap.size w w3 := hB.grown hg3 hB.size (fun j e => by injection e with e; omega)
 have hiff : r3 = true ↔ v ∈ ap θ t := ⟨ht3, fun hin => by
  cases r3 with
  | true => rfl
  | false => obtain ⟨k1, k2⟩ := hf3 rfl; exact (mets_not hSl k2 K t k1 hK hv hin).elim⟩
 have hiffH := Lib.hid hiff
 have hB3H := Lib.hid hB3
 clear hiff hB3 ht3 hf3 hg3 hC hM hB
 go_wp2_with fail
 go_ret
 exact ⟨_, rfl, hiffH.out, hB3H.out⟩
end Go.Proofs.YtpmnnoopoblpgaaGreat

/- Two terms that can be made equal have a most general unifier; what it makes of terms is valid; names of variables do not matter. No program is named. -/
namespace Go.Proofs.YtpmnnoopoblpgaaGreat

theorem arW_le3 {s : Sg} (hok : okSign s = true) {n : Int} (h : n < s.length) : arW s n ≤ 3 := by
 by_cases h0 : n < 0
 ·rw [arW_neg h0]; omega
 ·obtain ⟨m, rfl⟩ := Int.eq_ofNat_of_zero_le (show 0 ≤ n by omega)
  have hm : m < s.length := by omega
  have h1 := okSign_ars hok m hm
  have h2 := arW_sym hm h1.1
  omega
theorem argsW_le3 {s : Sg} (hok : okSign s = true) {P : List Int} (h : W1 s P) : (argsW s P).length ≤ 3 := by
 cases P with
 | nil => exact (h.ne rfl).elim
 | cons n r => rw [h.args.1]; exact arW_le3 hok h.args.2.2.2
theorem last_snoc' {α : Type} (L : List α) : L = [] ∨ ∃ L0 e, L = L0 ++ [e] := by
 rcases List.eq_nil_or_concat L with rfl | ⟨L0, e, rfl⟩
 ·exact .inl rfl
 ·exact .inr ⟨L0, e, by rw [List.concat_eq_append]⟩
theorem mgu_run {s : Sg} (hok : okSign s = true) {a b : List Int} : ∀ (k : Nat) (B : Bd) (θ : Int → List Int) (ρ : Int → Nat) (L : Prs), St s a b k B θ ρ L → (∃ θ', IsMgu s a b θ') ∨ ∀ η, Wsub s η → ap η a ≠ ap η b := by
 intro k
 induction k with
 | zero =>
  intro B θ ρ L h
  have hL : L = [] := h.halts
  subst hL
  exact .inl ⟨θ, B, ρ, h.slv, h.eq.done⟩
 | succ k ih =>
  intro B θ ρ L h
  rcases last_snoc' L with rfl | ⟨L0, ⟨x, y⟩, rfl⟩
  ·exact .inl ⟨θ, B, ρ, h.slv, h.eq.done⟩
  ·have hrk : ∀ t : List Int, ∀ n r, t = n :: r → n < 0 → ρ n < ρ (t.headD 0) + 1 := fun t n r e _ => by rw [e]; simp
   obtain ⟨p, hp⟩ := Lkd.ex h.slv _ x (hrk x)
   obtain ⟨q, hq⟩ := Lkd.ex h.slv _ y (hrk y)
   have hN := h.nxt hp hq
   generalize (turned p q).1 = P at hN
   generalize (turned p q).2 = Q at hN
   by_cases h0 : P.headD 0 < 0
   ·by_cases he : Q.headD 0 = P.headD 0
    ·exact ih _ _ _ _ (hN.same h0 he)
    ·by_cases ho : P.headD 0 ∈ ap θ Q
     ·exact .inr (hN.occ h0 he ho)
     ·obtain ⟨θ', ρ', h'⟩ := hN.bind h0 he ho
      exact ih _ _ _ _ h'
   ·by_cases he : Q.headD 0 = P.headD 0
    ·exact ih _ _ _ _ (hN.args (by omega) he (argsW_le3 hok hN.sP.w))
    ·exact .inr (hN.clash (by omega) (fun e => he e.symm))
theorem mgu_ex {s : Sg} (hok : okSign s = true) {a b : List Int} (ha : W1 s a) (hb : W1 s b) (ra : Rg a) (rb : Rg b) {η : Int → List Int} (hw : Wsub s η) (he : ap η a = ap η b) : ∃ θ, IsMgu s a b θ := by
 obtain ⟨k, hk⟩ := St.start ha hb ra rb
 rcases mgu_run hok k _ _ _ _ hk with h | h
 ·exact h
 ·exact (h η hw he).elim
theorem uni_cases {s : Sg} (hok : okSign s = true) {a b : List Int} (ha : W1 s a) (hb : W1 s b) (ra : Rg a) (rb : Rg b) :
  (∃ θ, IsMgu s a b θ) ∨ ((∀ η, Wsub s η → ap η a ≠ ap η b) ∧ uniB s a b = false ∧ ∀ t, uniE s a b t = ([], 8)) := by
 by_cases h : ∃ η, Wsub s η ∧ ap η a = ap η b
 ·obtain ⟨η, hw, he⟩ := h
  exact .inl (mgu_ex hok ha hb ra rb hw he)
 ·have h' : ∀ η, Wsub s η → ap η a ≠ ap η b := fun η hw he => h ⟨η, hw, he⟩
  exact .inr ⟨h', uniB_none h', uniE_none h'⟩
theorem skip_of_skw {s : Sg} : ∀ {k : Nat} {l r : List Int}, (∀ n ∈ l, n < 0 → -12 ≤ n) → skw s k l = some r → skip s k l = some r
 | 0, l, r, _, h => by rw [skw_zero] at h; rw [skip_zero]; exact h
 | k + 1, [], r, _, h => by simp [skw_nil] at h
 | k + 1, n :: l, r, hr, h => by
  rw [skw_cons] at h
  split at h
  ·rename_i hc
   have hn := hr n (by simp)
   have hco : codeOk s n = true := by
    unfold cw at hc
    simp only [decide_eq_true_eq] at hc
    unfold codeOk
    simp only [Bool.or_eq_true, decide_eq_true_eq]
    omega
   rw [skip_cons, if_pos hco, (codeOk_w hco).2]
   exact skip_of_skw (fun m hm => hr m (by simp [hm])) h
  ·cases h
theorem okT_of_w1 {s : Sg} {t : List Int} (hok : okSign s = true) (h : W1 s t) (hl : t.length ≤ 60) (hr : ∀ n ∈ t, n < 0 → -12 ≤ n) : okT s t = true := okT_of_skip hok (skip_of_skw hr h) hl
theorem canon_ap (t : List Int) : canon t = ap (fun n => [canonW (varsC t) n]) t := by
 unfold canon
 generalize varsC t = v
 induction t with
 | nil => rfl
 | cons n r ih =>
  rw [List.map_cons, ih]
  by_cases h : n < 0
  ·rw [ap_neg h]; rfl
  ·rw [ap_pos h, canonW_pos (by omega)]
theorem canon_w {s : Sg} {t : List Int} (h : W1 s t) : W1 s (canon t) := by
 rw [canon_ap]
 exact h.ap (fun n hn => W1.var (canonW_lt hn))
theorem canon_len (t : List Int) : (canon t).length = t.length := by unfold canon; rw [List.length_map]
theorem canon_back {s : Sg} (t : List Int) : ∃ τ, Wsub s τ ∧ ap τ (canon t) = t := by
 refine ⟨fun n => [if n < 0 then (varsC t).getD (-n - 1).toNat (-1) else n], fun n hn => ?_, ?_⟩
 ·refine W1.var ?_
  rw [if_pos hn, List.getD_eq_getElem?_getD]
  cases h : (varsC t)[(-n - 1).toNat]? with
  | none => simp
  | some x => exact varsC_neg x (List.mem_of_getElem? h)
 ·rw [canon_ap, ap_ap]
  refine ap_id (fun n hn h0 => ?_)
  have hm : n ∈ varsC t := mem_varsC.2 ⟨hn, h0⟩
  have hc := canonW_neg (v := varsC t) h0
  have hlt := canonW_lt (v := varsC t) h0
  rw [ap_one hlt, if_pos hlt]
  have hi := List.idxOf_lt_length_of_mem hm
  have : (-(canonW (varsC t) n) - 1).toNat = (varsC t).idxOf n := by rw [hc]; omega
  rw [this, List.getD_eq_getElem?_getD, List.getElem?_eq_getElem hi]
  simp
theorem canon_rg {t : List Int} (h : (varsC t).length ≤ 12) : ∀ n ∈ canon t, n < 0 → -12 ≤ n := by
 intro n hn h0
 unfold canon at hn
 obtain ⟨m, hm, rfl⟩ := List.mem_map.1 hn
 by_cases hm0 : m < 0
 ·have hi := List.idxOf_lt_length_of_mem (mem_varsC.2 ⟨hm, hm0⟩)
  rw [canonW_neg hm0]; omega
 ·rw [canonW_pos (by omega)] at h0; omega
theorem madeE_ok {s : Sg} {θ : Int → List Int} {t : List Int} (hok : okSign s = true) (hθ : Wsub s θ) (ht : W1 s t) (h : (madeE θ t).2 = 0) :
  okT s (madeE θ t).1 = true ∧ (madeE θ t).1 = canon (ap θ t) := by
 unfold madeE at h ⊢
 split
 ·rename_i hc
  exact ⟨okT_of_w1 hok (canon_w (ht.ap hθ)) (by rw [canon_len]; exact hc.1) (canon_rg hc.2), rfl⟩
 ·rename_i hc; rw [if_neg hc] at h; cases h
end Go.Proofs.YtpmnnoopoblpgaaGreat

/- Walks of package unify: the stack of pairs; where arguments lie; after of a logic; the step of unification. -/
namespace Go.Proofs.YtpmnnoopoblpgaaGreat
open Go Go.RowKit Go.Maps

abbrev prE : Enc (List Int × List Int) := pairE (slE intE) (slE intE)
abbrev OwnPr (S : Nat → Prop) (w : World) (base : Nat) (v : Value) (L : Prs) : Prop := OwnL prE S w base 234 v L
theorem infoPair : (Tryz.prog.info? 234).map (fun i => (i.zero, i.size, i.bytes)) = some (some (.agg #[.slice none 0 0, .slice none 0 0]), 2, 48) := by kernel_rfl

section
variable {S : Nat → Prop} {w : World} {base g n cap : Nat} {L : Prs}
theorem pr_len {xs : List (List Value)} {T : Nat → Prop} (hl : xs.length = L.length) (hx : ∀ i (h1 : i < xs.length) (h2 : i < L.length), prE.R T w xs[i] L[i]) : ∀ x ∈ xs, x.length = 2 := by
 intro x hxm
 obtain ⟨i, hi, rfl⟩ := List.getElem_of_mem hxm
 exact prE.len (hx i hi (by omega))
theorem OwnPr.cell (h : OwnPr S w base (.slice (some ⟨g, 0, none⟩) n cap) L) (hn : n = L.length) (i : Nat) (hi : i < L.length) :
  ∃ a c a' c', w.cell? ⟨g, i * 2, none⟩ = some (.slice a L[i].1.length c) ∧ w.cell? ⟨g, i * 2 + 1, none⟩ = some (.slice a' L[i].2.length c') ∧ Ints (Off S (.slice (some ⟨g, 0, none⟩) n cap)) w a c L[i].1 ∧ Ints (Off S (.slice (some ⟨g, 0, none⟩) n cap)) w a' c' L[i].2 := by
 subst hn
 obtain ⟨xs, ho, hl, hx⟩ := h
 have hi' : i < xs.length := by omega
 have h1 := pr_len hl hx
 obtain ⟨us, ts, he, ⟨a, c, rfl, hI⟩, ⟨a', c', rfl, hI'⟩⟩ := hx i hi' hi
 refine ⟨a, c, a', c', ?_, ?_, hI, hI'⟩
 ·rw [ho.cellAt (i * 2) (by show i * 2 < L.length * 2; omega)]
  have := flatten_get h1 i hi' 0 (by rw [he]; simp)
  rw [Nat.add_zero] at this
  rw [this]; simp [he]
 ·rw [ho.cellAt (i * 2 + 1) (by show i * 2 + 1 < L.length * 2; omega)]
  have := flatten_get h1 i hi' 1 (by rw [he]; simp)
  rw [this]; simp [he]
theorem OwnPr.take (h : OwnPr S w base (.slice (some ⟨g, 0, none⟩) n cap) L) (hn : n = L.length) {k : Nat} (hk : k ≤ n) : OwnPr S w base (.slice (some ⟨g, 0, none⟩) k cap) (L.take k) := by
 subst hn
 obtain ⟨xs, ho, hl, hx⟩ := h
 have h1 := pr_len hl hx
 have hlk : (L.take k).length = k := by simp; omega
 have hfl : (xs.take k).flatten = xs.flatten.take (k * 2) := by
  clear ho hx hl hk hlk
  induction xs generalizing k with
  | nil => simp
  | cons x r ih =>
   have hx2 := h1 x (by simp)
   cases k with
   | zero => simp
   | succ k => rw [List.take_succ_cons, List.flatten_cons, List.flatten_cons, ih (fun z hz => h1 z (by simp [hz])), show (k + 1) * 2 = x.length + k * 2 by omega, List.take_length_add_append]
 refine ⟨xs.take k, ?_, by simp [hl], fun i g1 g2 => ?_⟩
 ·rw [hlk, hfl]
  obtain ⟨e1, e2⟩ := ho
  have hs : prE.size = 2 := rfl
  rw [hs] at e1 e2 ⊢
  refine ⟨by rw [List.length_take, e1]; omega, ?_⟩
  rcases e2 with ⟨e2, -⟩ | ⟨g', cap', cur, e3, e4, e5, e6, e7, e8, e9⟩
  ·cases e2
  ·cases e3
   refine .inr ⟨g, cap, cur, rfl, e4, e5, by omega, e7, e8, ?_⟩
   rw [← e9, List.take_take, Nat.min_eq_left (by omega)]
 ·simp only [List.getElem_take]
  exact hx i (by simp at g1; omega) (by simp at g2; omega)
end

def apos (s : Sg) (t : List Int) (m : Nat) : Nat := 1 + ((argsW s t).take m).flatten.length
theorem args_at {s : Sg} {n : Int} {x : List Int} (h : W1 s (n :: x)) {m : Nat} (hm : m < arW s n) (hl : m < (argsW s (n :: x)).length) :
  skw s 1 ((n :: x).drop (apos s (n :: x) m)) = some ((n :: x).drop (apos s (n :: x) (m + 1))) ∧ apos s (n :: x) m < apos s (n :: x) (m + 1) ∧ apos s (n :: x) (m + 1) ≤ (n :: x).length ∧
   ((n :: x).drop (apos s (n :: x) m)).take (apos s (n :: x) (m + 1) - apos s (n :: x) m) = (argsW s (n :: x))[m] := by
 obtain ⟨h1, h2, h3, -⟩ := h.args
 obtain ⟨A, hA⟩ : ∃ A, argsW s (n :: x) = A := ⟨_, rfl⟩
 rw [hA] at h1 h2 h3
 simp only [apos, hA]
 have hd : ∀ k, (n :: x).drop (1 + (A.take k).flatten.length) = (A.drop k).flatten := fun k => by
  rw [Nat.add_comm, List.drop_succ_cons, ← h2]
  conv => lhs; rw [← List.take_append_drop k A]
  rw [List.flatten_append]
  have : ((A.take k ++ A.drop k).take k) = A.take k := by rw [List.take_append_drop]
  rw [this, List.drop_left]
 have ht : (A.take (m + 1)).flatten.length = (A.take m).flatten.length + (A[m]'(by omega)).length := by
  rw [List.take_succ_eq_append_getElem (by omega), List.flatten_append, List.length_append]; simp
 have hdm : (A.drop m).flatten = A[m]'(by omega) ++ (A.drop (m + 1)).flatten := by rw [List.drop_eq_getElem_cons (by omega), List.flatten_cons]
 have hw := h3 _ (List.getElem_mem (by omega : m < A.length))
 have hle : (A.take (m + 1)).flatten.length ≤ x.length := by
  rw [← h2]
  conv => rhs; rw [← List.take_append_drop (m + 1) A]
  rw [List.flatten_append, List.length_append]; omega
 have hwl := hw.len
 refine ⟨?_, by omega, by rw [List.length_cons]; omega, ?_⟩
 ·rw [hd, hd, hdm, skw_append s 1 _ _ _ hw]; rfl
 ·rw [hd, ht, hdm, show 1 + ((A.take m).flatten.length + (A[m]'(by omega)).length) - (1 + (A.take m).flatten.length) = (A[m]'(by omega)).length by omega, List.take_left]
theorem args_all {s : Sg} {t : List Int} (h : W1 s t) {n : Int} (hn : t.headD 0 = n) : (argsW s t).length = arW s n ∧ n < s.length ∧ ∀ m (hm : m < (argsW s t).length), skw s 1 (t.drop (apos s t m)) = some (t.drop (apos s t (m + 1))) ∧ apos s t m < apos s t (m + 1) ∧ apos s t (m + 1) ≤ t.length ∧
  (t.drop (apos s t m)).take (apos s t (m + 1) - apos s t m) = (argsW s t)[m] := by
 cases t with
 | nil => exact (h.ne rfl).elim
 | cons k x =>
  simp only [List.headD_cons] at hn
  subst hn
  exact ⟨h.args.1, h.args.2.2.2, fun m hm => args_at h (by rw [← h.args.1]; exact hm) hm⟩
theorem drop_len {t : List Int} {k : Nat} (h : k ≤ t.length) : t.length - (t.drop k).length = k := by rw [List.length_drop]; omega

set_option maxHeartbeats 1000000 in
theorem lafter_any {S1 S2 : Nat → Prop} (a1 a2 : Option Addr) (c1 c2 : Nat) (s : Sg) (t : List Int) (p : Nat) (r : List Int) (w : World) (h1 : Sign S1 w a1 c1 s) (h2 : Ints S2 w a2 c2 t) (hok : okSign s = true) (hp : skw s 1 (t.drop p) = some r) :
  Calls Tryz.prog 244 #[.agg #[.slice a1 s.length c1], .slice a2 t.length c2, .int .i64 p] w fun e w' => e = .returned (.int .i64 (t.length - r.length : Nat)) ∧ Below w.heap.size w w' := by
 have cf := fun W hb => after_any a1 a2 c1 c2 s t p r W (h1.below (w' := W) hb) (h2.below hb) hok hp
 have cfH := Lib.hid cf
 clear cf h1 h2 hp
 go_enter Tryz.func244, Tryz.ntmps244
 go_wp2_with fail
 refine (cfH.out _ (below1 _ _)).mono ?_
 rintro e w1 ⟨rfl, rfl⟩
 go_wp2_with fail
 go_ret
 exact ⟨rfl, below1 _ _⟩

end Go.Proofs.YtpmnnoopoblpgaaGreat

/- Walks of package unify: solve. -/
namespace Go.Proofs.YtpmnnoopoblpgaaGreat
open Go Go.RowKit Go.Maps

theorem OwnPr.lit1 {w : World} {S : Nat → Prop} {a a' : Option Addr} {c c' : Nat} {t u : List Int} (h : Ints S w a c t) (h' : Ints S w a' c' u) :
  OwnPr S (w.alloc (.cells #[.slice a t.length c, .slice a' u.length c'] 234)) w.heap.size (.slice (some ⟨w.heap.size, 0, none⟩) 1 1) [(t, u)] := by
 have hr := World.ownsRow_lit (base := w.heap.size) (e := 234) (size := 2) w #[.slice a t.length c, .slice a' u.length c'] 1 (Nat.le_refl _) (by unfold maxLen; omega) (by simp)
 refine ⟨[[.slice a t.length c, .slice a' u.length c']], hr, rfl, fun i g1 g2 => ?_⟩
 obtain rfl : i = 0 := by simp at g1; omega
 have hA := Agree.all (S := S) (below1 w (.cells #[.slice a t.length c, .slice a' u.length c'] 234))
 have hm : ∀ b, b < w.heap.size → S b → Off S (.slice (some ⟨w.heap.size, 0, none⟩) 1 1) b := fun b hb hs => ⟨hs, fun e => by simp [Value.ownBlock] at e; omega⟩
 exact ⟨[_], [_], rfl, ⟨a, c, rfl, h.mono hm hA⟩, ⟨a', c', rfl, h'.mono hm hA⟩⟩
theorem T0.back {w0 w : World} (hB : Below w0.heap.size w0 w) {S : Nat → Prop} {a : Option Addr} {c : Nat} {t : List Int} (h : Ints S w a c t) (hS : ∀ b, S b → b < w0.heap.size) : T0 w0 a c t :=
 h.mono (fun b _ hb => hS b hb) (fun b hb _ => (hB.block b (hS b hb)).symm)

def solRel (w0 wS : World) (xb mb : Nat) (a1 : Option Addr) (c1 : Nat) (s : Sg) (a b : List Int) (k : Nat) (lv : Value) (wr : World) : Prop :=
 ∃ B θ ρ n L, St s a b k B θ ρ L ∧ n + free B ≤ 24 ∧ SolvW w0 wr xb mb n a1 c1 s B ∧ OwnPr (fun b => b < w0.heap.size) wr wS.heap.size lv L ∧ wS.heap.size ≤ wr.heap.size
def solRet (w0 : World) (xb mb : Nat) (a1 : Option Addr) (c1 : Nat) (s : Sg) (a b : List Int) (e : Ending) (w' : World) : Prop :=
 ∃ r, e = .returned (.bool r) ∧ Below w0.heap.size w0 w' ∧ (r = false → ∀ η, Wsub s η → ap η a ≠ ap η b) ∧
  (r = true → ∃ B θ ρ n, Slv s B θ ρ ∧ RgB B ∧ (∀ η, Wsub s η → (Sat B η ↔ ap η a = ap η b)) ∧ SolvW w0 w' xb mb n a1 c1 s B ∧ ∀ n u, B n = some u → InfT a b u)
section
variable {P : Program} {Q : Exit → Act → World → Prop} {md : Region.Mode} {S : World → Prop} {l : List Oper} {listed : Array Bool} {fuel : Nat} {a : Act} {w : World}
end
theorem SolvW.keep {w0 w w' : World} {xb mb n K : Nat} {a1 : Option Addr} {c1 : Nat} {s : Sg} {B : Bd} (h : SolvW w0 w xb mb n a1 c1 s B) (hb : Below K w w') (h1 : xb < K) (h2 : mb < K) (h3 : w0.heap.size ≤ K) : SolvW w0 w' xb mb n a1 c1 s B :=
 ⟨(World.cell?_of_block (a := ⟨xb, 0, none⟩) (hb.block xb h1)).trans h.k0, (World.cell?_of_block (a := ⟨xb, 1, none⟩) (hb.block xb h1)).trans h.k1, h.map.below hb h2, h.bx, h.bm, h.ne, h.sg, h.bel.trans (hb.mono h3), h.wf⟩
theorem SolvW.stored {w0 w w' : World} {xb mb n n' : Nat} {a1 : Option Addr} {c1 : Nat} {s : Sg} {B : Bd} {v : Int} {q : List Int} (h : SolvW w0 w xb mb n a1 c1 s B) (hg : w.grownBy w' (some mb)) (hD : BdMap w0 w' mb n' (upB B v q)) (hq : W1 s q) : SolvW w0 w' xb mb n' a1 c1 s (upB B v q) := by
 have hx : w'.heap[xb]? = w.heap[xb]? := hg.block xb h.lt (fun e => h.ne (by injection e))
 refine ⟨(World.cell?_of_block (a := ⟨xb, 0, none⟩) hx).trans h.k0, (World.cell?_of_block (a := ⟨xb, 1, none⟩) hx).trans h.k1, hD, h.bx, h.bm, h.ne, h.sg, h.bel.grown hg h.bel.size (fun j e => by have := h.bm; injection e with e; omega), fun m u hu => ?_⟩
 unfold upB at hu
 split at hu
 ·cases hu; exact hq
 ·exact h.wf m u hu
def inRel (w0 wS : World) (xb mb n : Nat) (a1 : Option Addr) (c1 : Nat) (s : Sg) (B : Bd) (L0 : Prs) (P Q : List Int) (N : Nat) (lv iv jv cv : Value) (wr : World) : Prop :=
 ∃ m : Nat, cv = .int .i64 m ∧ m ≤ N ∧ iv = .int .i64 (apos s P m : Nat) ∧ jv = .int .i64 (apos s Q m : Nat) ∧ OwnPr (fun b => b < w0.heap.size) wr wS.heap.size lv (L0 ++ ((argsW s P).zip (argsW s Q)).take m) ∧ SolvW w0 wr xb mb n a1 c1 s B ∧ wS.heap.size ≤ wr.heap.size
theorem Pr_push {S : Nat → Prop} {w : World} {base : Nat} {v : Value} {L : Prs} (ho : OwnPr S w base v L) (hS : ∀ b, S b → b < base) (hbs : base ≤ w.heap.size) {a a' : Option Addr} {c c' : Nat} {t u : List Int} (h : Ints S w a c t) (h' : Ints S w a' c' u) (hl : L.length + 1 ≤ 100000000) :
  ∃ v' w', RowKit.Hid ((Builtin.append_ #[235, 235] 235 #[v, .slice (some ⟨w.heap.size, 0, none⟩) 1 1]).run Tryz.prog (w.alloc (.cells #[.slice a t.length c, .slice a' u.length c'] 234)) = .ok v' w') ∧ RowKit.Hid (OwnPr S w' base v' (L ++ [(t, u)])) ∧ RowKit.Hid (Below base w w') := by
 have hw : ∀ b, S b → Off S v b := fun b hb => ⟨hb, fun e => by have := (OwnL.lt ho b e.symm).1; have := hS b hb; omega⟩
 obtain ⟨v', w', hrun, ho', hg, -⟩ := OwnL.push (P := Tryz.prog) (t := 235) (ty := 235) ho Tryz.underlying235 infoPair rfl (vs := [.slice a t.length c, .slice a' u.length c']) (x := (t, u)) ⟨[_], [_], rfl, ⟨a, c, rfl, h.weak hw⟩, ⟨a', c', rfl, h'.weak hw⟩⟩ (by omega) (by unfold big; omega) hbs
 exact ⟨v', w', Lib.hid hrun, Lib.hid ho', Lib.hid ((Below.refl base w).grown hg hbs (fun k e => (OwnL.lt ho k e).1))⟩
theorem rank_head (ρ : Int → Nat) (t : List Int) : ∀ n r, t = n :: r → n < 0 → ρ n < ρ (t.headD 0) + 1 := fun n r e _ => by rw [e]; simp
theorem last_snoc {α : Type} {L : List α} (h : 0 < L.length) : ∃ L0 e, L = L0 ++ [e] ∧ L0.length + 1 = L.length := by
 rcases List.eq_nil_or_concat L with rfl | ⟨L0, e, rfl⟩
 ·simp at h
 ·exact ⟨L0, e, by rw [List.concat_eq_append], by simp⟩
set_option maxRecDepth 20000 in
set_option maxHeartbeats 1000000 in
theorem solve_any {w0 wS : World} {xb mb : Nat} {a1 : Option Addr} {c1 : Nat} {s : Sg} (hok : okSign s = true) (hS : SolvW w0 wS xb mb 0 a1 c1 s (fun _ => none)) {a2 a3 : Option Addr} {c2 c3 : Nat} {a b : List Int} (ta : T0 w0 a2 c2 a) (tb : T0 w0 a3 c3 b)
  (ha : W1 s a) (hb : W1 s b) (ra : Rg a) (rb : Rg b) (la : a.length ≤ 1000) (lb : b.length ≤ 1000) :
  Calls Tryz.prog 239 #[.pointer (some ⟨xb, 0, none⟩), .slice a2 a.length c2, .slice a3 b.length c3] wS (solRet w0 xb mb a1 c1 s a b) := by
 obtain ⟨k0, hst⟩ := St.start ha hb ra rb
 have hxS := hS.lt
 have hmS := hS.map.lt
 have hz := hS.bel.size
 have hSH := Lib.hid hS
 have hstH := Lib.hid hst
 have hokH := Lib.hid hok
 have m2 := ta.le
 have m3 := tb.le
 have hlit := Lib.hid (OwnPr.lit1 (w := wS) (ta.below hS.bel) (tb.below hS.bel))
 clear ha hb ra rb hst hS hok ta tb
 go_enter Tryz.func239, Tryz.ntmps239
 go_wp2_with fail
 go_loopg [7] k0 (fun k lv wr => solRel w0 wS xb mb a1 c1 s a b k lv wr)
 case atStart => exact ⟨_, _, _, 0, _, hstH.out, by rw [free_none]; omega, hSH.out.below (below1 _ _), hlit.out, by simp⟩
 case round =>
  obtain ⟨B, θ, ρ, n, L, hst, hn, hS, ho, hsz⟩ := hrel
  obtain ⟨al, cl, hv, hsl⟩ := OwnL.sl ho
  by_cases hL : 0 < L.length
  ·obtain ⟨g, cap, hvv, hg1, hg2⟩ := OwnL.form ho (by intro e; rw [e] at hL; simp at hL)
   subst hvv
   obtain ⟨L0, ⟨x, y⟩, hLe, hLl⟩ := last_snoc hL
   have hll := hst.len la lb
   obtain ⟨ax, cx, ay, cy, qx, qy, hIx, hIy⟩ := OwnPr.cell ho rfl L0.length (by omega)
   have hi : L[L0.length]'(by omega) = (x, y) := by
    have : L[L0.length]? = some (x, y) := by rw [hLe]; simp
    rw [List.getElem?_eq_getElem (by omega)] at this
    exact Option.some.inj this
   rw [hi] at qx qy hIx hIy
   simp only at qx qy hIx hIy
   have hot := OwnPr.take ho rfl (k := L0.length) (by omega)
   rw [hLe, List.take_left] at hot
   have tx := T0.back hS.bel hIx (fun b hb => hb.1)
   have ty := T0.back hS.bel hIy (fun b hb => hb.1)
   have hsg : IntKind.i64.wrap (((L.length : Nat) : Int) - 1) = (L0.length : Nat) := by rw [show (((L.length : Nat) : Int) - 1) = (L0.length : Nat) by omega]; exact IntWalk.i64_in _ (by omega)
   have hlt1 : ((L0.length : Nat) : Int) < L.length := by omega
   have hlt0 : (0 : Int) ≤ (L0.length : Nat) := by omega
   have hcap : L.length ≤ cap := by have := hsl.cap; simp at hv; omega
   subst hLe
   obtain ⟨gk', rfl⟩ := hst.pos
   obtain ⟨hx, hy, -⟩ := hst.item
   obtain ⟨px, hpx⟩ := Lkd.ex hst.slv _ x (rank_head ρ x)
   obtain ⟨py, hpy⟩ := Lkd.ex hst.slv _ y (rank_head ρ y)
   obtain ⟨ap, cp, hTp, clx⟩ := look_any (hS.below (below1 wr (.cells #[.slice ax x.length cx, .slice ay y.length cy] 234))) tx hx.1 hpx
   obtain ⟨aq, cq, hTq, cly⟩ := look_any (hS.below (below1 wr (.cells #[.slice ax x.length cx, .slice ay y.length cy] 234))) ty hy hpy
   obtain ⟨lL, hlL⟩ : ∃ l, (L0 ++ [(x, y)]).length = l := ⟨_, rfl⟩
   rw [hlL] at hsg hlt1 hcap hLl hL hll
   simp only [hlL]
   obtain ⟨W1, hW1⟩ : ∃ W1, wr.alloc (.cells #[.slice ax x.length cx, .slice ay y.length cy] 234) = W1 := ⟨_, rfl⟩
   have hb1 : Below wr.heap.size wr W1 := by rw [← hW1]; exact below1 _ _
   rw [hW1] at clx cly
   have u0 : W1.cell? ⟨wr.heap.size, 0, none⟩ = some (.slice ax x.length cx) := by rw [← hW1]; clear hW1; go_simp
   have u1 : W1.cell? ⟨wr.heap.size, 1, none⟩ = some (.slice ay y.length cy) := by rw [← hW1]; clear hW1; go_simp
   have hS1 := hS.below hb1
   have hot1 := OwnL.call hot hb1
   have hsz1 := Nat.le_trans hsz hb1.size
   have hN := hst.nxt hpx hpy
   obtain ⟨sp, sq⟩ := hst.seen hpx hpy
   have lp := sp.w.len
   have lq := sq.w.len
   obtain ⟨bp, op, rfl, hbp, qp, rp⟩ := (hTp.below hS1.bel).int 0 (by omega)
   obtain ⟨bq, oq, rfl, hbq, qq, rq⟩ := (hTq.below hS1.bel).int 0 (by omega)
   rw [Nat.add_zero] at qp qq
   have hp0 : px[0] = px.headD 0 := by cases px with | nil => simp at lp | cons _ _ => rfl
   have hq0 : py[0] = py.headD 0 := by cases py with | nil => simp at lq | cons _ _ => rfl
   rw [hp0] at qp rp
   rw [hq0] at qq rq
   have hturn : turned px py = if py.headD 0 < 0 then (py, px) else (px, py) := rfl
   obtain ⟨p0, hp0⟩ : ∃ p0, px.headD 0 = p0 := ⟨_, rfl⟩
   obtain ⟨q0, hq0⟩ : ∃ q0, py.headD 0 = q0 := ⟨_, rfl⟩
   rw [hp0] at qp rp
   rw [hq0] at qq rq hturn
   have hNH := Lib.hid hN
   have hturnH := Lib.hid hturn
   have clxH := Lib.hid clx
   have clyH := Lib.hid cly
   have hS1H := Lib.hid hS1
   have hotH := Lib.hid hot1
   have hTpH := Lib.hid hTp
   have hTqH := Lib.hid hTq
   have hnH := Lib.hid hn
   have hW1H := Lib.hid hW1
   have hp0H := Lib.hid hp0
   have hq0H := Lib.hid hq0
   have hrpH := Lib.hid rp
   have hrqH := Lib.hid rq
   clear clx cly hst hS hot ho hTp hTq hpx hpy hn tx ty hIx hIy hi hlL hx hy hv hsl hll hb1 hS1 hot1 hN sp sq hturn hp0 hq0 rp rq hW1
   go_wp2_with fail
   rw [hW1H.out]
   clear hW1H qx qy
   go_quiet ((go_at_call 242; first | (with_reducible exact quiet_drew (clxH.out _)) | (with_reducible exact quiet_drew (clyH.out _))))
   clear clxH clyH u0 u1
   obtain ⟨W2, hW2⟩ : ∃ W2, W1.drewN nq = W2 := ⟨_, rfl⟩
   have hb2 : Below W1.heap.size W1 W2 := by rw [← hW2]; exact (Drew.mk _ _).below _
   rw [hW2]
   have hS2H := Lib.hid (hS1H.out.below hb2)
   have hot2H := Lib.hid (OwnL.call hotH.out hb2)
   have qp := cell_later hb2 qp
   have qq := cell_later hb2 qq
   have hsz2 := Nat.le_trans hsz1 hb2.size
   clear hb2 hW2 hS1H hotH hsz1
   by_cases hq : q0 < 0
   ·have hN2H := Lib.hid (show Nxt s a b gk' B θ ρ L0 py px q0 p0 by
     have h := hNH.out
     rw [hturnH.out, if_pos hq] at h
     simp only [hp0H.out, hq0H.out] at h
     exact h)
    have TPH := Lib.hid hTqH.out
    have TQH := Lib.hid hTpH.out
    have lP := lq
    have lQ := lp
    have rPH := Lib.hid hrqH.out
    have rQH := Lib.hid hrpH.out
    have hcase : (q0 < 0 ∧ p0 = q0) ∨ (q0 < 0 ∧ p0 ≠ q0) ∨ (0 ≤ q0 ∧ p0 = q0) ∨ (0 ≤ q0 ∧ q0 ≠ p0) := by omega
    have hcaseH := Lib.hid hcase
    clear hNH hturnH hTpH hTqH hrpH hrqH hp0H hq0H hcase
    go_wp2_with fail
    rcases hcaseH.out with ⟨hv, hw⟩ | ⟨hv, hw⟩ | ⟨hv, hw⟩ | ⟨hv, hw⟩
    ·have hnx := Lib.hid (hN2H.out.same hv hw)
     have hb : (p0 == q0) = true := by simpa using hw
     have hdv : decide (q0 < 0) = true := by simpa using hv
     clear hcaseH hw hN2H
     go_quiet (fail)
     all_goals go_wp2_with fail
     go_roundg gk'
     case measure => omega
     case rel => exact ⟨B, θ, ρ, n, L0, hnx.out, hnH.out, hS2H.out.below ((Drew.mk _ _).below _), OwnL.call hot2H.out ((Drew.mk _ _).below _), hsz2⟩
    ·have hbd := Lib.hid (hN2H.out.bind hv hw)
     have hoc := Lib.hid (hN2H.out.occ hv hw)
     have hBv : B q0 = none := by have := (hN2H.out.sP.v (by rw [hN2H.out.hP]; exact hv)).2.1; rwa [hN2H.out.hP] at this
     have hV24 : -24 ≤ q0 := by have := (hN2H.out.sP.v (by rw [hN2H.out.hP]; exact hv)).2.2; rwa [hN2H.out.hP] at this
     have hfr := free_bind (q := px) hv hV24 hBv
     have cc := fun W hb => comes_any (w := W) (hS2H.out.below hb) hN2H.out.slv hN2H.out.rg hv hBv TQH.out hN2H.out.sQ.r
     have ccH := Lib.hid cc
     have hBvH := Lib.hid hBv
     have hN4H := Lib.hid hN2H.out.sQ.w
     have hb : (p0 == q0) = false := by simpa using hw
     have hdv : decide (q0 < 0) = true := by simpa using hv
     clear hcaseH hw hN2H cc hBv
     go_quiet (fail)
     all_goals go_wp2_with fail
     obtain ⟨W3, hW3⟩ : ∃ W3, W2.drewN nq = W3 := ⟨_, rfl⟩
     have hb3 : Below W2.heap.size W2 W3 := by rw [← hW3]; exact (Drew.mk _ _).below _
     rw [hW3]
     (with_reducible refine (ccH.out W3 hb3).mono ?_)
     rintro e w4 ⟨r, rfl, hr, hb4⟩
     have hb24 := bcall hb3 hb4
     have hS4H := Lib.hid (hS2H.out.below hb24)
     have hrH := Lib.hid hr
     cases r with
     | true =>
      clear hr hb3 hb4 hW3 hb24
      go_wp2_with fail
      go_ret
      exact ⟨false, rfl, hS4H.out.bel, fun _ => hoc.out (hrH.out.1 (by simp)), fun h => by cases h⟩
     | false =>
      have hot4H := Lib.hid (OwnL.call hot2H.out hb24)
      have qp4 := cell_later hb24 qq
      have k1 := hS4H.out.k1
      have hsz4 := Nat.le_trans hsz2 hb24.size
      clear hr hb3 hb4 hW3 hb24
      go_wp2_with fail
      have hnoc : q0 ∉ ap θ px := fun h => by have := hrH.out.2 h; cases this
      obtain ⟨θ', ρ', hst'⟩ := hbd.out hnoc
      have hst'H := Lib.hid hst'
      obtain ⟨w5, n5, hup, hn5, hD5, hg5, -⟩ := (hS4H.out.map.below (w' := w4.drew) (Below.drew (.refl w4.heap.size _)) hS4H.out.map.lt).store (by have := hnH.out; unfold maxLen; omega) q0 rPH.out TQH.out
      have hup2 := hup.out
      clear hst' hnoc
      have hlPi : 0 < py.length := lP
      have hxw := hS4H.out.lt
      have hbw : bq < w4.drew.heap.size := World.block_lt_of_cell? _ _ qp4
      have hBm : bq ≠ mb := by have := hS4H.out.bm; omega
      refine wp_region_held_drew (S := (fun w' => w'.cell? ⟨xb, 1, none⟩ = some (.map (some mb)) ∧ w'.cell? ⟨bq, oq, none⟩ = some (.int .i64 q0))) (by kernel_rfl) ⟨k1, qp4⟩ (fun hS => ?_)
      refine rtk 0 116 (v := ?_) hS ?_ ?_; rotate_left; · (intro w9 hS9; go_simp; try (with_reducible rfl))
      refine rtk 1 117 (v := ?_) hS ?_ ?_; rotate_left; · (intro w9 hS9; go_simp; try (with_reducible rfl))
      refine rtk 2 118 (v := ?_) hS ?_ ?_; rotate_left; · (intro w9 hS9; go_simp; try (with_reducible rfl))
      refine rtk 3 119 (v := ?_) hS ?_ ?_; rotate_left; · (intro w9 hS9; go_simp; try (with_reducible rfl))
      refine rtk 4 120 (v := ?_) hS ?_ ?_; rotate_left; · (intro w9 hS9; go_simp; try (with_reducible rfl))
      refine rtk 5 121 (v := ?_) hS ?_ ?_; rotate_left; · (intro w9 hS9; go_simp; try (with_reducible rfl))
      refine rtk 6 122 (v := ?_) hS ?_ ?_; rotate_left; · (intro w9 hS9; go_simp; try (with_reducible rfl))
      refine rtk 7 123 (v := ?_) hS ?_ ?_; rotate_left; · (intro w9 hS9; go_simp; try (with_reducible rfl))
      refine region_call 8 rfl (by kernel_rfl) (fun K hK => ?_)
      go_simp
      refine hK.out _ _ ⟨(World.cell?_of_block (hg5.out.block xb hxw (fun e => hS4H.out.ne (by injection e)))).trans k1, (World.cell?_of_block (hg5.out.block bq hbw (fun e => hBm (by injection e)))).trans qp4⟩ ?_
      clear hS hK
      intro hS
      refine wpAnyH_done (by kernel_rfl) ?_ _
      have hrel : solRel w0 wS xb mb a1 c1 s a b gk' (.slice (some ⟨g, 0, none⟩) L0.length cap) w5 :=
       ⟨_, θ', ρ', n5, L0, hst'H.out, by have := hnH.out; have := hn5.out; omega, (hS4H.out.below (Below.drew (.refl w4.heap.size _))).stored hg5.out hD5.out hN4H.out,
        OwnL.grown (OwnL.call hot4H.out (Below.drew (.refl w4.heap.size _))) hg5.out (fun j e e' => by simp [Value.ownBlock] at e; injection e' with e'; omega) (fun j hj _ e => by have := hS4H.out.bm; have hj' : j < w0.heap.size := hj; injection e with e; omega), Nat.le_trans hsz4 hg5.out.size⟩
      have hrelH := Lib.hid hrel
      clear hrel hS hup2
      go_wp2_with fail
      go_roundg gk'
      case measure => omega
      case rel => exact hrelH.out
    ·omega
    ·have hnx := Lib.hid (hN2H.out.clash hv hw)
     have hb : (q0 != p0) = true := by simpa using hw
     have hdv : decide (q0 < 0) = false := by simp; omega
     clear hcaseH hw hN2H
     go_quiet (fail)
     all_goals go_wp2_with fail
     all_goals go_quiet (fail)
     all_goals go_wp2_with fail
     all_goals go_ret
     all_goals exact ⟨false, rfl, bcall hS2H.out.bel ((Drew.mk2 _ _ _).below _), fun _ => hnx.out, fun h => by cases h⟩
   ·have hN2H := Lib.hid (show Nxt s a b gk' B θ ρ L0 px py p0 q0 by
     have h := hNH.out
     rw [hturnH.out, if_neg hq] at h
     simp only [hp0H.out, hq0H.out] at h
     exact h)
    have TPH := Lib.hid hTpH.out
    have TQH := Lib.hid hTqH.out
    have lP := lp
    have lQ := lq
    have rPH := Lib.hid hrpH.out
    have rQH := Lib.hid hrqH.out
    have hcase : (p0 < 0 ∧ q0 = p0) ∨ (p0 < 0 ∧ q0 ≠ p0) ∨ (0 ≤ p0 ∧ q0 = p0) ∨ (0 ≤ p0 ∧ p0 ≠ q0) := by omega
    have hcaseH := Lib.hid hcase
    clear hNH hturnH hTpH hTqH hrpH hrqH hp0H hq0H hcase
    go_wp2_with fail
    rcases hcaseH.out with ⟨hv, hw⟩ | ⟨hv, hw⟩ | ⟨hv, hw⟩ | ⟨hv, hw⟩
    ·have hnx := Lib.hid (hN2H.out.same hv hw)
     have hb : (q0 == p0) = true := by simpa using hw
     have hdv : decide (p0 < 0) = true := by simpa using hv
     clear hcaseH hw hN2H
     go_quiet (fail)
     all_goals go_wp2_with fail
     go_roundg gk'
     case measure => omega
     case rel => exact ⟨B, θ, ρ, n, L0, hnx.out, hnH.out, hS2H.out.below ((Drew.mk _ _).below _), OwnL.call hot2H.out ((Drew.mk _ _).below _), hsz2⟩
    ·have hbd := Lib.hid (hN2H.out.bind hv hw)
     have hoc := Lib.hid (hN2H.out.occ hv hw)
     have hBv : B p0 = none := by have := (hN2H.out.sP.v (by rw [hN2H.out.hP]; exact hv)).2.1; rwa [hN2H.out.hP] at this
     have hV24 : -24 ≤ p0 := by have := (hN2H.out.sP.v (by rw [hN2H.out.hP]; exact hv)).2.2; rwa [hN2H.out.hP] at this
     have hfr := free_bind (q := py) hv hV24 hBv
     have cc := fun W hb => comes_any (w := W) (hS2H.out.below hb) hN2H.out.slv hN2H.out.rg hv hBv TQH.out hN2H.out.sQ.r
     have ccH := Lib.hid cc
     have hBvH := Lib.hid hBv
     have hN4H := Lib.hid hN2H.out.sQ.w
     have hb : (q0 == p0) = false := by simpa using hw
     have hdv : decide (p0 < 0) = true := by simpa using hv
     clear hcaseH hw hN2H cc hBv
     go_quiet (fail)
     all_goals go_wp2_with fail
     obtain ⟨W3, hW3⟩ : ∃ W3, W2.drewN nq = W3 := ⟨_, rfl⟩
     have hb3 : Below W2.heap.size W2 W3 := by rw [← hW3]; exact (Drew.mk _ _).below _
     rw [hW3]
     (with_reducible refine (ccH.out W3 hb3).mono ?_)
     rintro e w4 ⟨r, rfl, hr, hb4⟩
     have hb24 := bcall hb3 hb4
     have hS4H := Lib.hid (hS2H.out.below hb24)
     have hrH := Lib.hid hr
     cases r with
     | true =>
      clear hr hb3 hb4 hW3 hb24
      go_wp2_with fail
      go_ret
      exact ⟨false, rfl, hS4H.out.bel, fun _ => hoc.out (hrH.out.1 (by simp)), fun h => by cases h⟩
     | false =>
      have hot4H := Lib.hid (OwnL.call hot2H.out hb24)
      have QP4 := cell_later hb24 qp
      have k1 := hS4H.out.k1
      have hsz4 := Nat.le_trans hsz2 hb24.size
      clear hr hb3 hb4 hW3 hb24
      go_wp2_with fail
      have hnoc : p0 ∉ ap θ py := fun h => by have := hrH.out.2 h; cases this
      obtain ⟨θ', ρ', hst'⟩ := hbd.out hnoc
      have hst'H := Lib.hid hst'
      obtain ⟨w5, n5, hup, hn5, hD5, hg5, -⟩ := (hS4H.out.map.below (w' := w4.drew) (Below.drew (.refl w4.heap.size _)) hS4H.out.map.lt).store (by have := hnH.out; unfold maxLen; omega) p0 rPH.out TQH.out
      have hup2 := hup.out
      clear hst' hnoc
      have hlPi : 0 < px.length := lP
      have hxw := hS4H.out.lt
      have hbw : bp < w4.drew.heap.size := World.block_lt_of_cell? _ _ QP4
      have hBm : bp ≠ mb := by have := hS4H.out.bm; omega
      refine wp_region_held_drew (S := (fun w' => w'.cell? ⟨xb, 1, none⟩ = some (.map (some mb)) ∧ w'.cell? ⟨bp, op, none⟩ = some (.int .i64 p0))) (by kernel_rfl) ⟨k1, QP4⟩ (fun hS => ?_)
      refine rtk 0 116 (v := ?_) hS ?_ ?_; rotate_left; · (intro w9 hS9; go_simp; try (with_reducible rfl))
      refine rtk 1 117 (v := ?_) hS ?_ ?_; rotate_left; · (intro w9 hS9; go_simp; try (with_reducible rfl))
      refine rtk 2 118 (v := ?_) hS ?_ ?_; rotate_left; · (intro w9 hS9; go_simp; try (with_reducible rfl))
      refine rtk 3 119 (v := ?_) hS ?_ ?_; rotate_left; · (intro w9 hS9; go_simp; try (with_reducible rfl))
      refine rtk 4 120 (v := ?_) hS ?_ ?_; rotate_left; · (intro w9 hS9; go_simp; try (with_reducible rfl))
      refine rtk 5 121 (v := ?_) hS ?_ ?_; rotate_left; · (intro w9 hS9; go_simp; try (with_reducible rfl))
      refine rtk 6 122 (v := ?_) hS ?_ ?_; rotate_left; · (intro w9 hS9; go_simp; try (with_reducible rfl))
      refine rtk 7 123 (v := ?_) hS ?_ ?_; rotate_left; · (intro w9 hS9; go_simp; try (with_reducible rfl))
      refine region_call 8 rfl (by kernel_rfl) (fun K hK => ?_)
      go_simp
      refine hK.out _ _ ⟨(World.cell?_of_block (hg5.out.block xb hxw (fun e => hS4H.out.ne (by injection e)))).trans k1, (World.cell?_of_block (hg5.out.block bp hbw (fun e => hBm (by injection e)))).trans QP4⟩ ?_
      clear hS hK
      intro hS
      refine wpAnyH_done (by kernel_rfl) ?_ _
      have hrel : solRel w0 wS xb mb a1 c1 s a b gk' (.slice (some ⟨g, 0, none⟩) L0.length cap) w5 :=
       ⟨_, θ', ρ', n5, L0, hst'H.out, by have := hnH.out; have := hn5.out; omega, (hS4H.out.below (Below.drew (.refl w4.heap.size _))).stored hg5.out hD5.out hN4H.out,
        OwnL.grown (OwnL.call hot4H.out (Below.drew (.refl w4.heap.size _))) hg5.out (fun j e e' => by simp [Value.ownBlock] at e; injection e' with e'; omega) (fun j hj _ e => by have := hS4H.out.bm; have hj' : j < w0.heap.size := hj; injection e with e; omega), Nat.le_trans hsz4 hg5.out.size⟩
      have hrelH := Lib.hid hrel
      clear hrel hS hup2
      go_wp2_with fail
      go_roundg gk'
      case measure => omega
      case rel => exact hrelH.out
    ·have hnx := hN2H.out.args hv hw
     have hP := hN2H.out.hP
     have hQ := hN2H.out.hQ
     have wP := hN2H.out.sP.w
     have wQ := hN2H.out.sQ.w
     rw [hw] at hQ
     obtain ⟨hlP, hms0, hatP⟩ := args_all wP hP
     obtain ⟨hlQ, -, hatQ⟩ := args_all wQ hQ
     obtain ⟨m0, hm0⟩ := Int.eq_ofNat_of_zero_le hv
     have hms : m0 < s.length := by omega
     obtain ⟨bs, os, has, -, -, qs, -, -⟩ := (hS2H.out.sg.below hS2H.out.bel).sym m0 hms
     have har := okSign_ars hokH.out m0 hms
     rw [arW_sym hms har.1] at qs
     have har3 := har.2
     rw [arW_sym hms har.1] at har3
     rw [hm0] at hlP hlQ
     obtain ⟨N, hN⟩ : ∃ N, arW s (m0 : Int) = N := ⟨_, rfl⟩
     rw [hN] at qs har3 hlP hlQ
     have hnxH := Lib.hid (hnx (by omega))
     have hatPH := Lib.hid hatP
     have hatQH := Lib.hid hatQ
     have hlPH := Lib.hid hlP
     have hlQH := Lib.hid hlQ
     have hb : (p0 != q0) = false := by simpa using hw.symm
     have hdv : decide (p0 < 0) = false := by simp; omega
     have hdv2 : ¬ p0 < 0 := by omega
     have k0 := hS2H.out.k0
     rw [has] at k0
     have hasH := Lib.hid has
     have hcpP : px.length ≤ cp := TPH.out.cap
     have hcpQ : py.length ≤ cq := TQH.out.cap
     subst hm0
     clear hcaseH hw hN2H hnx hP hQ wP wQ hms0 har hatP hatQ hlP hlQ hN has
     go_quiet (fail)
     all_goals go_wp2_with fail
     go_quiet (fail)
     all_goals go_wp2_with fail
     go_quiet (fail)
     all_goals go_wp2_with fail
     rename_i nq1 nq2
     obtain ⟨W3, hW3⟩ : ∃ W3, ((W2.drewN nq1).drewN nq2).drewN nq = W3 := ⟨_, rfl⟩
     have hb3 : Below W2.heap.size W2 W3 := by rw [← hW3]; exact (drew_more (Drew.mk2 W2 nq1 nq2) nq).below _
     rw [hW3]
     have hS3H := Lib.hid (hS2H.out.below hb3)
     have ho3H := Lib.hid (OwnL.call hot2H.out hb3)
     have hsz3 := Nat.le_trans hsz2 hb3.size
     have hLn : L0.length + N ≤ 10000000 := by
      have h := hnxH.out.len la lb
      rw [List.length_append, List.length_zip, hlPH.out, hlQH.out, Nat.min_self] at h; exact h
     clear hb3 hW3 hS2H hot2H hsz2 qp qq qs k0
     go_loopw [7, 11, 12, 58] (fun lv iv jv cv wr => inRel w0 wS xb mb n a1 c1 s B L0 px py N lv iv jv cv wr) (fun _ _ _ cv _ => N - (intOf cv).toNat)
     case atStart => exact ⟨0, rfl, Nat.zero_le _, rfl, rfl, by rw [List.take_zero, List.append_nil]; exact ho3H.out, hS3H.out, hsz3⟩
     case round =>
      obtain ⟨m, rfl, hm, rfl, rfl, hor, hSr, hszr⟩ := hrel
      by_cases hmN : m < N
      ·obtain ⟨gP1, gP2, gP3, gP4⟩ := hatPH.out m (by rw [hlPH.out]; exact hmN)
       obtain ⟨gQ1, gQ2, gQ3, gQ4⟩ := hatQH.out m (by rw [hlQH.out]; exact hmN)
       have hzl : ((argsW s px).zip (argsW s py)).length = N := by rw [List.length_zip, hlPH.out, hlQH.out, Nat.min_self]
       have htk : ((argsW s px).zip (argsW s py)).take (m + 1) = ((argsW s px).zip (argsW s py)).take m ++ [((argsW s px)[m]'(by rw [hlPH.out]; exact hmN), (argsW s py)[m]'(by rw [hlQH.out]; exact hmN))] := by
        rw [List.take_succ_eq_append_getElem (by rw [hzl]; exact hmN), List.getElem_zip]
       have cafP := fun W (hb : Below wr.heap.size wr W) => lafter_any a1 (some ⟨bp, op, none⟩) c1 cp s px (apos s px m) _ W (hSr.sg.below (bcall hSr.bel hb)) (TPH.out.below (bcall hSr.bel hb)) hokH.out gP1
       have cafQ := fun W (hb : Below wr.heap.size wr W) => lafter_any a1 (some ⟨bq, oq, none⟩) c1 cq s py (apos s py m) _ W (hSr.sg.below (bcall hSr.bel hb)) (TQH.out.below (bcall hSr.bel hb)) hokH.out gQ1
       rw [drop_len gP3] at cafP
       rw [drop_len gQ3] at cafQ
       obtain ⟨i, hi⟩ : ∃ i, apos s px m = i := ⟨_, rfl⟩
       obtain ⟨i', hi'⟩ : ∃ i, apos s px (m + 1) = i := ⟨_, rfl⟩
       obtain ⟨j, hj⟩ : ∃ i, apos s py m = i := ⟨_, rfl⟩
       obtain ⟨j', hj'⟩ : ∃ i, apos s py (m + 1) = i := ⟨_, rfl⟩
       rw [hi, hi'] at gP2 gP4
       rw [hj, hj'] at gQ2 gQ4
       rw [hi'] at gP3
       rw [hj'] at gQ3
       rw [hi, hi'] at cafP
       rw [hj, hj'] at cafQ
       have pP := Ints.part TPH.out i i' (i' - i) (by omega) gP3 (Nat.le_refl _) (by omega)
       have pQ := Ints.part TQH.out j j' (j' - j) (by omega) gQ3 (Nat.le_refl _) (by omega)
       have eP : ((px.drop i).take (i' - i)).length = i' - i := by simp; omega
       have eQ : ((py.drop j).take (j' - j)).length = j' - j := by simp; omega
       rw [gP4] at pP eP
       rw [gQ4] at pQ eQ
       rw [hi, hj]
       have k0 := hSr.k0
       have hpush := fun W (hb : Below wr.heap.size wr W) => Pr_push (OwnL.call hor hb) (fun b hb' => Nat.lt_of_lt_of_le hb' hz) (Nat.le_trans hszr hb.size) (pP.below (bcall hSr.bel hb)) (pQ.below (bcall hSr.bel hb)) (by rw [List.length_append, List.length_take, hzl]; omega)
       rw [eP, eQ] at hpush
       have hpushH := Lib.hid hpush
       have htkH := Lib.hid htk
       have hi'H := Lib.hid hi'
       have hj'H := Lib.hid hj'
       have hSrH := Lib.hid hSr
       have cafPH := Lib.hid cafP
       have cafQH := Lib.hid cafQ
       have hni : ¬ i' = i := by omega
       have hnj : ¬ j' = j := by omega
       have hii : i ≤ i' := by omega
       have hjj : j ≤ j' := by omega
       have hic : i' ≤ cp := by omega
       have hjc : j' ≤ cq := by omega
       clear hpush htk hi hi' hj hj' hSr cafP cafQ pP pQ eP eQ gP1 gP4 gQ1 gQ4 hor hzl
       go_wp2_with fail
       refine wp_region_held_drew (S := (fun w' => w'.cell? ⟨xb, 0, none⟩ = some (.slice a1 s.length c1) ∧ Below wr.heap.size wr w')) (by kernel_rfl) ⟨k0, Below.drew (.refl _ _)⟩ (fun hS => ?_)
       refine rtk 0 60 (v := ?_) hS ?_ ?_; rotate_left; · (intro w9 hS9; go_simp; try (with_reducible rfl))
       refine rtk 1 61 (v := ?_) hS ?_ ?_; rotate_left; · (intro w9 hS9; go_simp; try (with_reducible rfl))
       refine rtk 2 62 (v := ?_) hS ?_ ?_; rotate_left; · (intro w9 hS9; go_simp; try (with_reducible rfl))
       refine rtk 3 63 (v := ?_) hS ?_ ?_; rotate_left; · (intro w9 hS9; go_simp; try (with_reducible rfl))
       refine rtk 4 64 (v := ?_) hS ?_ ?_; rotate_left; · (intro w9 hS9; go_simp; try (with_reducible rfl))
       refine rtk 5 65 (v := ?_) hS ?_ ?_; rotate_left; · (intro w9 hS9; go_simp; try (with_reducible rfl))
       refine rtk 7 67 (v := ?_) hS ?_ ?_; rotate_left; · (intro w9 hS9; go_simp; try (with_reducible rfl))
       refine rtk 8 68 (v := ?_) hS ?_ ?_; rotate_left; · (intro w9 hS9; go_simp; try (with_reducible rfl))
       refine rtk 9 69 (v := ?_) hS ?_ ?_; rotate_left; · (intro w9 hS9; go_simp; try (with_reducible rfl))
       refine rtk 10 70 (v := ?_) hS ?_ ?_; rotate_left; · (intro w9 hS9; go_simp; try (with_reducible rfl))
       refine rtk 11 71 (v := ?_) hS ?_ ?_; rotate_left; · (intro w9 hS9; go_simp; try (with_reducible rfl))
       refine rtk 12 72 (v := ?_) hS ?_ ?_; rotate_left; · (intro w9 hS9; go_simp; try (with_reducible rfl))
       refine region_call 6 rfl (by kernel_rfl) (fun K hK => ?_)
       go_simp
       (with_reducible refine (cafPH.out _ hS.2).mono ?_)
       rintro e w8 ⟨rfl, hb8⟩
       refine hK.out _ _ ⟨cell_later hb8 hS.1, bcall hS.2 hb8⟩ ?_
       clear hS hK
       intro hS
       refine region_call 13 rfl (by kernel_rfl) (fun K hK => ?_)
       go_simp
       (with_reducible refine (cafQH.out _ hS.2).mono ?_)
       rintro e w8 ⟨rfl, hb8⟩
       refine hK.out _ _ ⟨cell_later hb8 hS.1, bcall hS.2 hb8⟩ ?_
       clear hS hK
       intro hS
       refine rtk 14 13 (v := ?_) hS ?_ ?_; rotate_left; · (intro w9 hS9; go_simp; try (with_reducible rfl))
       refine rtk 15 14 (v := ?_) hS ?_ ?_; rotate_left; · (intro w9 hS9; go_simp; try (with_reducible rfl))
       refine wpAnyH_done (by kernel_rfl) ?_ _
       obtain ⟨-, hb4⟩ := hS
       obtain ⟨v5, w5, hup, ho5, hb5⟩ := hpushH.out w8.drew hb4.drew
       have hup2 := hup.out
       have hS5H := Lib.hid ((hSrH.out.below hb4.drew).keep hb5.out hxS hmS hz)
       have hsz5 := Nat.le_trans (Nat.le_trans hszr hb4.drew.size) hb5.out.size
       clear hb4
       go_wp2_with fail
       refine wp_region_held_drew (S := (fun _ => True)) (by kernel_rfl) trivial (fun hS => ?_)
       refine rtk 0 74 (v := ?_) hS ?_ ?_; rotate_left; · (intro w9 hS9; go_simp; try (with_reducible rfl))
       refine rtk 1 75 (v := ?_) hS ?_ ?_; rotate_left; · (intro w9 hS9; go_simp; try (with_reducible rfl))
       refine rtk 2 76 (v := ?_) hS ?_ ?_; rotate_left; · (intro w9 hS9; go_simp; try (with_reducible rfl))
       refine rtk 3 77 (v := ?_) hS ?_ ?_; rotate_left; · (intro w9 hS9; go_simp; try (with_reducible rfl))
       refine rtk 4 78 (v := ?_) hS ?_ ?_; rotate_left; · (intro w9 hS9; go_simp; try (with_reducible rfl))
       refine rtk 5 79 (v := ?_) hS ?_ ?_; rotate_left; · (intro w9 hS9; go_simp; try (with_reducible rfl))
       refine rtk 6 80 (v := ?_) hS ?_ ?_; rotate_left; · (intro w9 hS9; go_simp; try (with_reducible rfl))
       refine rtk 7 81 (v := ?_) hS ?_ ?_; rotate_left; · (intro w9 hS9; go_simp; try (with_reducible rfl))
       refine rtk 8 82 (v := ?_) hS ?_ ?_; rotate_left; · (intro w9 hS9; go_simp; try (with_reducible rfl))
       refine rtk 9 83 (v := ?_) hS ?_ ?_; rotate_left; · (intro w9 hS9; go_simp; try (with_reducible rfl))
       refine rtk 10 84 (v := ?_) hS ?_ ?_; rotate_left; · (intro w9 hS9; go_simp; try (with_reducible rfl))
       refine rtk 11 85 (v := ?_) hS ?_ ?_; rotate_left; · (intro w9 hS9; go_simp; try (with_reducible rfl))
       refine region_call 12 rfl (by kernel_rfl) (fun K hK => ?_)
       go_simp
       refine hK.out _ _ trivial ?_
       clear hS hK
       intro hS
       refine region_call 13 rfl (by kernel_rfl) (fun K hK => ?_)
       rw [if_pos (by kernel_rfl)]
       refine oper_append_run (vs := u7) (vx := .slice (some ⟨w8.heap.size, 0, none⟩) 1 1) (v' := v5) (w' := w5) (.tmp 74) (.tmp 86) 235 rfl rfl rfl hup2 ?_
       refine hK.out _ _ trivial ?_
       clear hS hK
       intro hS
       refine rtk 14 7 (v := ?_) hS ?_ ?_; rotate_left; · (intro w9 hS9; go_simp; try (with_reducible rfl))
       refine wpAnyH_done (by kernel_rfl) ?_ _
       clear hup2 hS
       go_wp2_with fail
       go_roundw
       case rel => exact ⟨m + 1, by go_num, by omega, by rw [hi'H.out], by rw [hj'H.out], by rw [htkH.out, ← List.append_assoc]; exact ho5.out, hS5H.out, hsz5⟩
       case measure => simp [intOf]; omega
      ·obtain rfl : m = N := by omega
       have hfull : ((argsW s px).zip (argsW s py)).take m = (argsW s px).zip (argsW s py) := List.take_of_length_le (by rw [List.length_zip, hlPH.out, hlQH.out]; omega)
       rw [hfull] at hor
       have hrel : solRel w0 wS xb mb a1 c1 s a b gk' u7 wr := ⟨B, θ, ρ, n, _, hnxH.out, hnH.out, hSr, hor, hszr⟩
       have hrelH := Lib.hid hrel
       clear hrel hor hSr hfull
       go_wp2_with fail
       go_roundg gk'
       case measure => omega
       case rel => exact hrelH.out
    ·have hnx := Lib.hid (hN2H.out.clash hv hw)
     have hb : (p0 != q0) = true := by simpa using hw
     have hdv : decide (p0 < 0) = false := by simp; omega
     clear hcaseH hw hN2H
     go_quiet (fail)
     all_goals go_wp2_with fail
     all_goals go_quiet (fail)
     all_goals go_wp2_with fail
     all_goals go_ret
     all_goals exact ⟨false, rfl, bcall hS2H.out.bel ((Drew.mk2 _ _ _).below _), fun _ => hnx.out, fun h => by cases h⟩
  ·have hL0 : L = [] := by cases L with | nil => rfl | cons _ _ => simp at hL
   subst hL0
   have hfin : solRet w0 xb mb a1 c1 s a b (.returned (.bool true)) wr := ⟨true, rfl, hS.bel, (fun h => by cases h), fun _ => ⟨B, θ, ρ, n, hst.slv, hst.rg, hst.eq.done, hS, hst.infB⟩⟩
   have hfinH := Lib.hid hfin
   subst hv
   clear hst hS ho hfin hsl hL
   go_wp2_with fail
   go_ret
   exact hfinH.out
end Go.Proofs.YtpmnnoopoblpgaaGreat

/- Walks of package unify: solved, apart, Meets, Unifiable. -/
namespace Go.Proofs.YtpmnnoopoblpgaaGreat
open Go Go.RowKit Go.Maps

def apRel (t : List Int) (w : World) (B0 g cap : Nat) (i : Value) (wr : World) : Prop :=
 ∃ k : Nat, i = .int .i64 k ∧ k ≤ t.length ∧ OwnI wr B0 (.slice (some ⟨g, 0, none⟩) t.length cap) (doneTo apN t k) ∧ Below w.heap.size w wr
set_option maxHeartbeats 1000000 in
theorem apart_any {S : Nat → Prop} (a : Option Addr) (c : Nat) (t : List Int) (w : World) (h : Ints S w a c t) (hl : t.length ≤ lim) (hne : t ≠ []) (hr : ∀ x ∈ t, x < 0 → -12 ≤ x) :
  Calls Tryz.prog 234 #[.slice a t.length c] w (retOwn w (apartT t)) := by
 have m := h.le
 have cc := Clone_any a c t w h hl
 have ccH := Lib.hid cc
 have hrH := Lib.hid hr
 clear cc hr
 go_enter Tryz.func234, Tryz.ntmps234
 go_wp2_with fail
 refine ccH.out.mono ?_
 rintro e w1 ⟨v, rfl, ho, hB⟩
 obtain ⟨g, cap, rfl, hg1, hg2⟩ := ho.form hne
 clear ccH
 go_wp2_with fail
 go_loopw [10] (fun i wr => apRel t w w.heap.size g cap i wr) (fun i _ => t.length - (intOf i).toNat)
 case atStart => exact ⟨0, rfl, Nat.zero_le _, by rw [doneTo_zero]; exact ho, hB⟩
 case round =>
  obtain ⟨k, rfl, hk, ho, hB⟩ := hrel
  by_cases hlt : k < t.length
  ·obtain ⟨b, o, rfl, -, q, hrg⟩ := (h.below hB).int k hlt
   have hxr := hrH.out t[k] (List.getElem_mem hlt)
   have hset := doneTo_set hlt (f := apN)
   have hsame := doneTo_same hlt (f := apN)
   have hget := doneTo_get hlt (f := apN)
   obtain ⟨hc1, hf1⟩ := ho.cellInt (by rw [doneTo_length]) k (by rw [doneTo_length]; exact hlt)
   rw [hget] at hc1
   obtain ⟨x, hx⟩ : ∃ x, t[k] = x := ⟨_, rfl⟩
   rw [hx] at q hrg hset hsame hc1 hxr
   clear hget hx
   by_cases h0 : x < 0
   ·have hx12 := hxr h0
    have hap : apN x = x - 12 := by unfold apN; exact if_pos h0
    rw [hap] at hset
    have hsub : IntKind.i64.wrap (x - 12) = x - 12 := IntWalk.i64_in _ (by omega)
    obtain ⟨ho2, hg3⟩ := ho.setInt (by rw [doneTo_length]) k (x - 12) (by unfold inRange; omega)
    rw [hset] at ho2
    have hoH := Lib.hid ho2
    have hBH := Lib.hid (hB.grown hg3 hB.size (fun j e => by cases e; omega))
    clear ho ho2 hset hsame hg3 hap hxr
    go_wp2_with fail
    go_roundw
    case rel => exact ⟨k + 1, by go_num, by omega, hoH.out, hBH.out⟩
    case measure => simp [intOf]; omega
   ·have hs2 := hsame (by unfold apN; exact if_neg h0)
    have hoH := Lib.hid ho
    have hsH := Lib.hid hs2
    clear ho hset hsame hs2 hxr
    go_wp2_with fail
    go_roundw
    case rel => exact ⟨k + 1, by go_num, by omega, by rw [← hsH.out]; exact hoH.out, hB⟩
    case measure => simp [intOf]; omega
  ·rw [doneTo_all _ _ _ (by omega)] at ho
   have hoH := Lib.hid ho
   clear ho
   go_wp2_with fail
   go_ret
   exact ⟨_, rfl, hoH.out, hB⟩

def solvedRet (w : World) (a1 : Option Addr) (c1 : Nat) (s : Sg) (a b : List Int) (e : Ending) (w' : World) : Prop :=
 ∃ xb mb r, e = .returned (.tuple #[.pointer (some ⟨xb, 0, none⟩), .bool r]) ∧ Below w.heap.size w w' ∧ (r = false → ∀ η, Wsub s η → ap η a ≠ ap η b) ∧
  (r = true → ∃ B θ ρ n, Slv s B θ ρ ∧ RgB B ∧ IsMgu s a b θ ∧ SolvW w w' xb mb n a1 c1 s B)
set_option maxHeartbeats 1000000 in
theorem solved_any {S1 S2 S3 : Nat → Prop} (a1 a2 a3 : Option Addr) (c1 c2 c3 : Nat) (s : Sg) (a b : List Int) (w : World) (h1 : Sign S1 w a1 c1 s) (h2 : Ints S2 w a2 c2 a) (h3 : Ints S3 w a3 c3 b) (hok : okSign s = true)
  (ha : W1 s a) (hb : W1 s b) (ra : Rg a) (rb : Rg b) (la : a.length ≤ 1000) (lb : b.length ≤ 1000) :
  Calls Tryz.prog 233 #[.slice a1 s.length c1, .slice a2 a.length c2, .slice a3 b.length c3] w (solvedRet w a1 c1 s a b) := by
 have hmm := @run_makeMap Tryz.prog
 have h1' : Sign (fun b => b < w.heap.size) w a1 c1 s := h1.lt.weak (fun _ h => h.2)
 have h2' : T0 w a2 c2 a := h2.lt.weak (fun _ h => h.2)
 have h3' : T0 w a3 c3 b := h3.lt.weak (fun _ h => h.2)
 have m2 := h2.le
 have m3 := h3.le
 obtain ⟨W, hW⟩ : ∃ W, (w.alloc (.map #[] 0)).alloc (.cells #[.slice a1 s.length c1, .map (some w.heap.size)] 233) = W := ⟨_, rfl⟩
 have hbW : Below w.heap.size w W := by rw [← hW]; exact below2 _ _ _
 have k0 : W.cell? ⟨w.heap.size + 1, 0, none⟩ = some (.slice a1 s.length c1) := by rw [← hW]; clear hW; go_simp
 have k1 : W.cell? ⟨w.heap.size + 1, 1, none⟩ = some (.map (some w.heap.size)) := by rw [← hW]; clear hW; go_simp
 have hmap : BdMap w W w.heap.size 0 (fun _ => none) := by
  rw [← hW]; exact (BdMap.made w w).below (below1 _ _) (by simp)
 have hS : SolvW w W (w.heap.size + 1) w.heap.size 0 a1 c1 s (fun _ => none) := ⟨k0, k1, hmap, Nat.le_succ _, Nat.le_refl _, by omega, h1', hbW, fun _ _ h => by cases h⟩
 have cs := solve_any hok hS h2' h3' ha hb ra rb la lb
 have csH := Lib.hid cs
 have hWH := Lib.hid hW
 clear cs hS hmap k0 k1 hbW hW h1 h2 h3 h1' h2' h3'
 go_enter Tryz.func233, Tryz.ntmps233
 go_wp2_with fail
 rw [hWH.out]
 refine csH.out.mono ?_
 rintro e w1 ⟨r, rfl, hB, hf, ht⟩
 have hBH := Lib.hid hB
 have hfH := Lib.hid hf
 have htH := Lib.hid ht
 clear hB hf ht
 go_wp2_with fail
 go_ret2
 exact ⟨_, _, r, rfl, hBH.out, hfH.out, fun h => by obtain ⟨B, θ, ρ, n, g1, g2, g3, g4, -⟩ := htH.out h; exact ⟨B, θ, ρ, n, g1, g2, ⟨B, ρ, g1, g3⟩, g4⟩⟩
end Go.Proofs.YtpmnnoopoblpgaaGreat

/- Walks of package unify: code, named. -/
namespace Go.Proofs.YtpmnnoopoblpgaaGreat
open Go Go.RowKit Go.Maps

theorem code_any (v : Int) (w : World) (h0 : 0 ≤ v) (h1 : v ≤ 1000000) : Calls Tryz.prog 246 #[.int .i64 v] w fun e w' => e = .returned (.int .i64 (-v - 1)) ∧ w = w' := by
 have e1 : IntKind.i64.wrap (-v) = -v := IntWalk.i64_in _ (by omega)
 have e2 : IntKind.i64.wrap (-v - 1) = -v - 1 := IntWalk.i64_in _ (by omega)
 go_enter Tryz.func246, Tryz.ntmps246
 go_wp2_with fail
 go_ret
 exact ⟨rfl, rfl⟩

def namRel (t : List Int) (w : World) (out i : Value) (wr : World) : Prop :=
 ∃ k : Nat, i = .int .i64 k ∧ k ≤ t.length ∧ IMap Tryz.prog 3 3 wr w.heap.size (varsC (t.take k)).length (nameF t k) ∧ OwnI wr (w.heap.size + 1) out ((t.take k).map (canonW (varsC t))) ∧ Below w.heap.size w wr
theorem nam_push {w : World} {base : Nat} {v : Value} {l : List Int} (ho : OwnI w base v l) (x : Int) (hx : inRange x) (hl : l.length ≤ 10000000) (hb : base ≤ w.heap.size) :
  ∃ v' w', RowKit.Hid ((Builtin.append_ #[26, 26] 26 #[v, .slice (some ⟨w.heap.size, 0, none⟩) 1 1]).run Tryz.prog (w.alloc (.cells #[.int .i64 x] 3)) = .ok v' w') ∧ RowKit.Hid (OwnI w' base v' (l ++ [x])) ∧ RowKit.Hid (w.grownBy w' v.ownBlock) := by
 obtain ⟨v', w', hrun, ho', hg, -⟩ := ho.push (P := Tryz.prog) (t := 26) (ty := 26) Tryz.underlying26 infoInt rfl (vs := [.int .i64 x]) (x := x) ⟨rfl, hx⟩ (by omega) (by unfold big; omega) hb
 exact ⟨v', w', Lib.hid hrun, Lib.hid ho', Lib.hid hg⟩
set_option maxHeartbeats 2000000 in
theorem named_any {S : Nat → Prop} (a : Option Addr) (c : Nat) (t : List Int) (w : World) (h : Ints S w a c t) (hl : t.length ≤ lim) :
  Calls Tryz.prog 241 #[.slice a t.length c] w fun e w' => ∃ v, e = .returned (.tuple #[v, .bool (decide ((varsC t).length ≤ 12))]) ∧ OwnI w' w.heap.size v (canon t) ∧ Below w.heap.size w w' := by
 have m := h.le
 have hmm := @run_makeMap Tryz.prog
 have hlH := Lib.hid hl
 have hl6 : t.length ≤ 1000000 := hl
 go_enter Tryz.func241, Tryz.ntmps241
 go_wp2_with fail
 go_loopw [5, 13] (fun out i wr => namRel t w out i wr) (fun _ i _ => t.length - (intOf i).toNat)
 case atStart => exact ⟨0, rfl, Nat.zero_le _, by rw [nameF_zero]; exact IMap.made w, .nil _ _ _ _ _, below1 _ _⟩
 case round =>
  obtain ⟨k, rfl, hk, hm, ho, hB⟩ := hrel
  have hol : ((t.take k).map (canonW (varsC t))).length ≤ 10000000 := by rw [List.length_map, List.length_take]; omega
  have hmlt := hm.lt
  by_cases hlt : k < t.length
  ·obtain ⟨b, o, rfl, -, q, hrg⟩ := (h.below hB).int k hlt
   have hstep : (t.take (k + 1)).map (canonW (varsC t)) = (t.take k).map (canonW (varsC t)) ++ [canonW (varsC t) t[k]] := by rw [List.take_succ_eq_append_getElem hlt, List.map_append]; rfl
   have hne : ∀ q, u5.ownBlock = some q → w.heap.size < q := fun q hq => by have := (OwnL.lt ho q hq).1; omega
   obtain ⟨x, hx⟩ : ∃ x, t[k] = x := ⟨_, rfl⟩
   rw [hx] at q hrg hstep
   have hxH := Lib.hid hx
   clear hx
   have hkeep : ∀ {W W' : World} {n f}, IMap Tryz.prog 3 3 W w.heap.size n f → W.grownBy W' u5.ownBlock → IMap Tryz.prog 3 3 W' w.heap.size n f := fun hm hg => hm.same (hg.block _ hm.lt (fun e => by have := hne _ e.symm; omega))
   by_cases h0 : 0 ≤ x
   ·obtain ⟨hf1, hf2⟩ := nameF_old hlt (.inl (by rw [hxH.out]; exact h0))
    rw [canonW_pos h0] at hstep
    obtain ⟨v', w', hrun, ho', hg⟩ := nam_push ho x hrg hol (by omega)
    have hrun2 := hrun.out
    have hstH := Lib.hid hstep
    have hmH := Lib.hid (hkeep hm hg.out)
    have hBH := Lib.hid (hB.grown hg.out hB.size (fun j e => by have := hne _ e; omega))
    have hfH := Lib.hid hf1
    have hf2H := Lib.hid hf2
    have hx0 : ¬ x < 0 := by omega
    clear hm ho hf1 hf2 h hg hstep hkeep hne
    go_wp2_with (at_builtin; refine wpList_append_run rfl _ _ _ rfl rfl rfl hrun2 ?_)
    clear hrun2
    go_roundw
    case rel => exact ⟨k + 1, by go_num, by omega, by rw [hfH.out, hf2H.out]; exact hmH.out, by rw [hstH.out]; exact ho'.out, hBH.out⟩
    case measure => simp [intOf]; omega
   ·have hneg : x < 0 := by omega
    have hlook := hm.look_ok (tm := 153) Tryz.underlying153 Tryz.underlying3 Tryz.underlying3 (zInt wr) x hrg
    have hcr := canonW_range (t := t) hrg hl
    by_cases hv : x ∈ varsC (t.take k)
    ·have hval := nameF_canonW hv
     have hlook2 := hm.look (tm := 153) Tryz.underlying153 Tryz.underlying3 Tryz.underlying3 (zInt wr) x hrg
     rw [hval] at hlook hlook2
     simp only [Option.getD_some, Option.isSome_some] at hlook hlook2
     obtain ⟨hf1, hf2⟩ := nameF_old hlt (.inr (by rw [hxH.out]; exact hv))
     obtain ⟨y, hy⟩ : ∃ y, canonW (varsC t) x = y := ⟨_, rfl⟩
     rw [hy] at hlook hlook2 hcr hstep
     obtain ⟨v', w', hrun, ho', hg⟩ := nam_push ho y hcr hol (by omega)
     have hrun2 := hrun.out
     have hstH := Lib.hid hstep
     have hmH := Lib.hid (hkeep hm hg.out)
     have hBH := Lib.hid (hB.grown hg.out hB.size (fun j e => by have := hne _ e; omega))
     have hfH := Lib.hid hf1
     have hf2H := Lib.hid hf2
     clear hm ho hf1 hf2 h hg hstep hkeep hne hval hv hy
     go_wp2_with (at_builtin; refine wpList_append_run rfl _ _ _ rfl rfl rfl hrun2 ?_)
     clear hrun2
     go_roundw
     case rel => exact ⟨k + 1, by go_num, by omega, by rw [hfH.out, hf2H.out]; exact hmH.out, by rw [hstH.out]; exact ho'.out, hBH.out⟩
     case measure => simp [intOf]; omega
    ·obtain ⟨hf1, hf2⟩ := nameF_new hlt (by rw [hxH.out]; exact hneg) (by rw [hxH.out]; exact hv)
     rw [hxH.out] at hf1
     have hnone : nameF t k x = none := by unfold nameF; rw [if_neg hv]
     have hxin : x ∈ varsC (t.take (k + 1)) := by rw [varsC_take_succ hlt, hxH.out, addV, if_pos ⟨hneg, hv⟩]; simp
     have hval := nameF_canonW hxin
     obtain ⟨y, hy⟩ : ∃ y, canonW (varsC t) x = y := ⟨_, rfl⟩
     obtain ⟨n, hn⟩ : ∃ n, (varsC (t.take k)).length = n := ⟨_, rfl⟩
     have hn1 : n ≤ t.length := by have := varsC_length (t.take k); simp at this; omega
     rw [hy] at hval hcr hstep
     rw [hn] at hf1 hf2 hm
     have hyn : y = -(n : Int) - 1 := by
      have h1 := hval
      rw [hf1] at h1
      simp at h1; omega
     rw [hnone] at hlook
     simp only [Option.getD_none, Option.isSome_none] at hlook
     have hlen := hm.len (tm := 153) Tryz.underlying153 3
     obtain ⟨w2, hst, hm2, hg2⟩ := hm.store (tm := 153) Tryz.underlying153 Tryz.underlying3 Tryz.underlying3 (by unfold maxLen; omega) x hrg y hcr hnone
     rw [hyn] at hst
     have hfe : (fun z => if z = x then some y else nameF t k z) = nameF t (k + 1) := by rw [hf1, hyn]
     rw [hfe] at hm2
     have hlook2 := hm2.look (tm := 153) Tryz.underlying153 Tryz.underlying3 Tryz.underlying3 (zInt w2) x hrg
     rw [hval] at hlook2
     simp only [Option.getD_some] at hlook2
     rw [hyn] at hlook2 hstep hcr
     have ho2 := OwnL.grown ho hg2 (fun q hq e => by cases e; have := hne _ hq; omega) (fun b hb _ => hb.elim)
     have hB2 := hB.grown hg2 hB.size (fun j e => by cases e; exact Nat.le_refl _)
     obtain ⟨v', w', hrun, ho', hg⟩ := nam_push ho2 (-(n : Int) - 1) hcr hol (Nat.le_trans (show w.heap.size + 1 ≤ wr.heap.size by omega) hg2.size)
     have hrun2 := hrun.out
     have hcode := fun W => code_any (n : Int) W (by omega) (by omega)
     have hstH := Lib.hid hstep
     have hmH := Lib.hid (hkeep hm2 hg.out)
     have hBH := Lib.hid (hB2.grown hg.out hB2.size (fun j e => by have := hne _ e; omega))
     have hf2H := Lib.hid hf2
     have hcodeH := Lib.hid hcode
     clear hm ho hf1 hf2 h hg hstep hkeep hne hval hv hy hm2 ho2 hB2 hfe hnone hxin hyn hg2 hn hcode
     go_wp2_with (first | (go_at_call 246; refine (hcodeH.out _).mono ?_; rintro e w9 ⟨rfl, rfl⟩) | (at_builtin; refine wpList_append_run rfl _ _ _ rfl rfl rfl hrun2 ?_))
     clear hrun2
     go_roundw
     case rel => exact ⟨k + 1, by go_num, by omega, by rw [hf2H.out]; exact hmH.out, by rw [hstH.out]; exact ho'.out, hBH.out⟩
     case measure => simp [intOf]; omega
  ·have hfull : t.take k = t := List.take_of_length_le (by omega)
   rw [hfull] at hm ho
   have hlen := hm.len (tm := 153) Tryz.underlying153 3
   have hoH := Lib.hid (OwnL.baseMono (base' := w.heap.size) ho (by omega))
   obtain ⟨n, hn⟩ : ∃ n, (varsC t).length = n := ⟨_, rfl⟩
   rw [hn] at hlen
   have hnH := Lib.hid hn
   clear hm ho h hn hfull hmlt hol
   by_cases h12 : n ≤ 12
   ·have h12b : decide ((n : Int) ≤ 12) = true := by simp; omega
    go_wp2_with fail
    go_ret2
    exact ⟨_, by rw [hnH.out, decide_eq_true h12]; rfl, hoH.out, hB⟩
   ·have h12b : decide ((n : Int) ≤ 12) = false := by simp; omega
    go_wp2_with fail
    go_ret2
    exact ⟨_, by rw [hnH.out, decide_eq_false h12]; rfl, hoH.out, hB⟩
end Go.Proofs.YtpmnnoopoblpgaaGreat

/- Walks of package unify: full, made, Meet. -/
namespace Go.Proofs.YtpmnnoopoblpgaaGreat
open Go Go.RowKit Go.Maps

structure FB (K B0 : Nat) (w w' : World) : Prop where
 os : w'.os = w.os
 tape : w'.tape = w.tape
 output : w'.output = w.output
 size : w.heap.size ≤ w'.heap.size
 block : ∀ b, b < K → b ≠ B0 → w'.heap[b]? = w.heap[b]?
section
variable {K B0 : Nat} {w w1 w2 : World}
theorem FB.refl (K B0 : Nat) (w : World) : FB K B0 w w := ⟨rfl, rfl, rfl, Nat.le_refl _, fun _ _ _ => rfl⟩
theorem FB.trans (h : FB K B0 w w1) (k : FB K B0 w1 w2) : FB K B0 w w2 := ⟨k.os.trans h.os, k.tape.trans h.tape, k.output.trans h.output, Nat.le_trans h.size k.size, fun b hb hne => (k.block b hb hne).trans (h.block b hb hne)⟩
theorem FB.below (h : FB K B0 w w1) {C : Nat} (h1 : C ≤ K) (h2 : C ≤ B0) : Below C w w1 := ⟨h.os, h.tape, h.output, h.size, fun b hb => h.block b (by omega) (by omega)⟩
theorem FB.cell (h : FB K B0 w w1) {b off : Nat} {v : Value} (hb : b < K) (hne : b ≠ B0) (hc : w.cell? ⟨b, off, none⟩ = some v) : w1.cell? ⟨b, off, none⟩ = some v := (World.cell?_of_block (w := w) (h.block b hb hne)).trans hc
end
structure FulW (w0 w : World) (xb mb nb : Nat) (a1 : Option Addr) (c1 : Nat) (s : Sg) (B : Bd) (xx wb ob K : Nat) (o : List Int) : Prop where
 S : SolvW w0 w xb mb nb a1 c1 s B
 cx : w.cell? ⟨xx, 0, none⟩ = some (.pointer (some ⟨xb, 0, none⟩))
 cw : w.cell? ⟨wb, 0, none⟩ = some (.func (.func 245) #[] #[.pointer (some ⟨xx, 0, none⟩), .pointer (some ⟨wb, 0, none⟩), .pointer (some ⟨ob, 0, none⟩)])
 lts : xb < K ∧ mb < K ∧ xx < K ∧ wb < K ∧ ob < K
 nes : xb ≠ ob ∧ mb ≠ ob ∧ xx ≠ ob ∧ wb ≠ ob
 low : w0.heap.size ≤ ob
 box : ∃ v, Boxed w ob 26 v ∧ OwnI w K v o
 size : K ≤ w.heap.size
section
variable {w0 w w1 : World} {xb mb nb : Nat} {a1 : Option Addr} {c1 : Nat} {s : Sg} {B : Bd} {xx wb ob K : Nat} {o o' : List Int}
theorem FulW.turn (h : FulW w0 w xb mb nb a1 c1 s B xx wb ob K o) (hf : FB K ob w w1) (hb : ∃ v, Boxed w1 ob 26 v ∧ OwnI w1 K v o') : FulW w0 w1 xb mb nb a1 c1 s B xx wb ob K o' := by
 obtain ⟨l1, l2, l3, l4, l5⟩ := h.lts
 obtain ⟨n1, n2, n3, n4⟩ := h.nes
 have hS := h.S
 refine ⟨⟨hf.cell l1 n1 hS.k0, hf.cell l1 n1 hS.k1, ?_, hS.bx, hS.bm, hS.ne, hS.sg, hS.bel.trans (hf.below (Nat.le_trans h.low (Nat.le_of_lt l5)) h.low), hS.wf⟩, hf.cell l3 n3 h.cx, hf.cell l4 n4 h.cw, h.lts, h.nes, h.low, hb, Nat.le_trans h.size hf.size⟩
 obtain ⟨f, g1, g2, g3⟩ := hS.map
 exact ⟨f, g1.same (hf.block mb l2 n2), g2, g3⟩
theorem FulW.push (h : FulW w0 w xb mb nb a1 c1 s B xx wb ob K o) (x : Int) (hx : inRange x) (hl : o.length ≤ 1000) :
  ∃ v w2 a' cap, RowKit.Hid (w.cell? ⟨ob, 0, none⟩ = some v) ∧ RowKit.Hid ((Builtin.append_ #[26, 26] 26 #[v, .slice (some ⟨w.heap.size, 0, none⟩) 1 1]).run Tryz.prog (w.alloc (.cells #[.int .i64 x] 3)) = .ok (.slice a' (o.length + 1) cap) w2) ∧
   RowKit.Hid (w2.cell? ⟨ob, 0, none⟩ = some v) ∧ RowKit.Hid (w2.frozen? ⟨ob, 0, none⟩ = false) ∧ RowKit.Hid (FB K ob w (w2.setCell ⟨ob, 0, none⟩ (.slice a' (o.length + 1) cap))) ∧
   RowKit.Hid (FulW w0 (w2.setCell ⟨ob, 0, none⟩ (.slice a' (o.length + 1) cap)) xb mb nb a1 c1 s B xx wb ob K (o ++ [x])) ∧ RowKit.Hid ((w2.setCell ⟨ob, 0, none⟩ (.slice a' (o.length + 1) cap)).cell? ⟨ob, 0, none⟩ = some (.slice a' (o.length + 1) cap)) := by
 obtain ⟨v, hv, ho⟩ := h.box
 obtain ⟨v', w2, hrun, ho2, hg, -⟩ := ho.push (P := Tryz.prog) (t := 26) (ty := 26) Tryz.underlying26 infoInt rfl (vs := [.int .i64 x]) (x := x) ⟨rfl, hx⟩ (by omega) (by unfold big; omega) h.size
 obtain ⟨a', cap, rfl, -⟩ := ho2.sl
 rw [List.length_append, List.length_singleton] at hrun ho2
 have l5 := h.lts.2.2.2.2
 have hne : ∀ {u : Value} {W : World} {l}, OwnI W K u l → u.ownBlock ≠ some ob := fun ho e => by have := (OwnL.lt ho _ e).1; omega
 have hv2 : Boxed w2 ob 26 v := hv.kept hg (fun e => hne ho e.symm)
 have hg3 : w2.grownBy (w2.setCell ⟨ob, 0, none⟩ (.slice a' (o.length + 1) cap)) (some ob) := grownBy_setCell' _ _ _
 have ho3 := OwnL.grown ho2 hg3 (fun k hk e => by cases e; exact hne ho2 hk) (fun b hb _ => hb.elim)
 have hv3 : Boxed (w2.setCell ⟨ob, 0, none⟩ (.slice a' (o.length + 1) cap)) ob 26 (.slice a' (o.length + 1) cap) := hv2.set _
 have hB2 : Below K w w2 := (Below.refl K w).grown hg h.size (fun k e => (OwnL.lt ho k e).1)
 have hF : FB K ob w (w2.setCell ⟨ob, 0, none⟩ (.slice a' (o.length + 1) cap)) :=
  ⟨hg3.os.trans hB2.os, hg3.tape.trans hB2.tape, hg3.output.trans hB2.output, Nat.le_trans hB2.size hg3.size, fun b hb hn => (hg3.block b (Nat.lt_of_lt_of_le hb (Nat.le_trans h.size hB2.size)) (fun e => hn (by cases e; rfl))).trans (hB2.block b hb)⟩
 exact ⟨v, w2, a', cap, Lib.hid hv.cell, Lib.hid hrun, Lib.hid hv2.cell, Lib.hid hv2.frozen, Lib.hid hF, Lib.hid (h.turn hF ⟨_, hv3, ho3⟩), Lib.hid hv3.cell⟩
end
def fullRet (w0 : World) (xb mb nb : Nat) (a1 : Option Addr) (c1 : Nat) (s : Sg) (B : Bd) (θ : Int → List Int) (xx wb ob K : Nat) (o t : List Int) (w : World) (e : Ending) (w' : World) : Prop :=
 ∃ r o', e = .returned (.bool r) ∧ FB K ob w w' ∧ FulW w0 w' xb mb nb a1 c1 s B xx wb ob K o' ∧ (r = true → o' = o ++ ap θ t ∧ o'.length ≤ 60) ∧ (r = false → 60 < (o ++ ap θ t).length)
def fullRel (w0 : World) (xb mb nb : Nat) (a1 : Option Addr) (c1 : Nat) (s : Sg) (B : Bd) (θ : Int → List Int) (xx wb ob K : Nat) (o t : List Int) (w : World) (jv : Value) (wr : World) : Prop :=
 ∃ (j : Nat), jv = .int .i64 j ∧ j ≤ t.length ∧ FB K ob w wr ∧ FulW w0 wr xb mb nb a1 c1 s B xx wb ob K (o ++ ap θ (t.take j)) ∧ (o ++ ap θ (t.take j)).length ≤ 60
theorem len_app (a b : List Int) : (a ++ b).length = a.length + b.length := List.length_append
theorem ap_cut {θ : Int → List Int} {t : List Int} {j : Nat} (h : j < t.length) : ap θ (t.take (j + 1)) = ap θ (t.take j) ++ ap θ [t[j]] ∧ (ap θ (t.take j) ++ ap θ [t[j]]).length ≤ (ap θ t).length := by
 have e : ap θ (t.take (j + 1)) = ap θ (t.take j) ++ ap θ [t[j]] := by rw [List.take_succ_eq_append_getElem h, ap_append]
 refine ⟨e, ?_⟩
 rw [← e]
 have : ap θ t = ap θ (t.take (j + 1)) ++ ap θ (t.drop (j + 1)) := by rw [← ap_append, List.take_append_drop]
 rw [this, List.length_append]; omega
set_option maxRecDepth 20000 in
set_option maxHeartbeats 8000000 in
theorem full1_any {w0 : World} {xb mb nb : Nat} {a1 : Option Addr} {c1 : Nat} {s : Sg} {B : Bd} {θ : Int → List Int} {ρ : Int → Nat} (hSl : Slv s B θ ρ) (xx wb ob KK : Nat) :
  ∀ (K : Nat) (t : List Int) (a : Option Addr) (c : Nat) (o : List Int) (w : World), (∀ m ∈ t, m < 0 → ρ m < K) → T0 w0 a c t → FulW w0 w xb mb nb a1 c1 s B xx wb ob KK o → o.length ≤ 60 →
   Calls Tryz.prog 245 #[.slice a t.length c, .pointer (some ⟨xx, 0, none⟩), .pointer (some ⟨wb, 0, none⟩), .pointer (some ⟨ob, 0, none⟩)] w (fullRet w0 xb mb nb a1 c1 s B θ xx wb ob KK o t w) := by
 intro K
 induction K using Nat.strongRecOn with
 | _ K ih =>
  intro t a c o w hK hT hF ho60
  have ihH := Lib.hid ih
  have hKH := Lib.hid hK
  have hTH := Lib.hid hT
  have hFH := Lib.hid hF
  have hoH := Lib.hid ho60
  have m2 := hT.le
  clear ih hK hT hF ho60
  go_enter Tryz.func245, Tryz.ntmps245
  go_wp2_with fail
  go_loopw [12] (fun jv wr => fullRel w0 xb mb nb a1 c1 s B θ xx wb ob KK o t w jv wr) (fun jv _ => t.length - (intOf jv).toNat)
  case atStart => exact ⟨0, rfl, Nat.zero_le _, .refl _ _ _, by rw [List.take_zero, ap_nil, List.append_nil]; exact hFH.out, by rw [List.take_zero, ap_nil, List.append_nil]; exact hoH.out⟩
  case round =>
   obtain ⟨j, rfl, hj, hf, hW, h60⟩ := hrel
   by_cases hlt : j < t.length
   ·obtain ⟨b, off, rfl, -, q, hr⟩ := (hTH.out.below hW.S.bel).int j hlt
    obtain ⟨hcut, hcl⟩ := ap_cut (θ := θ) hlt
    have hKx := hKH.out t[j] (List.getElem_mem hlt)
    obtain ⟨x, hx⟩ : ∃ x, t[j] = x := ⟨_, rfl⟩
    rw [hx] at q hr hcut hcl hKx
    obtain ⟨oj, hoj⟩ : ∃ u, o ++ ap θ (t.take j) = u := ⟨_, rfl⟩
    have hcut2 : o ++ ap θ (t.take (j + 1)) = oj ++ ap θ [x] := by rw [hcut, ← List.append_assoc, hoj]
    have hcl2 : (oj ++ ap θ [x]).length ≤ (o ++ ap θ t).length := by rw [← hoj, List.append_assoc, len_app o, len_app o]; omega
    rw [hoj] at hW h60
    have k1 := hW.S.k1
    have cx := hW.cx
    have cw := hW.cw
    have hfH := Lib.hid hf
    have hWH := Lib.hid hW
    have hc2H := Lib.hid hcut2
    have hl2H := Lib.hid hcl2
    have h60H := Lib.hid h60
    clear hf hW hcut hcl hcut2 hcl2 hoj hx h60
    cases hB : B x with
    | some u =>
     have hwf := hSl.wf x u hB
     have hx0 := hwf.2
     obtain ⟨a3, c3, hlk, hI3⟩ := hWH.out.S.map.look_some x hr hB
     have cu := ihH.out (ρ x) (hKx hx0) u a3 c3 oj wr (fun m hm h0 => hSl.rk x u hB m hm h0) hI3 hWH.out h60H.out
     have hth : ap θ [x] = ap θ u := by rw [ap_one hx0, hSl.bnd x u hB]
     have hthH := Lib.hid hth
     have cuH := Lib.hid cu
     clear hth cu hI3 hwf hB hKx
     go_wp2_with fail
     (with_reducible refine cuH.out.mono ?_)
     rintro e w3 ⟨r, o', rfl, hf3, hW3, ht3, hn3⟩
     cases r with
     | true =>
      obtain ⟨e3, l3⟩ := ht3 rfl
      have heq : o' = o ++ ap θ (t.take (j + 1)) := by rw [hc2H.out, hthH.out]; exact e3
      rw [heq] at hW3 l3
      have hW3H := Lib.hid hW3
      have hf3H := Lib.hid (hfH.out.trans hf3)
      have l3H := Lib.hid l3
      clear hf3 hW3 ht3 hn3 heq e3 l3 cx cw k1
      go_wp2_with fail
      go_roundw
      case rel => exact ⟨j + 1, by go_num, by omega, hf3H.out, hW3H.out, l3H.out⟩
      case measure => simp [intOf]; omega
     | false =>
      have hn := hn3 rfl
      have hlong : 60 < (o ++ ap θ t).length := by have := hl2H.out; rw [hthH.out] at this; omega
      have hW3H := Lib.hid hW3
      have hf3H := Lib.hid (hfH.out.trans hf3)
      have hlH := Lib.hid hlong
      clear hf3 hW3 ht3 hn3 hn hlong cx cw k1
      go_wp2_with fail
      go_ret
      exact ⟨false, _, rfl, hf3H.out, hW3H.out, (fun h => by cases h), fun _ => hlH.out⟩
    | none =>
     have hlk := hWH.out.S.map.look_none x hr hB
     have hth : ap θ [x] = [x] := by
      by_cases h0 : x < 0
      ·rw [ap_one h0, hSl.free x h0 hB]
      ·rw [ap_pos h0, ap_nil]
     obtain ⟨v, w2, a', cap, cv, hrun, cv2, hfz, hF2, hW2, cv3⟩ := hWH.out.push x hr (by have := h60H.out; omega)
     have cvo := cv.out
     have hruno := hrun.out
     have cv2o := cv2.out
     have hfzo := hfz.out
     have cv3o := cv3.out
     have heq : oj ++ [x] = o ++ ap θ (t.take (j + 1)) := by rw [hc2H.out, hth]
     have hW2' := hW2.out
     rw [heq] at hW2'
     have hlen : oj.length + 1 = (o ++ ap θ (t.take (j + 1))).length := by rw [← heq, List.length_append, List.length_singleton]
     have hll := hl2H.out
     rw [hth, List.length_append, List.length_singleton] at hll
     have hW2H := Lib.hid hW2'
     have hF2H := Lib.hid (hfH.out.trans hF2.out)
     have hlenH := Lib.hid hlen
     have hllH := Lib.hid hll
     clear hth hB hKx hW2 hF2 heq hW2' hlen hll cv hrun cv2 hfz cv3 cw
     obtain ⟨L, hL⟩ : ∃ L, oj.length = L := ⟨_, rfl⟩
     rw [hL] at hruno cv3o
     have hLH := Lib.hid hL
     by_cases h61 : L + 1 ≤ 60
     ·have hd : decide ((60 : Int) < ((L + 1 : Nat) : Int)) = false := by simp; omega
      have hres : fullRel w0 xb mb nb a1 c1 s B θ xx wb ob KK o t w (.int .i64 ((j + 1 : Nat) : Int)) (w2.setCell ⟨ob, 0, none⟩ (.slice a' (L + 1) cap)) := ⟨j + 1, rfl, by omega, by rw [← hL]; exact hF2H.out, by rw [← hL]; exact hW2H.out, by rw [← hlenH.out, hL]; exact h61⟩
      have hresH := Lib.hid hres
      clear hres hL
      go_wp2_with (at_builtin; refine wpList_append_run rfl _ _ _ rfl rfl rfl hruno ?_)
      all_goals
       go_roundw
       case rel => exact hresH.out
       case measure => simp [intOf]; omega
     ·have hd : decide ((60 : Int) < ((L + 1 : Nat) : Int)) = true := by simp; omega
      have hW2K := Lib.hid (show FulW w0 (w2.setCell ⟨ob, 0, none⟩ (.slice a' (L + 1) cap)) xb mb nb a1 c1 s B xx wb ob KK (o ++ ap θ (t.take (j + 1))) by rw [← hL]; exact hW2H.out)
      have hF2K := Lib.hid (show FB KK ob w (w2.setCell ⟨ob, 0, none⟩ (.slice a' (L + 1) cap)) by rw [← hL]; exact hF2H.out)
      have hlK := Lib.hid (show 60 < (o ++ ap θ t).length by have := hllH.out; omega)
      clear hL
      go_wp2_with (at_builtin; refine wpList_append_run rfl _ _ _ rfl rfl rfl hruno ?_)
      all_goals
       go_ret
       exact ⟨false, _, rfl, hF2K.out, hW2K.out, (fun h => by cases h), fun _ => hlK.out⟩
   ·obtain rfl : j = t.length := by omega
    rw [List.take_length] at hW h60
    have hWH := Lib.hid hW
    have h60H := Lib.hid h60
    have hfH := Lib.hid hf
    clear hW h60 hf
    go_wp2_with fail
    go_ret
    exact ⟨true, _, rfl, hfH.out, hWH.out, fun _ => ⟨rfl, h60H.out⟩, fun h => by cases h⟩
end Go.Proofs.YtpmnnoopoblpgaaGreat

/- Walks of package unify: full, made, Meet. -/
namespace Go.Proofs.YtpmnnoopoblpgaaGreat
open Go Go.RowKit Go.Maps

theorem fulW_made {w0 w W : World} {xb mb nb : Nat} {a1 : Option Addr} {c1 : Nat} {s : Sg} {B : Bd} (hS : SolvW w0 w xb mb nb a1 c1 s B) (t1 t3 : TypeId)
  (hW : ((w.alloc (.cells #[.pointer (some ⟨xb, 0, none⟩)] t1)).alloc (.cells #[.slice none 0 0] 26)).alloc (.cells #[.func (.func 245) #[] #[.pointer (some ⟨w.heap.size, 0, none⟩), .pointer (some ⟨w.heap.size + 1 + 1, 0, none⟩), .pointer (some ⟨w.heap.size + 1, 0, none⟩)]] t3) = W) :
  FulW w0 W xb mb nb a1 c1 s B w.heap.size (w.heap.size + 1 + 1) (w.heap.size + 1) (w.heap.size + 1 + 1 + 1) [] ∧ Below w.heap.size w W := by
 have hb : Below w.heap.size w W := by rw [← hW]; exact below3 _ _ _ _
 have e1 : W.cell? ⟨w.heap.size, 0, none⟩ = some (.pointer (some ⟨xb, 0, none⟩)) := by rw [← hW]; clear hW; go_simp
 have e2 : W.cell? ⟨w.heap.size + 1 + 1, 0, none⟩ = some (.func (.func 245) #[] #[.pointer (some ⟨w.heap.size, 0, none⟩), .pointer (some ⟨w.heap.size + 1 + 1, 0, none⟩), .pointer (some ⟨w.heap.size + 1, 0, none⟩)]) := by rw [← hW]; clear hW; go_simp
 have hv : Boxed W (w.heap.size + 1) 26 (.slice none 0 0) := by
  rw [← hW]
  have := (Boxed.new (w.alloc (.cells #[.pointer (some ⟨xb, 0, none⟩)] t1)) 26 (.slice none 0 0)).alloc (.cells #[.func (.func 245) #[] #[.pointer (some ⟨w.heap.size, 0, none⟩), .pointer (some ⟨w.heap.size + 1 + 1, 0, none⟩), .pointer (some ⟨w.heap.size + 1, 0, none⟩)]] t3)
  rw [World.size_alloc] at this
  exact this
 have hx := hS.lt
 have hm := hS.map.lt
 have hz := hS.bel.size
 have hsz : W.heap.size = w.heap.size + 1 + 1 + 1 := by rw [← hW]; simp
 exact ⟨⟨hS.below hb, e1, e2, ⟨by omega, by omega, by omega, by omega, by omega⟩, ⟨by omega, by omega, by omega, by omega⟩, by omega, ⟨_, hv, .nil _ _ _ _ _⟩, by omega⟩, hb⟩
set_option maxRecDepth 20000 in
set_option maxHeartbeats 4000000 in
theorem full_any {w0 w : World} {xb mb nb : Nat} {a1 : Option Addr} {c1 : Nat} {s : Sg} {B : Bd} {θ : Int → List Int} {ρ : Int → Nat} (hS : SolvW w0 w xb mb nb a1 c1 s B) (hSl : Slv s B θ ρ) {a : Option Addr} {c : Nat} {t : List Int} (ht : T0 w0 a c t) :
  Calls Tryz.prog 240 #[.pointer (some ⟨xb, 0, none⟩), .slice a t.length c] w fun e w' => ∃ v r o', e = .returned (.tuple #[v, .bool r]) ∧ OwnI w' w.heap.size v o' ∧ Below w.heap.size w w' ∧ (r = true → o' = ap θ t ∧ o'.length ≤ 60) ∧ (r = false → 60 < (ap θ t).length) := by
 obtain ⟨K, hK⟩ := rank_bound ρ t
 have hSH := Lib.hid hS
 have m2 := ht.le
 have key := fun xx wb ob KK W => full1_any (w0 := w0) (xb := xb) (mb := mb) (nb := nb) (a1 := a1) (c1 := c1) hSl xx wb ob KK K t a c [] W hK ht
 have keyH := Lib.hid key
 clear key hS
 go_enter Tryz.func240, Tryz.ntmps240
 go_wp2_with fail
 obtain ⟨hF, hB⟩ := fulW_made hSH.out _ _ rfl
 (with_reducible refine (keyH.out _ _ _ _ _ hF (by decide)).mono ?_)
 rintro e w3 ⟨r, o', rfl, hf3, hW3, ht3, hn3⟩
 rw [List.nil_append] at hn3
 simp only [List.nil_append] at ht3
 obtain ⟨v, hv, ho⟩ := hW3.box
 have hcv := hv.cell
 have hoH := Lib.hid (OwnL.baseMono (base' := w.heap.size) ho (by omega))
 have hBH := Lib.hid (hB.trans (hf3.below (C := w.heap.size) (by omega) (by omega)))
 have htH := Lib.hid ht3
 have hnH := Lib.hid hn3
 clear hF hB hf3 hW3 ht3 hn3 hv ho
 go_wp2_with fail
 go_ret2
 exact ⟨v, r, o', rfl, hoH.out, hBH.out, htH.out, hnH.out⟩
set_option maxHeartbeats 2000000 in
theorem made_any {w0 w : World} {xb mb nb : Nat} {a1 : Option Addr} {c1 : Nat} {s : Sg} {B : Bd} {θ : Int → List Int} {ρ : Int → Nat} (hS : SolvW w0 w xb mb nb a1 c1 s B) (hSl : Slv s B θ ρ) {a : Option Addr} {c : Nat} {t : List Int} (ht : T0 w0 a c t) :
  Calls Tryz.prog 235 #[.pointer (some ⟨xb, 0, none⟩), .slice a t.length c] w (retE (madeE θ t) w) := by
 have m2 := ht.le
 have cf := full_any hS hSl ht
 have cfH := Lib.hid cf
 clear cf hS hSl ht
 go_enter Tryz.func235, Tryz.ntmps235
 go_wp2_with fail
 refine cfH.out.mono ?_
 rintro e w1 ⟨v, r, o, rfl, ho, hb1, ht, hn⟩
 clear cfH
 cases r with
 | false =>
  have hl := hn rfl
  have hm : madeE θ t = ([], 4) := by unfold madeE; exact if_neg (fun h => by omega)
  have hmH := Lib.hid hm
  clear ht hn ho hl hm
  go_wp2_with fail
  go_ret2
  exact ⟨_, by rw [hmH.out]; rfl, by rw [hmH.out]; exact .nil _ _ _ _ _, hb1⟩
 | true =>
  obtain ⟨he, h60⟩ := ht rfl
  obtain ⟨a4, c4, rfl, hI⟩ := OwnI.ints ho
  have cn := named_any a4 c4 _ _ hI (by unfold lim; omega)
  have cnH := Lib.hid cn
  have hm : madeE θ t = if (varsC o).length ≤ 12 then (canon o, 0) else ([], 4) := by
   unfold madeE
   rw [← he]
   by_cases h12 : (varsC o).length ≤ 12
   ·rw [if_pos h12, if_pos ⟨h60, h12⟩]
   ·rw [if_neg h12, if_neg (fun h => h12 h.2)]
  have hml := hI.le
  clear ht hn ho h60 hI cn he
  by_cases h12 : (varsC o).length ≤ 12
  ·rw [if_pos h12] at hm
   have hmH := Lib.hid hm
   clear hm
   have hd : decide ((varsC o).length ≤ 12) = true := by simpa using h12
   rw [hd] at cnH
   clear hd h12
   go_wp2_with fail
   refine cnH.out.mono ?_
   rintro e w2 ⟨v, rfl, ho, hb2⟩
   obtain ⟨a5, c5, rfl, hI5⟩ := OwnI.ints ho
   have hoH := Lib.hid (OwnL.baseMono (base' := w.heap.size) ho hb1.size)
   clear ho hI5 cnH
   go_wp2_with fail
   go_ret2
   exact ⟨_, by rw [hmH.out]; rfl, by rw [hmH.out]; exact hoH.out, bcall hb1 hb2⟩
  ·rw [if_neg h12] at hm
   have hmH := Lib.hid hm
   clear hm
   have hd : decide ((varsC o).length ≤ 12) = false := by simpa using h12
   rw [hd] at cnH
   clear hd h12
   go_wp2_with fail
   refine cnH.out.mono ?_
   rintro e w2 ⟨v, rfl, ho, hb2⟩
   clear ho cnH
   go_wp2_with fail
   go_ret2
   exact ⟨_, by rw [hmH.out]; rfl, by rw [hmH.out]; exact .nil _ _ _ _ _, bcall hb1 hb2⟩
theorem retE.below {r : List Int × Int} {w w1 : World} {e : Ending} {w' : World} (h : retE r w1 e w') (hb : Below w.heap.size w w1) : retE r w e w' := by
 obtain ⟨v, h1, h2, h3⟩ := h
 exact ⟨v, h1, OwnL.baseMono h2 hb.size, bcall hb h3⟩
end Go.Proofs.YtpmnnoopoblpgaaGreat
