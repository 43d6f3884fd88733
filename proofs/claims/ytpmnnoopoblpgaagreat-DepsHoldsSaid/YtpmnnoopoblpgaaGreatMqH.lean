/- The proof of a statement, some of its texts joined in build order: part H. -/
import Derived.Test.YtpmnnoopoblpgaaGreatRegS
import Derived.Test.YtpmnnoopoblpgaaGreatMqC
import Derived.Lib.SliceRun
import Derived.Test.YtpmnnoopoblpgaaGreatMqE
import Derived.Test.YtpmnnoopoblpgaaGreatMqP
/- The least by name among those of a kind, come to step by step. No program is named. -/
namespace Go.Proofs.YtpmnnoopoblpgaaGreat

inductive LstR (l : List Ent) (p : Nat → Bool) (k : Nat) : Int → Prop
 | no : (∀ j, j < k → p j = false) → LstR l p k (-1)
 | yes (q : Nat) : q < k → p q = true → (∀ j, j < k → p j = true → ¬ ltN (nmI l j) (nmI l q)) → LstR l p k (q : Int)
section
variable {l : List Ent} {p : Nat → Bool} {k q : Nat}
theorem LstR.start : LstR l p 0 (-1) := .no fun j hj => by omega
theorem LstR.skip {v : Int} (h : LstR l p k v) (hp : p k = false) : LstR l p (k + 1) v := by
 have hl : ∀ j, j < k + 1 → j < k ∨ j = k := fun j hj => by omega
 cases h with
 | no h => exact .no fun j hj => (hl j hj).elim (h j) (fun e => by rw [e]; exact hp)
 | yes q h1 h2 h3 =>
  refine .yes q (by omega) h2 fun j hj hpj => (hl j hj).elim (fun h => h3 j h hpj) (fun e => ?_)
  rw [e, hp] at hpj; cases hpj
theorem LstR.first (h : LstR l p k (-1)) (hp : p k = true) : LstR l p (k + 1) (k : Int) := by
 generalize hv : (-1 : Int) = v at h
 cases h with
 | no h =>
  refine .yes k (by omega) hp fun j hj hpj => ?_
  rcases Nat.lt_or_ge j k with e | e
  ·rw [h j e] at hpj; cases hpj
  ·have : j = k := by omega
   rw [this]; exact ltN_irr _
 | yes q _ _ _ => omega
theorem LstR.open (h : LstR l p k (q : Int)) : q < k ∧ p q = true ∧ ∀ j, j < k → p j = true → ¬ ltN (nmI l j) (nmI l q) := by
 generalize hv : (q : Int) = v at h
 cases h with
 | no h => omega
 | yes q' h1 h2 h3 =>
  have : q = q' := by omega
  subst this
  exact ⟨h1, h2, h3⟩
theorem LstR.less (h : LstR l p k (q : Int)) (hp : p k = true) (hl : ltB (nmI l k) (nmI l q) = true) : LstR l p (k + 1) (k : Int) := by
 obtain ⟨h1, h2, h3⟩ := h.open
 refine .yes k (by omega) hp fun j hj hpj hlt => ?_
 rcases Nat.lt_or_ge j k with e | e
 ·exact h3 j e hpj (ltN_tr _ _ _ hlt (ltB_iff.1 hl))
 ·have : j = k := by omega
  rw [this] at hlt; exact ltN_irr _ hlt
theorem LstR.keep (h : LstR l p k (q : Int)) (hl : ltB (nmI l k) (nmI l q) = false) : LstR l p (k + 1) (q : Int) := by
 obtain ⟨h1, h2, h3⟩ := h.open
 refine .yes q (by omega) h2 fun j hj hpj hlt => ?_
 rcases Nat.lt_or_ge j k with e | e
 ·exact h3 j e hpj hlt
 ·have : j = k := by omega
  rw [this] at hlt
  rw [ltB_iff.2 hlt] at hl; cases hl
theorem LstR.cases {v : Int} (h : LstR l p k v) : v = -1 ∨ ∃ q : Nat, v = (q : Int) ∧ q < k := by
 cases h with
 | no _ => exact .inl rfl
 | yes q h1 _ _ => exact .inr ⟨q, rfl, h1⟩
end
def ShR (l : List Ent) (sh : List Bool) (i n : Nat) : Prop := sh.length = l.length ∧ ∀ k, k < n → k < l.length → sh.getD k false = !ltB (nmI l i) (nmI l k)
theorem ShR.step {l : List Ent} {sh : List Bool} {i n : Nat} (h : ShR l sh i n) (hn : n < l.length) : ShR l (sh.set n (!ltB (nmI l i) (nmI l n))) i (n + 1) := by
 refine ⟨by rw [List.length_set]; exact h.1, fun k hk hkl => ?_⟩
 by_cases e : k = n
 ·subst e; rw [List.getD_eq_getElem?_getD, List.getElem?_set_self (by rw [h.1]; exact hkl)]; rfl
 ·rw [List.getD_eq_getElem?_getD, List.getElem?_set_ne (fun e' => e e'.symm), ← List.getD_eq_getElem?_getD]; exact h.2 k (by omega) hkl
theorem nm_in {l : List Ent} {x : ByteArray} (h : x ∈ l.map eNm) : ∃ k, k < l.length ∧ nmI l k = x := by
 obtain ⟨y, hy, rfl⟩ := List.mem_map.1 h
 obtain ⟨k, hk, rfl⟩ := List.getElem_of_mem hy
 exact ⟨k, hk, nmI_at hk⟩
theorem loop_none {l : List Ent} (h : LstR l (fun k => loopB l (nmI l k)) l.length (-1)) : CircR l none := by
 generalize hv : (-1 : Int) = v at h
 cases h with
 | no h => intro x hx; obtain ⟨k, hk, rfl⟩ := nm_in hx; exact h k hk
 | yes q _ _ _ => omega
theorem loop_first {l : List Ent} {f : Nat} (h : LstR l (fun k => loopB l (nmI l k)) l.length (f : Int)) : f < l.length ∧ nmI l f ∈ l.map eNm ∧ loopB l (nmI l f) = true ∧ ∀ x ∈ l.map eNm, ltN x (nmI l f) → loopB l x = false := by
 obtain ⟨h1, h2, h3⟩ := h.open
 refine ⟨h1, by rw [nmI_at h1]; exact List.mem_map.2 ⟨_, List.getElem_mem h1, rfl⟩, h2, fun x hx hlt => ?_⟩
 obtain ⟨k, hk, rfl⟩ := nm_in hx
 cases e : loopB l (nmI l k) with
 | false => rfl
 | true => exact (h3 k hk e hlt).elim
def ShO (l : List Ent) (sh : List Bool) (first : ByteArray) (out : List ByteArray) : Prop := sh.length = l.length ∧ ∀ k, k < l.length → sh.getD k false = !(ltB first (nmI l k) && !memB out (nmI l k))
theorem ShR.begin {l : List Ent} {sh : List Bool} {f : Nat} (h : ShR l sh f l.length) : ShO l sh (nmI l f) [nmI l f] := by
 refine ⟨h.1, fun k hk => ?_⟩
 rw [h.2 k hk hk]
 cases e : ltB (nmI l f) (nmI l k) with
 | false => rfl
 | true =>
  have : memB [nmI l f] (nmI l k) = false := by
   unfold memB
   simp only [List.any_cons, List.any_nil, Bool.or_false, decide_eq_false_iff_not]
   intro e'
   rw [e'] at e; exact ltN_irr _ (ltB_iff.1 e)
  rw [this]; rfl
theorem ShO.next {l : List Ent} {sh : List Bool} {first : ByteArray} {out : List ByteArray} (hd : (l.map eNm).Nodup) (h : ShO l sh first out) {q : Nat} (hq : q < l.length) : ShO l (sh.set q true) first (out ++ [nmI l q]) := by
 refine ⟨by rw [List.length_set]; exact h.1, fun k hk => ?_⟩
 have hm : memB (out ++ [nmI l q]) (nmI l k) = (memB out (nmI l k) || decide (nmI l q = nmI l k)) := by unfold memB; rw [List.any_append]; simp
 by_cases e : k = q
 ·subst e
  rw [List.getD_eq_getElem?_getD, List.getElem?_set_self (by rw [h.1]; exact hk), hm]
  simp
 ·rw [List.getD_eq_getElem?_getD, List.getElem?_set_ne (fun e' => e e'.symm), ← List.getD_eq_getElem?_getD, h.2 k hk, hm]
  have : decide (nmI l q = nmI l k) = false := decide_eq_false fun e' => e (by
   have h1 := atN_nmI hd hq
   have h2 := atN_nmI hd hk
   rw [e'] at h1
   rw [h1] at h2
   injection h2 with h2; exact h2.symm)
  rw [this, Bool.or_false]
theorem next_step {l : List Ent} (hd : (l.map eNm).Nodup) {first : ByteArray} {out : List ByteArray} {at_ q : Nat} (hat : at_ < l.length) (hC : CiOn l first (nmI l at_) out) (hno : first ∉ usesN l (nmI l at_))
  (h : LstR l (fun k => memB (usI l at_) (nmI l k) && candB l first out (nmI l k)) l.length (q : Int)) : q < l.length ∧ CiOn l first (nmI l q) (out ++ [nmI l q]) := by
 obtain ⟨h1, h2, h3⟩ := h.open
 rw [Bool.and_eq_true] at h2
 have hu := usesN_nmI hd hat
 refine ⟨h1, hC.step hno (by rw [hu]; exact memB_iff.1 h2.1) h2.2 fun u hu2 hc => ?_⟩
 have hin := cand_in hc
 cases hx : atN l u with
 | none => rw [hx] at hin; cases hin
 | some k =>
  obtain ⟨hk, rfl⟩ := nmI_of hx
  rcases ltN_tri (nmI l k) (nmI l q) with e | e | e
  ·exact (h3 k hk (by rw [Bool.and_eq_true]; exact ⟨memB_iff.2 (by rw [← hu]; exact hu2), hc⟩) e).elim
  ·exact .inl e
  ·exact .inr e
theorem next_some {l : List Ent} (hd : (l.map eNm).Nodup) {first : ByteArray} {out : List ByteArray} {at_ : Nat} (hat : at_ < l.length) (hC : CiOn l first (nmI l at_) out) (hno : first ∉ usesN l (nmI l at_))
  (h : LstR l (fun k => memB (usI l at_) (nmI l k) && candB l first out (nmI l k)) l.length (-1)) : False := by
 obtain ⟨u, hu, hc⟩ := cand_ex hC.rch hno
 have hin := cand_in hc
 generalize hv : (-1 : Int) = v at h
 cases h with
 | yes q _ _ _ => omega
 | no h =>
  cases hx : atN l u with
  | none => rw [hx] at hin; cases hin
  | some k =>
   obtain ⟨hk, rfl⟩ := nmI_of hx
   have := h k hk
   rw [hc, Bool.and_true, memB_iff.2 (by rw [← usesN_nmI hd hat]; exact hu)] at this
   cases this
end Go.Proofs.YtpmnnoopoblpgaaGreat

/- Walks: whole, Sound. -/
namespace Go.Proofs.YtpmnnoopoblpgaaGreat
open Go Go.RowKit Go.Maps Go.Shelf

open Classical in
noncomputable def noneB (f : ByteArray → Bool) : Bool := decide (∀ x, f x = false)
theorem SMap.none {w : World} {b M n : Nat} {f : ByteArray → Bool} (h : SSet w b M n f) : (((n : Nat) : Int) == 0) = noneB f := by
 obtain ⟨D, ho, ht, hs, hf⟩ := h
 obtain ⟨hnd, hmem⟩ := strKeys_set ho (string_keyed Tryz.underlying9) Tryz.underlying9
 obtain ⟨es, rfl, _⟩ := ht
 rw [Bool.eq_iff_iff, beq_iff_eq]
 unfold noneB
 simp only [decide_eq_true_eq]
 have hlen : (strKeys (.map es : DataW Unit)).length = n := by rw [← hs]; simp [strKeys, Maps.size]
 constructor
 ·intro e x
  have : strKeys (.map es : DataW Unit) = [] := List.length_eq_zero_iff.1 (by omega)
  cases hx : f x with
  | false => rfl
  | true =>
   rw [← (hf x).1] at hx
   have := (hmem _).2 hx
   simp_all
 ·intro hall
  cases hk : strKeys (.map es : DataW Unit) with
  | nil => rw [hk] at hlen; simp at hlen; omega
  | cons y r =>
   have h1 := (hmem y).1 (by rw [hk]; simp)
   have h2 := (hf (nmOf y)).1
   have h3 : (nmOf y).data.toList = y := bs_nmOf y
   rw [h3, hall] at h2
   rw [h1] at h2
   cases h2
def CircNil (xb : Nat) (b : Bool) (w : World) : Prop := ∀ W, Below w.heap.size w W → Calls Tryz.prog 114 #[.pointer (some ⟨xb, 0, none⟩)] W fun e w' => ∃ a n c, e = .returned (.slice a n c) ∧ a.isNone = b ∧ Below W.heap.size W w'
theorem circNil_no {B xb : Nat} {w : World} {s : Sg} {l : List Ent} (h : DLib B w xb s l) (hno : noLoop l) : CircNil xb true w := fun _ hb =>
 (circleNo_any (h.call hb) hno).mono fun _ _ ⟨h1, h2⟩ => ⟨none, 0, 0, h1, rfl, h2⟩
set_option maxHeartbeats 1000000 in
theorem whole_any {B xb : Nat} {w : World} {s : Sg} {l : List Ent} {b : Bool} (h : DLib B w xb s l) (hc : CircNil xb b w) : Calls Tryz.prog 92 #[.pointer (some ⟨xb, 0, none⟩)] w fun e w' => e = .returned (.bool (noneB (misB l) && b)) ∧ Below w.heap.size w w' := by
 have vm := Lib.hid (missing_any h)
 have hcH := Lib.hid hc
 clear h hc
 go_enter Tryz.func92, Tryz.ntmps92
 go_wp2_with fail
 refine vm.out.mono ?_
 rintro e w1 ⟨ob, M, m, rfl, -, -, -, h4, h5⟩
 have hlen := h4.len (tm := 88) Tryz.underlying88 3
 have hn := SMap.none h4
 have vc := Lib.hid (hcH.out w1 h5)
 have hbH := Lib.hid h5
 clear h4 h5
 cases hz : noneB (misB l) with
 | false =>
  rw [hz] at hn
  have hzH := Lib.hid hz
  clear hz
  go_wp2_with fail
  go_ret
  exact ⟨ret_bool (by rw [hzH.out]; rfl), hbH.out⟩
 | true =>
  rw [hz] at hn
  have hzH := Lib.hid hz
  clear hz
  go_wp2_with fail
  refine vc.out.mono ?_
  rintro e w2 ⟨a, n, c, rfl, ha, hb⟩
  have hnl := Lib.run_eql_slice_nil (P := Tryz.prog) w2 29 9 a n c 0 0 Tryz.underlying29
  rw [ha] at hnl
  have hb2H := Lib.hid (bcall hbH.out hb)
  clear hb ha
  go_wp2_with fail
  go_ret
  exact ⟨ret_bool (by rw [hzH.out, Bool.true_and]), hb2H.out⟩
noncomputable def soundE (s : Sg) (l : List Ent) (b : Bool) : Bool × Int := if okLib s l = true then ((noneB (misB l) && b) && noneB (faiB s l), 0) else (false, 1)
set_option maxHeartbeats 1000000 in
theorem Sound_any {S1 S2 : Nat → Prop} {b : Bool} (sa la : Option Addr) (sc lc : Nat) (s : Sg) (l : List Ent) (w : World) (h1 : Sign S1 w sa sc s) (h2 : LibL S2 w la lc l) (hl : l.length ≤ 1000)
  (hc : ∀ B W xb, Below w.heap.size w W → DLib B W xb s l → CircNil xb b W) :
  Calls Tryz.prog 32 #[.slice sa s.length sc, .slice la l.length lc] w fun e w' => e = .returned (.tuple #[.bool (soundE s l b).1, .int .i64 (soundE s l b).2]) ∧ Below w.heap.size w w' := by
 have v := open_any sa la sc lc s l w h1 h2 hl
 have m := h2.le
 have m1 := h1.le
 obtain ⟨r, hr⟩ : ∃ r, soundE s l b = r := ⟨_, rfl⟩
 rw [hr]
 have vH := Lib.hid v
 have hrH := Lib.hid hr
 have hcH := Lib.hid hc
 clear v h1 h2 hr hc
 go_enter Tryz.func32, Tryz.ntmps32
 go_wp2_with fail
 refine vH.out.mono ?_
 rintro e w1 ⟨hb, h⟩
 have hbH := Lib.hid hb
 rcases h with ⟨hok, rfl⟩ | ⟨hok, xb, hxb, rfl, hD⟩
 ·have hf : soundE s l b = (false, 1) := by unfold soundE; rw [hok]; rfl
  have hfH := Lib.hid (hrH.out.symm.trans hf)
  clear hb hok vH hf
  go_wp2_with fail
  go_ret2
  exact ⟨by rw [hfH.out]; rfl, hbH.out⟩
 ·have hf : soundE s l b = ((noneB (misB l) && b) && noneB (faiB s l), 0) := by unfold soundE; rw [hok]; rfl
  have vw := whole_any hD (hcH.out _ w1 xb hb hD)
  have vf := fun W (hw : Below w1.heap.size w1 W) => failing_any (hD.call hw)
  have hfH := Lib.hid (hrH.out.symm.trans hf)
  have vwH := Lib.hid vw
  have vfH := Lib.hid vf
  clear hb hok vH hf hxb hD vw vf
  generalize (noneB (misB l) && b) = bw at *
  cases bw with
  | false =>
   go_wp2_with fail
   refine vwH.out.mono ?_
   rintro e w2 ⟨rfl, hb2⟩
   have hb2H := Lib.hid (bcall hbH.out hb2)
   clear hb2
   go_wp2_with fail
   go_ret2
   exact ⟨by rw [hfH.out]; rfl, hb2H.out⟩
  | true =>
   go_wp2_with fail
   refine vwH.out.mono ?_
   rintro e w2 ⟨rfl, hb2⟩
   have vf2 := Lib.hid (vfH.out w2 hb2)
   have hb2H := Lib.hid (bcall hbH.out hb2)
   clear hb2
   go_wp2_with fail
   refine vf2.out.mono ?_
   rintro e w3 ⟨ob, M, m, rfl, -, -, -, h4, h5⟩
   have hlen := h4.len (tm := 88) Tryz.underlying88 3
   have hn := SMap.none h4
   have hb3H := Lib.hid (bcall hb2H.out h5)
   clear h4 h5
   go_wp2_with fail
   go_ret2
   exact ⟨by rw [hfH.out]; rfl, hb3H.out⟩
end Go.Proofs.YtpmnnoopoblpgaaGreat

/- Walks: deps.Holds, deps.Strongest; Sound in general. -/
namespace Go.Proofs.YtpmnnoopoblpgaaGreat
open Go Go.RowKit Go.Maps

noncomputable def noCirc (l : List Ent) : Bool := @decide (CircR l none) (Classical.propDecidable _)
theorem noCirc_none {l : List Ent} (h : CircR l none) : noCirc l = true := by unfold noCirc; exact @decide_eq_true _ (Classical.propDecidable _) h
theorem noCirc_some {l : List Ent} {C : List ByteArray} (h : CircR l (some C)) : noCirc l = false := by
 unfold noCirc
 exact @decide_eq_false _ (Classical.propDecidable _) fun k => by have := h.det k; cases this
theorem circNil_gen {B xb : Nat} {w : World} {s : Sg} {l : List Ent} (h : DLib B w xb s l) : CircNil xb (noCirc l) w := fun W hb => by
 refine (circle_any (h.call hb)).mono ?_
 rintro e w' ⟨C, hC, hv, hb2⟩
 cases C with
 | none => obtain rfl := hv; exact ⟨none, 0, 0, rfl, (noCirc_none hC).symm, hb2⟩
 | some L =>
  obtain ⟨v, rfl, hne, ho⟩ := hv
  obtain ⟨a, c, rfl, hS⟩ := OwnS.strs ho
  refine ⟨a, _, _, rfl, ?_, hb2⟩
  rw [noCirc_some hC]
  cases a with
  | none => exact (hne (by rw [(hS.nil rfl).1]; rfl)).elim
  | some ad => rfl
noncomputable def holdE (s : Sg) (l : List Ent) (n : ByteArray) : Bool × Int :=
 if okLib s l = true then (match atN l n with | some i => (holdX s l i, 0) | none => (false, 5)) else (false, 1)
set_option maxHeartbeats 1000000 in
theorem Holds_any {S1 S2 : Nat → Prop} (sa la : Option Addr) (sc lc : Nat) (s : Sg) (l : List Ent) (n : ByteArray) (hn : n.size ≤ big) (w : World) (h1 : Sign S1 w sa sc s) (h2 : LibL S2 w la lc l) (hl : l.length ≤ 1000) :
  Calls Tryz.prog 28 #[.slice sa s.length sc, .slice la l.length lc, .string n] w fun e w' => e = .returned (.tuple #[.bool (holdE s l n).1, .int .i64 (holdE s l n).2]) ∧ Below w.heap.size w w' := by
 have v := dnamed_any sa la sc lc s l n hn w h1 h2 hl
 have m := h2.le
 have m1 := h1.le
 obtain ⟨r, hr⟩ : ∃ r, holdE s l n = r := ⟨_, rfl⟩
 rw [hr]
 have vH := Lib.hid v
 have hrH := Lib.hid hr
 clear v h1 h2 hr
 go_enter Tryz.func28, Tryz.ntmps28
 go_wp2_with fail
 refine vH.out.mono ?_
 rintro e w1 ⟨hb, h⟩
 have hbH := Lib.hid hb
 rcases h with ⟨hok, rfl⟩ | ⟨hok, hat, rfl⟩ | ⟨hok, i, xb, hat, hxb, rfl, hD⟩
 ·have hf : holdE s l n = (false, 1) := by unfold holdE; rw [hok]; rfl
  have hfH := Lib.hid (hrH.out.symm.trans hf)
  clear hb hok vH hf
  go_wp2_with fail
  go_ret2
  exact ⟨by rw [hfH.out]; rfl, hbH.out⟩
 ·have hf : holdE s l n = (false, 5) := by unfold holdE; rw [hok, hat]; rfl
  have hfH := Lib.hid (hrH.out.symm.trans hf)
  clear hb hok vH hf hat
  go_wp2_with fail
  go_ret2
  exact ⟨by rw [hfH.out]; rfl, hbH.out⟩
 ·have hf : holdE s l n = (holdX s l i, 0) := by unfold holdE; rw [hok, hat]; rfl
  have hfH := Lib.hid (hrH.out.symm.trans hf)
  obtain ⟨hi, -⟩ := atN_some hat
  have vh := Lib.hid (holds_call hD i hi w1 (.refl _ _))
  clear hb hok vH hf hat hxb hD
  go_wp2_with fail
  refine vh.out.mono ?_
  rintro e w2 ⟨rfl, hb2⟩
  have hb2H := Lib.hid (bcall hbH.out hb2)
  clear hb2
  go_wp2_with fail
  go_ret2
  exact ⟨by rw [hfH.out]; rfl, hb2H.out⟩
noncomputable def strgE (s : Sg) (l : List Ent) (n : ByteArray) : List Int × Int :=
 if okLib s l = true then (match atN l n with | some i => (match strX s l i with | some t => (t, 0) | none => ([], 11)) | none => ([], 5)) else ([], 1)
def StgRet (r : List Int × Int) (w : World) (e : Ending) (w' : World) : Prop := ∃ a c, e = .returned (.tuple #[.slice a r.1.length c, .int .i64 r.2]) ∧ Ints (fun _ => True) w' a c r.1 ∧ Below w.heap.size w w'
theorem StgRet.nil {w w' : World} {er : Int} (hb : Below w.heap.size w w') : StgRet ([], er) w (.returned (.tuple #[.slice none 0 0, .int .i64 er])) w' := ⟨none, 0, rfl, Sl.empty, hb⟩
set_option maxHeartbeats 1000000 in
theorem Strongest_any {S1 S2 : Nat → Prop} (sa la : Option Addr) (sc lc : Nat) (s : Sg) (l : List Ent) (n : ByteArray) (hn : n.size ≤ big) (w : World) (h1 : Sign S1 w sa sc s) (h2 : LibL S2 w la lc l) (hl : l.length ≤ 1000) :
  Calls Tryz.prog 36 #[.slice sa s.length sc, .slice la l.length lc, .string n] w (StgRet (strgE s l n) w) := by
 have v := dnamed_any sa la sc lc s l n hn w h1 h2 hl
 have m := h2.le
 have m1 := h1.le
 obtain ⟨r, hr⟩ : ∃ r, strgE s l n = r := ⟨_, rfl⟩
 rw [hr]
 have vH := Lib.hid v
 have hrH := Lib.hid hr
 clear v h1 h2 hr
 go_enter Tryz.func36, Tryz.ntmps36
 go_wp2_with fail
 refine vH.out.mono ?_
 rintro e w1 ⟨hb, h⟩
 have hbH := Lib.hid hb
 rcases h with ⟨hok, rfl⟩ | ⟨hok, hat, rfl⟩ | ⟨hok, i, xb, hat, hxb, rfl, hD⟩
 ·have hf : strgE s l n = ([], 1) := by unfold strgE; rw [hok]; rfl
  have hfH := Lib.hid (hrH.out.symm.trans hf)
  clear hb hok vH hf
  go_wp2_with fail
  go_ret2
  rw [hfH.out]
  exact StgRet.nil hbH.out
 ·have hf : strgE s l n = ([], 5) := by unfold strgE; rw [hok, hat]; rfl
  have hfH := Lib.hid (hrH.out.symm.trans hf)
  clear hb hok vH hf hat
  go_wp2_with fail
  go_ret2
  rw [hfH.out]
  exact StgRet.nil hbH.out
 ·have hf : strgE s l n = (match strX s l i with | some t => (t, 0) | none => ([], 11)) := by unfold strgE; rw [hok, hat]; rfl
  have hfH := Lib.hid (hrH.out.symm.trans hf)
  obtain ⟨hi, -⟩ := atN_some hat
  have vs := Lib.hid (strongest_any hD i hi)
  clear hb hok vH hf hat hxb hD
  go_wp2_with fail
  refine vs.out.mono ?_
  rintro e w2 ⟨t, a, c, b, rfl, hI, hsx, hb2⟩
  cases b with
  | false =>
   have hb2H := Lib.hid (bcall hbH.out hb2)
   have hrr := Lib.hid (show r = ([], 11) by rw [hfH.out, hsx]; rfl)
   clear hb2 hI hsx
   go_wp2_with fail
   go_ret2
   rw [hrr.out]
   exact StgRet.nil hb2H.out
  | true =>
   have hb2H := Lib.hid (bcall hbH.out hb2)
   have hrr := Lib.hid (show r = (t, 0) by rw [hfH.out, hsx]; rfl)
   have hIH := Lib.hid hI
   clear hb2 hI hsx
   go_wp2_with fail
   go_ret2
   rw [hrr.out]
   exact ⟨a, c, rfl, hIH.out, hb2H.out⟩
end Go.Proofs.YtpmnnoopoblpgaaGreat

/- Walks: circle of the reference. -/
namespace Go.Proofs.YtpmnnoopoblpgaaGreat
open Go Go.RowKit Go.Maps

theorem cmp_lt {x y : ByteArray} (h : ltN x y) : Op.bytesLess x.toList y.toList = true ∧ Op.bytesLess y.toList x.toList = false ∧ (x.toList == y.toList) = false ∧ (y.toList == x.toList) = false ∧ ltB x y = true ∧ ltB y x = false := by
 have h1 : ltB x y = true := ltB_iff.2 h
 have h2 : ltB y x = false := by
  cases e : ltB y x with
  | false => rfl
  | true => exact (ltN_irr _ (ltN_tr _ _ _ h (ltB_iff.1 e))).elim
 have hne : x ≠ y := fun e => by subst e; exact ltN_irr _ h
 exact ⟨by rw [bytesLess_ltB]; exact h1, by rw [bytesLess_ltB]; exact h2, str_neq hne, str_neq (fun e => hne e.symm), h1, h2⟩
theorem cmp_eq (x : ByteArray) : Op.bytesLess x.toList x.toList = false ∧ ltB x x = false := by
 have h2 : ltB x x = false := by
  cases e : ltB x x with
  | false => rfl
  | true => exact (ltN_irr _ (ltB_iff.1 e)).elim
 exact ⟨by rw [bytesLess_ltB]; exact h2, h2⟩
theorem Sl.nmc {S : Nat → Prop} {w : World} {b off c : Nat} {l : List Ent} (h : LibL S w (some ⟨b, off, none⟩) c l) {j : Nat} (hj : j < l.length) : w.cell? ⟨b, off + j * 5, none⟩ = some (.string (nmI l j)) ∧ (nmI l j).size ≤ big := by
 obtain ⟨b', off', a1, c1, a2, c2, a3, c3, e, -, p0, -, -, -, -, z1, -⟩ := h.ent j hj
 injection e with e
 injection e with e1 e2
 subst e1 e2
 rw [nmI_at hj]
 exact ⟨p0, z1⟩
theorem Sl.usc {S : Nat → Prop} {w : World} {b off c : Nat} {l : List Ent} (h : LibL S w (some ⟨b, off, none⟩) c l) {j : Nat} (hj : j < l.length) : ∃ a c', w.cell? ⟨b, off + j * 5 + 3, none⟩ = some (.slice a (usI l j).length c') ∧ Sl strE S w a c' (usI l j) := by
 obtain ⟨b', off', a1, c1, a2, c2, a3, c3, e, -, -, -, -, p3, -, -, -, -, hU, -⟩ := h.ent j hj
 injection e with e
 injection e with e1 e2
 subst e1 e2
 rw [usI_at hj]
 exact ⟨a2, c2, p3, hU⟩
abbrev shV (w : World) (l : List Ent) : Value := .slice (some ⟨w.heap.size, 0, none⟩) l.length l.length
def rc1Rel (l : List Ent) (w : World) (iv fv : Value) (wr : World) : Prop := ∃ (i : Nat) (v : Int) (sh : List Bool), iv = .int .i64 i ∧ i ≤ l.length ∧ fv = .int .i64 v ∧ LstR l (fun k => loopB l (nmI l k)) i v ∧ sh.length = l.length ∧ OwnB wr w.heap.size (shV w l) sh ∧ Below w.heap.size w wr
def rc2Rel (l : List Ent) (w : World) (i : Nat) (jv : Value) (wr : World) : Prop := ∃ (j : Nat) (sh : List Bool), jv = .int .i64 j ∧ j ≤ l.length ∧ ShR l sh i j ∧ OwnB wr w.heap.size (shV w l) sh ∧ Below w.heap.size w wr
theorem rc2_step {l : List Ent} {w wr : World} {i j : Nat} {sh : List Bool} {v : Bool} (hj : j < l.length) (hS : ShR l sh i j) (hO : OwnB wr w.heap.size (shV w l) sh) (hB : Below w.heap.size w wr) (hv : (!ltB (nmI l i) (nmI l j)) = v) :
  rc2Rel l w i (.int .i64 ((j : Int) + 1)) (wr.setCell ⟨w.heap.size, j, none⟩ (.bool v)).drew := by
 obtain ⟨h1, h2⟩ := OwnB.set hO hS.1.symm j v
 have h3 := hS.step hj
 rw [hv] at h3
 exact ⟨j + 1, _, by simp, hj, h3, OwnL.call h1 (Below.drew (.refl _ _)), (hB.grown h2 hB.size (fun k e => by injection e with e; omega)).trans ((Below.drew (.refl _ _)).mono (Nat.le_trans hB.size h2.size))⟩
def rc4Rel (l : List Ent) (w : World) (first : ByteArray) (d : Nat) (av ov : Value) (wr : World) : Prop := ∃ (a : Nat) (out : List ByteArray) (sh : List Bool), av = .int .i64 a ∧ a < l.length ∧ OwnS wr d ov out ∧ ShO l sh first out ∧ OwnB wr w.heap.size (shV w l) sh ∧ CiOn l first (nmI l a) out ∧ Below w.heap.size w wr ∧ w.heap.size < d ∧ d ≤ wr.heap.size
def rc5Rel (l : List Ent) (w4 : World) (P : Nat → Bool) (kv nv : Value) (wr : World) : Prop := ∃ (k : Nat) (v : Int), kv = .int .i64 k ∧ k ≤ l.length ∧ nv = .int .i64 v ∧ LstR l P k v ∧ Below w4.heap.size w4 wr
def lenS : Value → Nat
 | .slice _ n _ => n
 | _ => 0
theorem lenS_eq {w : World} {base : Nat} {v : Value} {l : List ByteArray} (h : OwnS w base v l) : lenS v = l.length := by
 obtain ⟨a, c, rfl, -⟩ := OwnS.strs h
 rfl
set_option maxRecDepth 100000 in
set_option maxHeartbeats 8000000 in
theorem rcircle_any {S1 : Nat → Prop} {s : Sg} (la : Option Addr) (lc : Nat) (l : List Ent) (w : World) (h : LibL S1 w la lc l) (hok : okLib s l = true) :
  Calls Tryz.prog 115 #[.slice la l.length lc] w (CircOut l w) := by
 have m := h.le
 have hp := okLib_parts hok
 have hl60 := hp.2.1
 have hdn := hp.2.2.2
 have hms := fun W => makeFalse (W := W) l.length (by omega)
 have hH := Lib.hid h.lt
 have hdnH := Lib.hid hdn
 have hokH := Lib.hid hok
 have hst := Lib.hid (show rc1Rel l w (.int .i64 0) (.int .i64 (-1)) (w.alloc (.cells (Array.replicate l.length (.bool false)) 4)).drew from
  ⟨0, -1, _, rfl, Nat.zero_le _, rfl, .start, by rw [List.length_replicate], OwnL.call (OwnB.made w l.length (by omega)) (Below.drew (.refl _ _)), bcall (below1 w _) (Below.drew (.refl _ _))⟩)
 clear h hok hp hdn
 go_enter Tryz.func115, Tryz.ntmps115
 go_wp2_with fail
 go_region
 clear hms
 go_wp2_with fail
 go_loopw [5, 3] (fun iv fv wr => rc1Rel l w iv fv wr) (fun iv _ _ => l.length - (intOf iv).toNat)
 case atStart => exact hst.out
 case round =>
  obtain ⟨i, v, sh, rfl, hi, rfl, hL, hsl, hO, hB⟩ := hrel
  by_cases hil : i < l.length
  ·obtain ⟨b, off, rfl, -⟩ := hH.out.dat (fun e => by rw [e] at hil; simp at hil)
   have hii : (i : Int) < (l.length : Int) := by omega
   have hLH := Lib.hid hL
   have h2 := Lib.hid (show rc2Rel l w i (.int .i64 0) wr from ⟨0, sh, rfl, Nat.zero_le _, ⟨hsl, fun k hk => by omega⟩, hO, hB⟩)
   clear hL hO hB hsl
   go_wp2_with fail
   go_loopw [6] (fun jv wr => rc2Rel l w i jv wr) (fun jv _ => l.length - (intOf jv).toNat)
   case atStart => exact h2.out
   case round =>
    obtain ⟨j, sh, rfl, hj, hS, hO, hB⟩ := hrel
    by_cases hjl : j < l.length
    ·obtain ⟨mc, mf⟩ := OwnB.cell hO hS.1.symm j (by rw [hS.1]; exact hjl)
     obtain ⟨pj, -⟩ := (hH.out.below hB).nmc hjl
     obtain ⟨pi, -⟩ := (hH.out.below hB).nmc hil
     have hjj : (j : Int) < (l.length : Int) := by omega
     obtain ⟨nj, hnj⟩ : ∃ nj, nmI l j = nj := ⟨_, rfl⟩
     obtain ⟨ni, hni⟩ : ∃ ni, nmI l i = ni := ⟨_, rfl⟩
     rw [hnj] at pj
     rw [hni] at pi
     generalize sh[j]'(by rw [hS.1]; exact hjl) = x0 at mc
     rcases ltN_tri nj ni with e | e | e
     ·obtain ⟨y1, y2, y3, y4, -, hlt⟩ := cmp_lt e
      clear e
      have hfin := Lib.hid (rc2_step hjl hS hO hB (v := true) (by rw [hni, hnj, hlt]; rfl))
      clear hlt hS hO hB hni hnj
      go_wp2_with fail
      go_region
      go_wp2_with fail
      go_roundw
      case rel => exact hfin.out
      case measure => simp [intOf]; omega
     ·have hq := str_eq e
      subst e
      obtain ⟨y1, hlt⟩ := cmp_eq nj
      have hfin := Lib.hid (rc2_step hjl hS hO hB (v := true) (by rw [hni, hnj, hlt]; rfl))
      clear hlt hS hO hB hni hnj
      go_wp2_with fail
      go_region
      go_wp2_with fail
      go_roundw
      case rel => exact hfin.out
      case measure => simp [intOf]; omega
     ·obtain ⟨y1, y2, y3, y4, hlt, -⟩ := cmp_lt e
      clear e
      have hfin := Lib.hid (rc2_step hjl hS hO hB (v := false) (by rw [hni, hnj, hlt]; rfl))
      clear hlt hS hO hB hni hnj
      go_wp2_with fail
      go_region
      go_wp2_with fail
      go_roundw
      case rel => exact hfin.out
      case measure => simp [intOf]; omega
    ·have hjn : j = l.length := by omega
     have hjj : ((j : Int) < (l.length : Int)) = False := eq_false (by omega)
     have hsl := hS.1
     have hcl : citeB l sh i i = loopB l (nmI l i) := cit_loop (fun k hk => hS.2 k (by omega) hk)
     have hbd : Below wr.heap.size wr wr.drew := Below.drew (.refl _ _)
     obtain ⟨aS, cS, eS, hSb⟩ := OwnB.bools hO
     injection eS with i1 i2 i3
     subst i1 i3
     clear i2
     have vc := rcited_any (some ⟨b, off, none⟩) (some ⟨w.heap.size, 0, none⟩) lc l.length l sh wr.drew ((hH.out.below hB).below hbd) hokH.out (hSb.below hbd) hsl i hil
     obtain ⟨pi, -⟩ := (hH.out.below hB).nmc hil
     obtain ⟨ni, hni⟩ : ∃ ni, nmI l i = ni := ⟨_, rfl⟩
     rw [hni] at pi
     have vcH := Lib.hid vc
     have hOH := Lib.hid hO
     have hBH := Lib.hid hB
     have hniH := Lib.hid hni
     obtain ⟨c, hc⟩ : ∃ c, loopB l (nmI l i) = c := ⟨_, rfl⟩
     rw [hc] at hcl
     clear vc hO hB hS hSb hni
     cases c with
     | false =>
      have hcH := Lib.hid hc
      clear hc
      go_wp2_with fail
      refine wp_region_held_drew (S := fun w' => w'.cell? ⟨b, off + i * 5, none⟩ = some (.string ni)) (by kernel_rfl) (cell_later hbd pi) (fun hS => ?_)
      refine rtk 0 41 (v := ?_) hS ?_ ?_; rotate_left; · (intro w9 hS9; have z0 := hS9; go_simp; try (with_reducible rfl))
      refine rtk 1 42 (v := ?_) hS ?_ ?_; rotate_left; · (intro w9 hS9; have z0 := hS9; go_simp; try (with_reducible rfl))
      refine rtk 2 43 (v := ?_) hS ?_ ?_; rotate_left; · (intro w9 hS9; have z0 := hS9; go_simp; try (with_reducible rfl))
      refine rtk 4 45 (v := ?_) hS ?_ ?_; rotate_left; · (intro w9 hS9; have z0 := hS9; go_simp; try (with_reducible rfl))
      refine region_call 3 rfl (by kernel_rfl) (fun K hK => ?_)
      go_simp
      (with_reducible refine vcH.out.mono ?_)
      rintro e w6 ⟨vc, rfl, hOc, hbc⟩
      obtain ⟨ac, cc, rfl, hSc⟩ := OwnB.bools hOc
      obtain ⟨bc, oc, rfl, -, qc⟩ := hSc.bool i (by simp; exact hil)
      simp only [List.getElem_map, List.getElem_range, hcl] at qc
      have hlen1 : ((List.range l.length).map (citeB l sh i)).length = l.length := by simp
      rw [hlen1]
      have hbcH := Lib.hid hbc
      clear hOc hSc hlen1
      go_simp
      refine hK.out _ _ (cell_later hbc hS) ?_
      clear hK hS K
      intro hS
      try simp only [Act.put, List.setIfInBounds_toArray, List.set_cons_zero, List.set_cons_succ]
      clear hbc
      refine rtk 5 46 (v := ?_) hS ?_ ?_; rotate_left; · (intro w9 hS9; have z0 := hS9; go_simp; try (with_reducible rfl))
      refine region_call 6 rfl (by kernel_rfl) (fun K hK => ?_)
      go_simp
      refine hK.out _ _ hS ?_
      clear hK hS K
      intro hS
      try simp only [Act.put, List.setIfInBounds_toArray, List.set_cons_zero, List.set_cons_succ]
      refine rtk 7 48 (v := ?_) hS ?_ ?_; rotate_left; · (intro w9 hS9; have z0 := hS9; go_simp; try (with_reducible rfl))
      refine rsk 8 49 hS ?_
      refine rsk 9 50 hS ?_
      refine rsk 10 51 hS ?_
      refine rsk 11 52 hS ?_
      refine rsk 12 53 hS ?_
      refine rsk 13 54 hS ?_
      refine rsk 14 55 hS ?_
      refine rsk 15 56 hS ?_
      refine rsk 16 57 hS ?_
      refine rsk 17 58 hS ?_
      refine rsk 18 59 hS ?_
      refine rsk 19 60 hS ?_
      refine rsk 20 61 hS ?_
      refine rsk 21 62 hS ?_
      refine rsk 22 63 hS ?_
      refine rtk 23 64 (v := ?_) hS ?_ ?_; rotate_left; · (intro w9 hS9; have z0 := hS9; go_simp; try (with_reducible rfl))
      refine wpAnyH_done (by kernel_rfl) ?_ _
      clear hS
      have hfin := Lib.hid (show rc1Rel l w (.int .i64 ((i : Int) + 1)) (.int .i64 v) w6 from ⟨i + 1, _, sh, by simp, hil, rfl, hLH.out.skip hcH.out, hsl, OwnL.call hOH.out (bcall hbd hbcH.out), bcall hBH.out (bcall hbd hbcH.out)⟩)
      go_wp2_with fail
      go_roundw
      case rel => exact hfin.out
      case measure => simp [intOf]; omega
     | true =>
      have hcH := Lib.hid hc
      clear hc
      rcases hLH.out.cases with rfl | ⟨f, rfl, hf⟩
      ·go_wp2_with fail
       refine wp_region_held_drew (S := fun w' => w'.cell? ⟨b, off + i * 5, none⟩ = some (.string ni)) (by kernel_rfl) (cell_later hbd pi) (fun hS => ?_)
       refine rtk 0 41 (v := ?_) hS ?_ ?_; rotate_left; · (intro w9 hS9; have z0 := hS9; go_simp; try (with_reducible rfl))
       refine rtk 1 42 (v := ?_) hS ?_ ?_; rotate_left; · (intro w9 hS9; have z0 := hS9; go_simp; try (with_reducible rfl))
       refine rtk 2 43 (v := ?_) hS ?_ ?_; rotate_left; · (intro w9 hS9; have z0 := hS9; go_simp; try (with_reducible rfl))
       refine rtk 4 45 (v := ?_) hS ?_ ?_; rotate_left; · (intro w9 hS9; have z0 := hS9; go_simp; try (with_reducible rfl))
       refine region_call 3 rfl (by kernel_rfl) (fun K hK => ?_)
       go_simp
       (with_reducible refine vcH.out.mono ?_)
       rintro e w6 ⟨vc, rfl, hOc, hbc⟩
       obtain ⟨ac, cc, rfl, hSc⟩ := OwnB.bools hOc
       obtain ⟨bc, oc, rfl, -, qc⟩ := hSc.bool i (by simp; exact hil)
       simp only [List.getElem_map, List.getElem_range, hcl] at qc
       have hlen1 : ((List.range l.length).map (citeB l sh i)).length = l.length := by simp
       rw [hlen1]
       have hbcH := Lib.hid hbc
       clear hOc hSc hlen1
       go_simp
       refine hK.out _ _ (cell_later hbc hS) ?_
       clear hK hS K
       intro hS
       try simp only [Act.put, List.setIfInBounds_toArray, List.set_cons_zero, List.set_cons_succ]
       clear hbc
       refine rtk 5 46 (v := ?_) hS ?_ ?_; rotate_left; · (intro w9 hS9; have z0 := hS9; go_simp; try (with_reducible rfl))
       refine region_call 6 rfl (by kernel_rfl) (fun K hK => ?_)
       go_simp
       refine hK.out _ _ hS ?_
       clear hK hS K
       intro hS
       try simp only [Act.put, List.setIfInBounds_toArray, List.set_cons_zero, List.set_cons_succ]
       refine rtk 7 48 (v := ?_) hS ?_ ?_; rotate_left; · (intro w9 hS9; have z0 := hS9; go_simp; try (with_reducible rfl))
       refine rtk 8 49 (v := ?_) hS ?_ ?_; rotate_left; · (intro w9 hS9; have z0 := hS9; go_simp; try (with_reducible rfl))
       refine rtk 9 50 (v := ?_) hS ?_ ?_; rotate_left; · (intro w9 hS9; have z0 := hS9; go_simp; try (with_reducible rfl))
       refine rtk 10 51 (v := ?_) hS ?_ ?_; rotate_left; · (intro w9 hS9; have z0 := hS9; go_simp; try (with_reducible rfl))
       refine rsk 11 52 hS ?_
       refine rsk 12 53 hS ?_
       refine rsk 13 54 hS ?_
       refine rsk 14 55 hS ?_
       refine rsk 15 56 hS ?_
       refine rsk 16 57 hS ?_
       refine rsk 17 58 hS ?_
       refine rsk 18 59 hS ?_
       refine rsk 19 60 hS ?_
       refine rsk 20 61 hS ?_
       refine rsk 21 62 hS ?_
       refine rtk 22 63 (v := ?_) hS ?_ ?_; rotate_left; · (intro w9 hS9; have z0 := hS9; go_simp; try (with_reducible rfl))
       refine rtk 23 64 (v := ?_) hS ?_ ?_; rotate_left; · (intro w9 hS9; have z0 := hS9; go_simp; try (with_reducible rfl))
       refine wpAnyH_done (by kernel_rfl) ?_ _
       clear hS
       have hfin := Lib.hid (show rc1Rel l w (.int .i64 ((i : Int) + 1)) (.int .i64 (i : Int)) w6 from ⟨i + 1, _, sh, by simp, hil, rfl, hLH.out.first hcH.out, hsl, OwnL.call hOH.out (bcall hbd hbcH.out), bcall hBH.out (bcall hbd hbcH.out)⟩)
       go_wp2_with fail
       go_roundw
       case rel => exact hfin.out
       case measure => simp [intOf]; omega
      ·have hfl : f < l.length := by omega
       have hff : (f : Int) < (l.length : Int) := by omega
       have hf0 : ((f : Int) < 0) = False := eq_false (by omega)
       obtain ⟨pf, -⟩ := (hH.out.below hBH.out).nmc hfl
       obtain ⟨nf, hnf⟩ : ∃ nf, nmI l f = nf := ⟨_, rfl⟩
       rw [hnf] at pf
       obtain ⟨bl, hbl⟩ : ∃ bl, Op.bytesLess ni.toList nf.toList = bl := ⟨_, rfl⟩
       have hlt := hbl
       rw [bytesLess_ltB, ← hniH.out, ← hnf] at hlt
       have hltH := Lib.hid hlt
       clear hlt hnf
       cases bl with
       | false =>
        go_wp2_with fail
        refine wp_region_held_drew (S := fun w' => w'.cell? ⟨b, off + i * 5, none⟩ = some (.string ni) ∧ w'.cell? ⟨b, off + f * 5, none⟩ = some (.string nf)) (by kernel_rfl) ⟨cell_later hbd pi, cell_later hbd pf⟩ (fun hS => ?_)
        refine rtk 0 41 (v := ?_) hS ?_ ?_; rotate_left; · (intro w9 hS9; obtain ⟨z0, z1⟩ := hS9; go_simp; try (with_reducible rfl))
        refine rtk 1 42 (v := ?_) hS ?_ ?_; rotate_left; · (intro w9 hS9; obtain ⟨z0, z1⟩ := hS9; go_simp; try (with_reducible rfl))
        refine rtk 2 43 (v := ?_) hS ?_ ?_; rotate_left; · (intro w9 hS9; obtain ⟨z0, z1⟩ := hS9; go_simp; try (with_reducible rfl))
        refine rtk 4 45 (v := ?_) hS ?_ ?_; rotate_left; · (intro w9 hS9; obtain ⟨z0, z1⟩ := hS9; go_simp; try (with_reducible rfl))
        refine region_call 3 rfl (by kernel_rfl) (fun K hK => ?_)
        go_simp
        (with_reducible refine vcH.out.mono ?_)
        rintro e w6 ⟨vc, rfl, hOc, hbc⟩
        obtain ⟨ac, cc, rfl, hSc⟩ := OwnB.bools hOc
        obtain ⟨bc, oc, rfl, -, qc⟩ := hSc.bool i (by simp; exact hil)
        simp only [List.getElem_map, List.getElem_range, hcl] at qc
        have hlen1 : ((List.range l.length).map (citeB l sh i)).length = l.length := by simp
        rw [hlen1]
        have hbcH := Lib.hid hbc
        clear hOc hSc hlen1
        go_simp
        refine hK.out _ _ ⟨cell_later hbc hS.1, cell_later hbc hS.2⟩ ?_
        clear hK hS K
        intro hS
        try simp only [Act.put, List.setIfInBounds_toArray, List.set_cons_zero, List.set_cons_succ]
        clear hbc
        refine rtk 5 46 (v := ?_) hS ?_ ?_; rotate_left; · (intro w9 hS9; obtain ⟨z0, z1⟩ := hS9; go_simp; try (with_reducible rfl))
        refine region_call 6 rfl (by kernel_rfl) (fun K hK => ?_)
        go_simp
        refine hK.out _ _ hS ?_
        clear hK hS K
        intro hS
        try simp only [Act.put, List.setIfInBounds_toArray, List.set_cons_zero, List.set_cons_succ]
        refine rtk 7 48 (v := ?_) hS ?_ ?_; rotate_left; · (intro w9 hS9; obtain ⟨z0, z1⟩ := hS9; go_simp; try (with_reducible rfl))
        refine rtk 8 49 (v := ?_) hS ?_ ?_; rotate_left; · (intro w9 hS9; obtain ⟨z0, z1⟩ := hS9; go_simp; try (with_reducible rfl))
        refine rtk 9 50 (v := ?_) hS ?_ ?_; rotate_left; · (intro w9 hS9; obtain ⟨z0, z1⟩ := hS9; go_simp; try (with_reducible rfl))
        refine rtk 10 51 (v := ?_) hS ?_ ?_; rotate_left; · (intro w9 hS9; obtain ⟨z0, z1⟩ := hS9; go_simp; try (with_reducible rfl))
        refine rtk 11 52 (v := ?_) hS ?_ ?_; rotate_left; · (intro w9 hS9; obtain ⟨z0, z1⟩ := hS9; go_simp; try (with_reducible rfl))
        refine rtk 12 53 (v := ?_) hS ?_ ?_; rotate_left; · (intro w9 hS9; obtain ⟨z0, z1⟩ := hS9; go_simp; try (with_reducible rfl))
        refine rtk 13 54 (v := ?_) hS ?_ ?_; rotate_left; · (intro w9 hS9; obtain ⟨z0, z1⟩ := hS9; go_simp; try (with_reducible rfl))
        refine rtk 14 55 (v := ?_) hS ?_ ?_; rotate_left; · (intro w9 hS9; obtain ⟨z0, z1⟩ := hS9; go_simp; try (with_reducible rfl))
        refine rtk 15 56 (v := ?_) hS ?_ ?_; rotate_left; · (intro w9 hS9; obtain ⟨z0, z1⟩ := hS9; go_simp; try (with_reducible rfl))
        refine rtk 16 57 (v := ?_) hS ?_ ?_; rotate_left; · (intro w9 hS9; obtain ⟨z0, z1⟩ := hS9; go_simp; try (with_reducible rfl))
        refine rtk 17 58 (v := ?_) hS ?_ ?_; rotate_left; · (intro w9 hS9; obtain ⟨z0, z1⟩ := hS9; go_simp; try (with_reducible rfl))
        refine rtk 18 59 (v := ?_) hS ?_ ?_; rotate_left; · (intro w9 hS9; obtain ⟨z0, z1⟩ := hS9; go_simp; try (with_reducible rfl))
        refine rtk 19 60 (v := ?_) hS ?_ ?_; rotate_left; · (intro w9 hS9; obtain ⟨z0, z1⟩ := hS9; go_simp; try (with_reducible rfl))
        refine rtk 20 61 (v := ?_) hS ?_ ?_; rotate_left; · (intro w9 hS9; obtain ⟨z0, z1⟩ := hS9; go_simp; try (with_reducible rfl))
        refine rtk 21 62 (v := ?_) hS ?_ ?_; rotate_left; · (intro w9 hS9; obtain ⟨z0, z1⟩ := hS9; go_simp; try (with_reducible rfl))
        refine rtk 22 63 (v := ?_) hS ?_ ?_; rotate_left; · (intro w9 hS9; obtain ⟨z0, z1⟩ := hS9; go_simp; try (with_reducible rfl))
        refine rtk 23 64 (v := ?_) hS ?_ ?_; rotate_left; · (intro w9 hS9; obtain ⟨z0, z1⟩ := hS9; go_simp; try (with_reducible rfl))
        refine wpAnyH_done (by kernel_rfl) ?_ _
        clear hS
        have hfin := Lib.hid (show rc1Rel l w (.int .i64 ((i : Int) + 1)) (.int .i64 (f : Int)) w6 from ⟨i + 1, _, sh, by simp, hil, rfl, hLH.out.keep hltH.out, hsl, OwnL.call hOH.out (bcall hbd hbcH.out), bcall hBH.out (bcall hbd hbcH.out)⟩)
        go_wp2_with fail
        go_roundw
        case rel => exact hfin.out
        case measure => simp [intOf]; omega
       | true =>
        go_wp2_with fail
        refine wp_region_held_drew (S := fun w' => w'.cell? ⟨b, off + i * 5, none⟩ = some (.string ni) ∧ w'.cell? ⟨b, off + f * 5, none⟩ = some (.string nf)) (by kernel_rfl) ⟨cell_later hbd pi, cell_later hbd pf⟩ (fun hS => ?_)
        refine rtk 0 41 (v := ?_) hS ?_ ?_; rotate_left; · (intro w9 hS9; obtain ⟨z0, z1⟩ := hS9; go_simp; try (with_reducible rfl))
        refine rtk 1 42 (v := ?_) hS ?_ ?_; rotate_left; · (intro w9 hS9; obtain ⟨z0, z1⟩ := hS9; go_simp; try (with_reducible rfl))
        refine rtk 2 43 (v := ?_) hS ?_ ?_; rotate_left; · (intro w9 hS9; obtain ⟨z0, z1⟩ := hS9; go_simp; try (with_reducible rfl))
        refine rtk 4 45 (v := ?_) hS ?_ ?_; rotate_left; · (intro w9 hS9; obtain ⟨z0, z1⟩ := hS9; go_simp; try (with_reducible rfl))
        refine region_call 3 rfl (by kernel_rfl) (fun K hK => ?_)
        go_simp
        (with_reducible refine vcH.out.mono ?_)
        rintro e w6 ⟨vc, rfl, hOc, hbc⟩
        obtain ⟨ac, cc, rfl, hSc⟩ := OwnB.bools hOc
        obtain ⟨bc, oc, rfl, -, qc⟩ := hSc.bool i (by simp; exact hil)
        simp only [List.getElem_map, List.getElem_range, hcl] at qc
        have hlen1 : ((List.range l.length).map (citeB l sh i)).length = l.length := by simp
        rw [hlen1]
        have hbcH := Lib.hid hbc
        clear hOc hSc hlen1
        go_simp
        refine hK.out _ _ ⟨cell_later hbc hS.1, cell_later hbc hS.2⟩ ?_
        clear hK hS K
        intro hS
        try simp only [Act.put, List.setIfInBounds_toArray, List.set_cons_zero, List.set_cons_succ]
        clear hbc
        refine rtk 5 46 (v := ?_) hS ?_ ?_; rotate_left; · (intro w9 hS9; obtain ⟨z0, z1⟩ := hS9; go_simp; try (with_reducible rfl))
        refine region_call 6 rfl (by kernel_rfl) (fun K hK => ?_)
        go_simp
        refine hK.out _ _ hS ?_
        clear hK hS K
        intro hS
        try simp only [Act.put, List.setIfInBounds_toArray, List.set_cons_zero, List.set_cons_succ]
        refine rtk 7 48 (v := ?_) hS ?_ ?_; rotate_left; · (intro w9 hS9; obtain ⟨z0, z1⟩ := hS9; go_simp; try (with_reducible rfl))
        refine rtk 8 49 (v := ?_) hS ?_ ?_; rotate_left; · (intro w9 hS9; obtain ⟨z0, z1⟩ := hS9; go_simp; try (with_reducible rfl))
        refine rtk 9 50 (v := ?_) hS ?_ ?_; rotate_left; · (intro w9 hS9; obtain ⟨z0, z1⟩ := hS9; go_simp; try (with_reducible rfl))
        refine rtk 10 51 (v := ?_) hS ?_ ?_; rotate_left; · (intro w9 hS9; obtain ⟨z0, z1⟩ := hS9; go_simp; try (with_reducible rfl))
        refine rtk 11 52 (v := ?_) hS ?_ ?_; rotate_left; · (intro w9 hS9; obtain ⟨z0, z1⟩ := hS9; go_simp; try (with_reducible rfl))
        refine rtk 12 53 (v := ?_) hS ?_ ?_; rotate_left; · (intro w9 hS9; obtain ⟨z0, z1⟩ := hS9; go_simp; try (with_reducible rfl))
        refine rtk 13 54 (v := ?_) hS ?_ ?_; rotate_left; · (intro w9 hS9; obtain ⟨z0, z1⟩ := hS9; go_simp; try (with_reducible rfl))
        refine rtk 14 55 (v := ?_) hS ?_ ?_; rotate_left; · (intro w9 hS9; obtain ⟨z0, z1⟩ := hS9; go_simp; try (with_reducible rfl))
        refine rtk 15 56 (v := ?_) hS ?_ ?_; rotate_left; · (intro w9 hS9; obtain ⟨z0, z1⟩ := hS9; go_simp; try (with_reducible rfl))
        refine rtk 16 57 (v := ?_) hS ?_ ?_; rotate_left; · (intro w9 hS9; obtain ⟨z0, z1⟩ := hS9; go_simp; try (with_reducible rfl))
        refine rtk 17 58 (v := ?_) hS ?_ ?_; rotate_left; · (intro w9 hS9; obtain ⟨z0, z1⟩ := hS9; go_simp; try (with_reducible rfl))
        refine rtk 18 59 (v := ?_) hS ?_ ?_; rotate_left; · (intro w9 hS9; obtain ⟨z0, z1⟩ := hS9; go_simp; try (with_reducible rfl))
        refine rtk 19 60 (v := ?_) hS ?_ ?_; rotate_left; · (intro w9 hS9; obtain ⟨z0, z1⟩ := hS9; go_simp; try (with_reducible rfl))
        refine rtk 20 61 (v := ?_) hS ?_ ?_; rotate_left; · (intro w9 hS9; obtain ⟨z0, z1⟩ := hS9; go_simp; try (with_reducible rfl))
        refine rtk 21 62 (v := ?_) hS ?_ ?_; rotate_left; · (intro w9 hS9; obtain ⟨z0, z1⟩ := hS9; go_simp; try (with_reducible rfl))
        refine rtk 22 63 (v := ?_) hS ?_ ?_; rotate_left; · (intro w9 hS9; obtain ⟨z0, z1⟩ := hS9; go_simp; try (with_reducible rfl))
        refine rtk 23 64 (v := ?_) hS ?_ ?_; rotate_left; · (intro w9 hS9; obtain ⟨z0, z1⟩ := hS9; go_simp; try (with_reducible rfl))
        refine wpAnyH_done (by kernel_rfl) ?_ _
        clear hS
        have hfin := Lib.hid (show rc1Rel l w (.int .i64 ((i : Int) + 1)) (.int .i64 (i : Int)) w6 from ⟨i + 1, _, sh, by simp, hil, rfl, hLH.out.less hcH.out hltH.out, hsl, OwnL.call hOH.out (bcall hbd hbcH.out), bcall hBH.out (bcall hbd hbcH.out)⟩)
        go_wp2_with fail
        go_roundw
        case rel => exact hfin.out
        case measure => simp [intOf]; omega
  ·have hin : i = l.length := by omega
   have hii : ((i : Int) < (l.length : Int)) = False := eq_false (by omega)
   rw [hin] at hL
   clear hin
   rcases hL.cases with rfl | ⟨f, rfl, hf⟩
   ·have hfin := Lib.hid (show CircOut l w (.returned (.slice none 0 0)) wr from ⟨none, loop_none hL, rfl, hB⟩)
    clear hL hO hB hil
    go_wp2_with fail
    go_ret
    exact hfin.out
   ·obtain ⟨hfl, hfm, hloop, hleast⟩ := loop_first hL
    obtain ⟨b, off, rfl, -⟩ := hH.out.dat (fun e => by rw [e] at hf; simp at hf)
    have hff : (f : Int) < (l.length : Int) := by omega
    have hf0 : ((f : Int) < 0) = False := eq_false (by omega)
    have hil := hfl
    have h2 := Lib.hid (show rc2Rel l w f (.int .i64 0) wr from ⟨0, sh, rfl, Nat.zero_le _, ⟨hsl, fun k hk => by omega⟩, hO, hB⟩)
    obtain ⟨first, hfn⟩ : ∃ first, nmI l f = first := ⟨_, rfl⟩
    rw [hfn] at hfm hloop hleast
    have hcR := Lib.hid (show ∀ C, CircS l first [first] first C → CircR l (some C) from fun C hC => ⟨first, hfm, hloop, hleast, hC⟩)
    have hci0 := Lib.hid (CiOn.start hloop (mem_at.1 hfm))
    clear hL hO hB hsl hfm hloop hleast
    go_wp2_with fail
    go_loopw [7] (fun jv wr => rc2Rel l w f jv wr) (fun jv _ => l.length - (intOf jv).toNat)
    case atStart => exact h2.out
    case round =>
     obtain ⟨j, sh, rfl, hj, hS, hO, hB⟩ := hrel
     by_cases hjl : j < l.length
     ·obtain ⟨mc, mf⟩ := OwnB.cell hO hS.1.symm j (by rw [hS.1]; exact hjl)
      obtain ⟨pj, -⟩ := (hH.out.below hB).nmc hjl
      obtain ⟨pi, -⟩ := (hH.out.below hB).nmc hil
      have hjj : (j : Int) < (l.length : Int) := by omega
      obtain ⟨nj, hnj⟩ : ∃ nj, nmI l j = nj := ⟨_, rfl⟩
      obtain ⟨ni, hni⟩ : ∃ ni, nmI l f = ni := ⟨_, rfl⟩
      rw [hnj] at pj
      rw [hni] at pi
      generalize sh[j]'(by rw [hS.1]; exact hjl) = x0 at mc
      rcases ltN_tri nj ni with e | e | e
      ·obtain ⟨y1, y2, y3, y4, -, hlt⟩ := cmp_lt e
       clear e
       have hfin := Lib.hid (rc2_step hjl hS hO hB (v := true) (by rw [hni, hnj, hlt]; rfl))
       clear hlt hS hO hB hni hnj
       go_wp2_with fail
       go_region
       go_wp2_with fail
       go_roundw
       case rel => exact hfin.out
       case measure => simp [intOf]; omega
      ·have hq := str_eq e
       subst e
       obtain ⟨y1, hlt⟩ := cmp_eq nj
       have hfin := Lib.hid (rc2_step hjl hS hO hB (v := true) (by rw [hni, hnj, hlt]; rfl))
       clear hlt hS hO hB hni hnj
       go_wp2_with fail
       go_region
       go_wp2_with fail
       go_roundw
       case rel => exact hfin.out
       case measure => simp [intOf]; omega
      ·obtain ⟨y1, y2, y3, y4, hlt, -⟩ := cmp_lt e
       clear e
       have hfin := Lib.hid (rc2_step hjl hS hO hB (v := false) (by rw [hni, hnj, hlt]; rfl))
       clear hlt hS hO hB hni hnj
       go_wp2_with fail
       go_region
       go_wp2_with fail
       go_roundw
       case rel => exact hfin.out
       case measure => simp [intOf]; omega
     ·have hjn : j = l.length := by omega
      have hjj : ((j : Int) < (l.length : Int)) = False := eq_false (by omega)
      rw [hjn] at hS
      clear hjn
      have hSb := hS.begin
      rw [hfn] at hSb
      obtain ⟨pf0, zf⟩ := (hH.out.below hB).nmc hfl
      rw [hfn] at pf0 zf
      have hlt0 := (OwnL.lt hO w.heap.size rfl).2
      obtain ⟨w3, hw3⟩ : ∃ w3, w3 = wr := ⟨_, rfl⟩
      subst hw3
      have hst4 := Lib.hid (show rc4Rel l w first w3.heap.size (.int .i64 f) (.slice (some ⟨w3.heap.size, 0, none⟩) 1 1) (w3.alloc (.cells #[.string first] 9)) from
       ⟨f, [first], sh, rfl, hfl, ownS_one w3 first zf, hSb, OwnL.call hO (below1 _ _), by rw [hfn]; exact hci0.out, bcall hB (below1 _ _), hlt0, by simp⟩)
      obtain ⟨d, hd⟩ : ∃ d, w3.heap.size = d := ⟨_, rfl⟩
      rw [hd] at hst4
      clear hS hO hB hSb
      go_wp2_with fail
      try rw [hd]
      go_loopw [9, 8] (fun av ov wr => rc4Rel l w first d av ov wr) (fun _ ov _ => l.length + 1 - lenS ov)
      case atStart => first | exact hst4.out | (rw [hd]; exact hst4.out)
      case round =>
       obtain ⟨a, out, sh, rfl, hal, ho, hSo, hO, hCi, hB, hd1, hd2⟩ := hrel
       obtain ⟨aO, cO, rfl, hSO⟩ := OwnS.strs ho
       have hne : out.length ≠ 0 := fun e => by have := hCi.fo; rw [List.length_eq_zero_iff.1 e] at this; cases this
       have haa : (a : Int) < (l.length : Int) := by omega
       obtain ⟨pf, -⟩ := (hH.out.below hB).nmc hfl
       rw [hfn] at pf
       obtain ⟨aU, cU, pa, hU⟩ := (hH.out.below hB).usc hal
       have hbd : Below wr.heap.size wr wr.drew := Below.drew (.refl _ _)
       have vh := rHas_any aU cU (usI l a) first wr.drew (hU.below hbd)
       have mU := hU.le
       have mO := hSO.le
       obtain ⟨nU, hUn⟩ : ∃ nU, (usI l a).length = nU := ⟨_, rfl⟩
       rw [hUn] at pa vh mU
       have hus := usesN_nmI hdnH.out hal
       cases hmb : memB (usI l a) first with
       | true =>
        rw [hmb] at vh
        have hstop : first ∈ usesN l (nmI l a) := by rw [hus]; exact memB_iff.1 hmb
        have hfin := Lib.hid (show CircOut l w (.returned (.slice aO out.length cO)) wr.drew from ⟨some out, hcR.out _ (hCi.acc out (.stop hstop)), ⟨_, rfl, hne, OwnL.baseMono (ho.call hbd) (by omega)⟩, bcall hB hbd⟩)
        have vhH := Lib.hid vh
        clear vh hmb ho hSo hO hCi hB hSO hU hstop
        go_wp2_with fail
        refine wp_region_held_drew (S := fun w' => w'.cell? ⟨b, off + a * 5 + 3, none⟩ = some (.slice aU nU cU) ∧ w'.cell? ⟨b, off + f * 5, none⟩ = some (.string first)) (by kernel_rfl) ⟨cell_later hbd pa, cell_later hbd pf⟩ (fun hS => ?_)
        refine rtk 0 95 (v := ?_) hS ?_ ?_; rotate_left; · (intro w9 hS9; obtain ⟨z0, z1⟩ := hS9; go_simp; try (with_reducible rfl))
        refine rtk 1 96 (v := ?_) hS ?_ ?_; rotate_left; · (intro w9 hS9; obtain ⟨z0, z1⟩ := hS9; go_simp; try (with_reducible rfl))
        refine rtk 2 97 (v := ?_) hS ?_ ?_; rotate_left; · (intro w9 hS9; obtain ⟨z0, z1⟩ := hS9; go_simp; try (with_reducible rfl))
        refine rtk 3 98 (v := ?_) hS ?_ ?_; rotate_left; · (intro w9 hS9; obtain ⟨z0, z1⟩ := hS9; go_simp; try (with_reducible rfl))
        refine rtk 4 99 (v := ?_) hS ?_ ?_; rotate_left; · (intro w9 hS9; obtain ⟨z0, z1⟩ := hS9; go_simp; try (with_reducible rfl))
        refine rtk 5 100 (v := ?_) hS ?_ ?_; rotate_left; · (intro w9 hS9; obtain ⟨z0, z1⟩ := hS9; go_simp; try (with_reducible rfl))
        refine rtk 6 101 (v := ?_) hS ?_ ?_; rotate_left; · (intro w9 hS9; obtain ⟨z0, z1⟩ := hS9; go_simp; try (with_reducible rfl))
        refine rtk 7 102 (v := ?_) hS ?_ ?_; rotate_left; · (intro w9 hS9; obtain ⟨z0, z1⟩ := hS9; go_simp; try (with_reducible rfl))
        refine rtk 8 103 (v := ?_) hS ?_ ?_; rotate_left; · (intro w9 hS9; obtain ⟨z0, z1⟩ := hS9; go_simp; try (with_reducible rfl))
        refine rtk 9 104 (v := ?_) hS ?_ ?_; rotate_left; · (intro w9 hS9; obtain ⟨z0, z1⟩ := hS9; go_simp; try (with_reducible rfl))
        refine region_call 10 rfl (by kernel_rfl) (fun K hK => ?_)
        go_simp
        (with_reducible refine vhH.out.mono ?_)
        rintro e w6 ⟨rfl, rfl⟩
        go_simp
        refine hK.out _ _ hS ?_
        clear hK hS K
        intro hS
        try simp only [Act.put, List.setIfInBounds_toArray, List.set_cons_zero, List.set_cons_succ]
        refine rtk 11 106 (v := ?_) hS ?_ ?_; rotate_left; · (intro w9 hS9; obtain ⟨z0, z1⟩ := hS9; go_simp; try (with_reducible rfl))
        refine wpAnyH_done (by kernel_rfl) ?_ _
        clear hS
        go_wp2_with fail
        go_ret
        exact hfin.out
       | false =>
        rw [hmb] at vh
        have hno : first ∉ usesN l (nmI l a) := fun e => by rw [hus] at e; rw [memB_iff.2 e] at hmb; cases hmb
        obtain ⟨w4, hw4⟩ : ∃ w4, wr.drew = w4 := ⟨_, rfl⟩
        have hbd4 := hbd
        rw [hw4] at hbd4
        have hw44 : wr.heap.size ≤ w4.heap.size := hbd4.size
        have pa4 := cell_later hbd4 pa
        have hd2 : d ≤ w4.heap.size := by omega
        obtain ⟨ov0, hov⟩ : ∃ ov0, Value.slice aO out.length cO = ov0 := ⟨_, rfl⟩
        rw [hov] at ho
        have hB4H := Lib.hid (bcall hB hbd4)
        have hO4H := Lib.hid (OwnL.call hO hbd4)
        have hoH := Lib.hid (ho.call hbd4)
        have hSoH := Lib.hid hSo
        have hCiH := Lib.hid hCi
        have hnoH := Lib.hid hno
        have hUH := Lib.hid (hU.below hbd4)
        have vhH := Lib.hid vh
        have hst5 := Lib.hid (show rc5Rel l w4 (fun k => memB (usI l a) (nmI l k) && candB l first out (nmI l k)) (.int .i64 0) (.int .i64 (-1)) w4 from ⟨0, -1, rfl, Nat.zero_le _, rfl, .start, .refl _ _⟩)
        have hw4H := Lib.hid hw4
        have hovH := Lib.hid hov
        clear vh hmb ho hSo hO hCi hB hSO hU hno hus hw4 hov
        go_wp2_with fail
        refine wp_region_held_drew (S := fun w' => w'.cell? ⟨b, off + a * 5 + 3, none⟩ = some (.slice aU nU cU) ∧ w'.cell? ⟨b, off + f * 5, none⟩ = some (.string first)) (by kernel_rfl) ⟨cell_later hbd pa, cell_later hbd pf⟩ (fun hS => ?_)
        refine rtk 0 95 (v := ?_) hS ?_ ?_; rotate_left; · (intro w9 hS9; obtain ⟨z0, z1⟩ := hS9; go_simp; try (with_reducible rfl))
        refine rtk 1 96 (v := ?_) hS ?_ ?_; rotate_left; · (intro w9 hS9; obtain ⟨z0, z1⟩ := hS9; go_simp; try (with_reducible rfl))
        refine rtk 2 97 (v := ?_) hS ?_ ?_; rotate_left; · (intro w9 hS9; obtain ⟨z0, z1⟩ := hS9; go_simp; try (with_reducible rfl))
        refine rtk 3 98 (v := ?_) hS ?_ ?_; rotate_left; · (intro w9 hS9; obtain ⟨z0, z1⟩ := hS9; go_simp; try (with_reducible rfl))
        refine rtk 4 99 (v := ?_) hS ?_ ?_; rotate_left; · (intro w9 hS9; obtain ⟨z0, z1⟩ := hS9; go_simp; try (with_reducible rfl))
        refine rtk 5 100 (v := ?_) hS ?_ ?_; rotate_left; · (intro w9 hS9; obtain ⟨z0, z1⟩ := hS9; go_simp; try (with_reducible rfl))
        refine rtk 6 101 (v := ?_) hS ?_ ?_; rotate_left; · (intro w9 hS9; obtain ⟨z0, z1⟩ := hS9; go_simp; try (with_reducible rfl))
        refine rtk 7 102 (v := ?_) hS ?_ ?_; rotate_left; · (intro w9 hS9; obtain ⟨z0, z1⟩ := hS9; go_simp; try (with_reducible rfl))
        refine rtk 8 103 (v := ?_) hS ?_ ?_; rotate_left; · (intro w9 hS9; obtain ⟨z0, z1⟩ := hS9; go_simp; try (with_reducible rfl))
        refine rtk 9 104 (v := ?_) hS ?_ ?_; rotate_left; · (intro w9 hS9; obtain ⟨z0, z1⟩ := hS9; go_simp; try (with_reducible rfl))
        refine region_call 10 rfl (by kernel_rfl) (fun K hK => ?_)
        go_simp
        (with_reducible refine vhH.out.mono ?_)
        rintro e w6 ⟨rfl, rfl⟩
        go_simp
        refine hK.out _ _ hS ?_
        clear hK hS K
        intro hS
        try simp only [Act.put, List.setIfInBounds_toArray, List.set_cons_zero, List.set_cons_succ]
        refine rtk 11 106 (v := ?_) hS ?_ ?_; rotate_left; · (intro w9 hS9; obtain ⟨z0, z1⟩ := hS9; go_simp; try (with_reducible rfl))
        refine wpAnyH_done (by kernel_rfl) ?_ _
        clear hS
        clear vhH hbd pa hbd4
        go_wp2_with fail
        rw [hw4H.out]
        try rw [hovH.out]
        clear hw4H
        go_loopw [11, 10] (fun kv nv wr => rc5Rel l w4 (fun k => memB (usI l a) (nmI l k) && candB l first out (nmI l k)) kv nv wr) (fun kv _ _ => l.length - (intOf kv).toNat)
        case atStart => exact hst5.out
        case round =>
         obtain ⟨k, v, rfl, hk, rfl, hL5, hB5⟩ := hrel
         by_cases hkl : k < l.length
         ·have hkk : (k : Int) < (l.length : Int) := by omega
          have hbd : Below wr.heap.size wr wr.drew := Below.drew (.refl _ _)
          have hw4r : w4.heap.size ≤ wr.heap.size := hB5.size
          obtain ⟨pk, -⟩ := ((hH.out.below hB4H.out).below hB5).nmc hkl
          have pa := cell_later hB5 pa4
          have ps := cell_later hB5 (OwnB.cell hO4H.out hSoH.out.1.symm k (by rw [hSoH.out.1]; exact hkl)).1
          have hgs : sh.getD k false = sh[k]'(by rw [hSoH.out.1]; exact hkl) := by rw [List.getD_eq_getElem?_getD, List.getElem?_eq_getElem (by rw [hSoH.out.1]; exact hkl)]; rfl
          rw [← hgs] at ps
          have hcd := cit_cand hkl hfn hSoH.out.2
          obtain ⟨aS, cS, eS, hSb⟩ := OwnB.bools hO4H.out
          injection eS with i1 i2 i3
          subst i1 i3
          clear i2
          have vc := rcited_any (some ⟨b, off, none⟩) (some ⟨w.heap.size, 0, none⟩) lc l.length l sh wr.drew (((hH.out.below hB4H.out).below hB5).below hbd) hokH.out ((hSb.below hB5).below hbd) hSoH.out.1 k hkl
          have vh := rHas_any aU cU (usI l a) (nmI l k) wr.drew ((hUH.out.below hB5).below hbd)
          rw [hUn] at vh
          obtain ⟨nk, hnk⟩ : ∃ nk, nmI l k = nk := ⟨_, rfl⟩
          rw [hnk] at pk vh
          obtain ⟨hm, hhm⟩ : ∃ hm, memB (usI l a) nk = hm := ⟨_, rfl⟩
          rw [hhm] at vh
          obtain ⟨cf, hcl⟩ : ∃ cf, citeB l sh k f = cf := ⟨_, rfl⟩
          obtain ⟨sk, hsk⟩ : ∃ sk, sh.getD k false = sk := ⟨_, rfl⟩
          rw [hsk] at ps hcd
          rw [hcl] at hcd
          have hP : (fun k => memB (usI l a) (nmI l k) && candB l first out (nmI l k)) k = (hm && (!sk && cf)) := by
           show (memB (usI l a) (nmI l k) && candB l first out (nmI l k)) = _
           rw [← hcd, hnk, hhm]
          have hPH := Lib.hid hP
          have vcH := Lib.hid vc
          have vhH := Lib.hid vh
          have hL5H := Lib.hid hL5
          have hB5H := Lib.hid hB5
          have hnkH := Lib.hid hnk
          clear hP vc vh hL5 hB5 hSb hgs hcd hhm hsk hnk
          cases hm with
          | false =>
           go_wp2_with fail
           refine wp_region_held_drew (S := fun w' => w'.cell? ⟨b, off + a * 5 + 3, none⟩ = some (.slice aU nU cU) ∧ w'.cell? ⟨b, off + k * 5, none⟩ = some (.string nk) ∧ w'.cell? ⟨w.heap.size, k, none⟩ = some (.bool sk)) (by kernel_rfl) ⟨cell_later hbd pa, cell_later hbd pk, cell_later hbd ps⟩ (fun hS => ?_)
           refine rtk 0 113 (v := ?_) hS ?_ ?_; rotate_left; · (intro w9 hS9; obtain ⟨z0, z1, z2⟩ := hS9; go_simp; try (with_reducible rfl))
           refine rtk 1 114 (v := ?_) hS ?_ ?_; rotate_left; · (intro w9 hS9; obtain ⟨z0, z1, z2⟩ := hS9; go_simp; try (with_reducible rfl))
           refine rtk 2 115 (v := ?_) hS ?_ ?_; rotate_left; · (intro w9 hS9; obtain ⟨z0, z1, z2⟩ := hS9; go_simp; try (with_reducible rfl))
           refine rtk 3 116 (v := ?_) hS ?_ ?_; rotate_left; · (intro w9 hS9; obtain ⟨z0, z1, z2⟩ := hS9; go_simp; try (with_reducible rfl))
           refine rtk 4 117 (v := ?_) hS ?_ ?_; rotate_left; · (intro w9 hS9; obtain ⟨z0, z1, z2⟩ := hS9; go_simp; try (with_reducible rfl))
           refine rtk 5 118 (v := ?_) hS ?_ ?_; rotate_left; · (intro w9 hS9; obtain ⟨z0, z1, z2⟩ := hS9; go_simp; try (with_reducible rfl))
           refine rtk 6 119 (v := ?_) hS ?_ ?_; rotate_left; · (intro w9 hS9; obtain ⟨z0, z1, z2⟩ := hS9; go_simp; try (with_reducible rfl))
           refine rtk 7 120 (v := ?_) hS ?_ ?_; rotate_left; · (intro w9 hS9; obtain ⟨z0, z1, z2⟩ := hS9; go_simp; try (with_reducible rfl))
           refine rtk 8 121 (v := ?_) hS ?_ ?_; rotate_left; · (intro w9 hS9; obtain ⟨z0, z1, z2⟩ := hS9; go_simp; try (with_reducible rfl))
           refine rtk 9 122 (v := ?_) hS ?_ ?_; rotate_left; · (intro w9 hS9; obtain ⟨z0, z1, z2⟩ := hS9; go_simp; try (with_reducible rfl))
           refine region_call 10 rfl (by kernel_rfl) (fun K hK => ?_)
           go_simp
           (with_reducible refine vhH.out.mono ?_)
           rintro e w6 ⟨rfl, rfl⟩
           go_simp
           refine hK.out _ _ hS ?_
           clear hK hS K
           intro hS
           try simp only [Act.put, List.setIfInBounds_toArray, List.set_cons_zero, List.set_cons_succ]
           refine rtk 11 124 (v := ?_) hS ?_ ?_; rotate_left; · (intro w9 hS9; obtain ⟨z0, z1, z2⟩ := hS9; go_simp; try (with_reducible rfl))
           refine rsk 12 125 hS ?_
           refine rsk 13 126 hS ?_
           refine rsk 14 127 hS ?_
           refine rsk 15 128 hS ?_
           refine rsk 16 129 hS ?_
           refine rtk 17 130 (v := ?_) hS ?_ ?_; rotate_left; · (intro w9 hS9; obtain ⟨z0, z1, z2⟩ := hS9; go_simp; try (with_reducible rfl))
           refine rtk 18 131 (v := ?_) hS ?_ ?_; rotate_left; · (intro w9 hS9; obtain ⟨z0, z1, z2⟩ := hS9; go_simp; try (with_reducible rfl))
           refine rsk 19 132 hS ?_
           refine rsk 20 133 hS ?_
           refine rsk 21 134 hS ?_
           refine rsk 22 135 hS ?_
           refine rsk 23 136 hS ?_
           refine rsk 24 137 hS ?_
           refine rsk 25 138 hS ?_
           refine rtk 26 139 (v := ?_) hS ?_ ?_; rotate_left; · (intro w9 hS9; obtain ⟨z0, z1, z2⟩ := hS9; go_simp; try (with_reducible rfl))
           refine rtk 27 140 (v := ?_) hS ?_ ?_; rotate_left; · (intro w9 hS9; obtain ⟨z0, z1, z2⟩ := hS9; go_simp; try (with_reducible rfl))
           refine rsk 28 141 hS ?_
           refine rsk 29 142 hS ?_
           refine rsk 30 143 hS ?_
           refine rsk 31 144 hS ?_
           refine rsk 32 145 hS ?_
           refine rsk 33 146 hS ?_
           refine rsk 34 147 hS ?_
           refine rsk 35 148 hS ?_
           refine rsk 36 149 hS ?_
           refine rsk 37 150 hS ?_
           refine rsk 38 151 hS ?_
           refine rsk 39 152 hS ?_
           refine rsk 40 153 hS ?_
           refine rsk 41 154 hS ?_
           refine rsk 42 155 hS ?_
           refine rtk 43 156 (v := ?_) hS ?_ ?_; rotate_left; · (intro w9 hS9; obtain ⟨z0, z1, z2⟩ := hS9; go_simp; try (with_reducible rfl))
           refine wpAnyH_done (by kernel_rfl) ?_ _
           clear hS
           have hfin := Lib.hid (show rc5Rel l w4 (fun k => memB (usI l a) (nmI l k) && candB l first out (nmI l k)) (.int .i64 ((k : Int) + 1)) (.int .i64 v) wr.drew from ⟨k + 1, _, by simp, hkl, rfl, hL5H.out.skip (by rw [hPH.out]; rfl), bcall hB5H.out hbd⟩)
           go_wp2_with fail
           go_roundw
           case rel => exact hfin.out
           case measure => simp [intOf]; omega
          | true =>
           cases sk with
           | true =>
            go_wp2_with fail
            refine wp_region_held_drew (S := fun w' => w'.cell? ⟨b, off + a * 5 + 3, none⟩ = some (.slice aU nU cU) ∧ w'.cell? ⟨b, off + k * 5, none⟩ = some (.string nk) ∧ w'.cell? ⟨w.heap.size, k, none⟩ = some (.bool true)) (by kernel_rfl) ⟨cell_later hbd pa, cell_later hbd pk, cell_later hbd ps⟩ (fun hS => ?_)
            refine rtk 0 113 (v := ?_) hS ?_ ?_; rotate_left; · (intro w9 hS9; obtain ⟨z0, z1, z2⟩ := hS9; go_simp; try (with_reducible rfl))
            refine rtk 1 114 (v := ?_) hS ?_ ?_; rotate_left; · (intro w9 hS9; obtain ⟨z0, z1, z2⟩ := hS9; go_simp; try (with_reducible rfl))
            refine rtk 2 115 (v := ?_) hS ?_ ?_; rotate_left; · (intro w9 hS9; obtain ⟨z0, z1, z2⟩ := hS9; go_simp; try (with_reducible rfl))
            refine rtk 3 116 (v := ?_) hS ?_ ?_; rotate_left; · (intro w9 hS9; obtain ⟨z0, z1, z2⟩ := hS9; go_simp; try (with_reducible rfl))
            refine rtk 4 117 (v := ?_) hS ?_ ?_; rotate_left; · (intro w9 hS9; obtain ⟨z0, z1, z2⟩ := hS9; go_simp; try (with_reducible rfl))
            refine rtk 5 118 (v := ?_) hS ?_ ?_; rotate_left; · (intro w9 hS9; obtain ⟨z0, z1, z2⟩ := hS9; go_simp; try (with_reducible rfl))
            refine rtk 6 119 (v := ?_) hS ?_ ?_; rotate_left; · (intro w9 hS9; obtain ⟨z0, z1, z2⟩ := hS9; go_simp; try (with_reducible rfl))
            refine rtk 7 120 (v := ?_) hS ?_ ?_; rotate_left; · (intro w9 hS9; obtain ⟨z0, z1, z2⟩ := hS9; go_simp; try (with_reducible rfl))
            refine rtk 8 121 (v := ?_) hS ?_ ?_; rotate_left; · (intro w9 hS9; obtain ⟨z0, z1, z2⟩ := hS9; go_simp; try (with_reducible rfl))
            refine rtk 9 122 (v := ?_) hS ?_ ?_; rotate_left; · (intro w9 hS9; obtain ⟨z0, z1, z2⟩ := hS9; go_simp; try (with_reducible rfl))
            refine region_call 10 rfl (by kernel_rfl) (fun K hK => ?_)
            go_simp
            (with_reducible refine vhH.out.mono ?_)
            rintro e w6 ⟨rfl, rfl⟩
            go_simp
            refine hK.out _ _ hS ?_
            clear hK hS K
            intro hS
            try simp only [Act.put, List.setIfInBounds_toArray, List.set_cons_zero, List.set_cons_succ]
            refine rtk 11 124 (v := ?_) hS ?_ ?_; rotate_left; · (intro w9 hS9; obtain ⟨z0, z1, z2⟩ := hS9; go_simp; try (with_reducible rfl))
            refine rtk 12 125 (v := ?_) hS ?_ ?_; rotate_left; · (intro w9 hS9; obtain ⟨z0, z1, z2⟩ := hS9; go_simp; try (with_reducible rfl))
            refine rtk 13 126 (v := ?_) hS ?_ ?_; rotate_left; · (intro w9 hS9; obtain ⟨z0, z1, z2⟩ := hS9; go_simp; try (with_reducible rfl))
            refine rtk 14 127 (v := ?_) hS ?_ ?_; rotate_left; · (intro w9 hS9; obtain ⟨z0, z1, z2⟩ := hS9; go_simp; try (with_reducible rfl))
            refine rtk 15 128 (v := ?_) hS ?_ ?_; rotate_left; · (intro w9 hS9; obtain ⟨z0, z1, z2⟩ := hS9; go_simp; try (with_reducible rfl))
            refine rtk 16 129 (v := ?_) hS ?_ ?_; rotate_left; · (intro w9 hS9; obtain ⟨z0, z1, z2⟩ := hS9; go_simp; try (with_reducible rfl))
            refine rtk 17 130 (v := ?_) hS ?_ ?_; rotate_left; · (intro w9 hS9; obtain ⟨z0, z1, z2⟩ := hS9; go_simp; try (with_reducible rfl))
            refine rtk 18 131 (v := ?_) hS ?_ ?_; rotate_left; · (intro w9 hS9; obtain ⟨z0, z1, z2⟩ := hS9; go_simp; try (with_reducible rfl))
            refine rsk 19 132 hS ?_
            refine rsk 20 133 hS ?_
            refine rsk 21 134 hS ?_
            refine rsk 22 135 hS ?_
            refine rsk 23 136 hS ?_
            refine rsk 24 137 hS ?_
            refine rsk 25 138 hS ?_
            refine rtk 26 139 (v := ?_) hS ?_ ?_; rotate_left; · (intro w9 hS9; obtain ⟨z0, z1, z2⟩ := hS9; go_simp; try (with_reducible rfl))
            refine rtk 27 140 (v := ?_) hS ?_ ?_; rotate_left; · (intro w9 hS9; obtain ⟨z0, z1, z2⟩ := hS9; go_simp; try (with_reducible rfl))
            refine rsk 28 141 hS ?_
            refine rsk 29 142 hS ?_
            refine rsk 30 143 hS ?_
            refine rsk 31 144 hS ?_
            refine rsk 32 145 hS ?_
            refine rsk 33 146 hS ?_
            refine rsk 34 147 hS ?_
            refine rsk 35 148 hS ?_
            refine rsk 36 149 hS ?_
            refine rsk 37 150 hS ?_
            refine rsk 38 151 hS ?_
            refine rsk 39 152 hS ?_
            refine rsk 40 153 hS ?_
            refine rsk 41 154 hS ?_
            refine rsk 42 155 hS ?_
            refine rtk 43 156 (v := ?_) hS ?_ ?_; rotate_left; · (intro w9 hS9; obtain ⟨z0, z1, z2⟩ := hS9; go_simp; try (with_reducible rfl))
            refine wpAnyH_done (by kernel_rfl) ?_ _
            clear hS
            have hfin := Lib.hid (show rc5Rel l w4 (fun k => memB (usI l a) (nmI l k) && candB l first out (nmI l k)) (.int .i64 ((k : Int) + 1)) (.int .i64 v) wr.drew from ⟨k + 1, _, by simp, hkl, rfl, hL5H.out.skip (by rw [hPH.out]; rfl), bcall hB5H.out hbd⟩)
            go_wp2_with fail
            go_roundw
            case rel => exact hfin.out
            case measure => simp [intOf]; omega
           | false =>
            cases cf with
            | false =>
             go_wp2_with fail
             refine wp_region_held_drew (S := fun w' => w'.cell? ⟨b, off + a * 5 + 3, none⟩ = some (.slice aU nU cU) ∧ w'.cell? ⟨b, off + k * 5, none⟩ = some (.string nk) ∧ w'.cell? ⟨w.heap.size, k, none⟩ = some (.bool false)) (by kernel_rfl) ⟨cell_later hbd pa, cell_later hbd pk, cell_later hbd ps⟩ (fun hS => ?_)
             refine rtk 0 113 (v := ?_) hS ?_ ?_; rotate_left; · (intro w9 hS9; obtain ⟨z0, z1, z2⟩ := hS9; go_simp; try (with_reducible rfl))
             refine rtk 1 114 (v := ?_) hS ?_ ?_; rotate_left; · (intro w9 hS9; obtain ⟨z0, z1, z2⟩ := hS9; go_simp; try (with_reducible rfl))
             refine rtk 2 115 (v := ?_) hS ?_ ?_; rotate_left; · (intro w9 hS9; obtain ⟨z0, z1, z2⟩ := hS9; go_simp; try (with_reducible rfl))
             refine rtk 3 116 (v := ?_) hS ?_ ?_; rotate_left; · (intro w9 hS9; obtain ⟨z0, z1, z2⟩ := hS9; go_simp; try (with_reducible rfl))
             refine rtk 4 117 (v := ?_) hS ?_ ?_; rotate_left; · (intro w9 hS9; obtain ⟨z0, z1, z2⟩ := hS9; go_simp; try (with_reducible rfl))
             refine rtk 5 118 (v := ?_) hS ?_ ?_; rotate_left; · (intro w9 hS9; obtain ⟨z0, z1, z2⟩ := hS9; go_simp; try (with_reducible rfl))
             refine rtk 6 119 (v := ?_) hS ?_ ?_; rotate_left; · (intro w9 hS9; obtain ⟨z0, z1, z2⟩ := hS9; go_simp; try (with_reducible rfl))
             refine rtk 7 120 (v := ?_) hS ?_ ?_; rotate_left; · (intro w9 hS9; obtain ⟨z0, z1, z2⟩ := hS9; go_simp; try (with_reducible rfl))
             refine rtk 8 121 (v := ?_) hS ?_ ?_; rotate_left; · (intro w9 hS9; obtain ⟨z0, z1, z2⟩ := hS9; go_simp; try (with_reducible rfl))
             refine rtk 9 122 (v := ?_) hS ?_ ?_; rotate_left; · (intro w9 hS9; obtain ⟨z0, z1, z2⟩ := hS9; go_simp; try (with_reducible rfl))
             refine region_call 10 rfl (by kernel_rfl) (fun K hK => ?_)
             go_simp
             (with_reducible refine vhH.out.mono ?_)
             rintro e w6 ⟨rfl, rfl⟩
             go_simp
             refine hK.out _ _ hS ?_
             clear hK hS K
             intro hS
             try simp only [Act.put, List.setIfInBounds_toArray, List.set_cons_zero, List.set_cons_succ]
             refine rtk 11 124 (v := ?_) hS ?_ ?_; rotate_left; · (intro w9 hS9; obtain ⟨z0, z1, z2⟩ := hS9; go_simp; try (with_reducible rfl))
             refine rtk 12 125 (v := ?_) hS ?_ ?_; rotate_left; · (intro w9 hS9; obtain ⟨z0, z1, z2⟩ := hS9; go_simp; try (with_reducible rfl))
             refine rtk 13 126 (v := ?_) hS ?_ ?_; rotate_left; · (intro w9 hS9; obtain ⟨z0, z1, z2⟩ := hS9; go_simp; try (with_reducible rfl))
             refine rtk 14 127 (v := ?_) hS ?_ ?_; rotate_left; · (intro w9 hS9; obtain ⟨z0, z1, z2⟩ := hS9; go_simp; try (with_reducible rfl))
             refine rtk 15 128 (v := ?_) hS ?_ ?_; rotate_left; · (intro w9 hS9; obtain ⟨z0, z1, z2⟩ := hS9; go_simp; try (with_reducible rfl))
             refine rtk 16 129 (v := ?_) hS ?_ ?_; rotate_left; · (intro w9 hS9; obtain ⟨z0, z1, z2⟩ := hS9; go_simp; try (with_reducible rfl))
             refine rtk 17 130 (v := ?_) hS ?_ ?_; rotate_left; · (intro w9 hS9; obtain ⟨z0, z1, z2⟩ := hS9; go_simp; try (with_reducible rfl))
             refine rtk 18 131 (v := ?_) hS ?_ ?_; rotate_left; · (intro w9 hS9; obtain ⟨z0, z1, z2⟩ := hS9; go_simp; try (with_reducible rfl))
             refine rtk 19 132 (v := ?_) hS ?_ ?_; rotate_left; · (intro w9 hS9; obtain ⟨z0, z1, z2⟩ := hS9; go_simp; try (with_reducible rfl))
             refine rtk 20 133 (v := ?_) hS ?_ ?_; rotate_left; · (intro w9 hS9; obtain ⟨z0, z1, z2⟩ := hS9; go_simp; try (with_reducible rfl))
             refine rtk 21 134 (v := ?_) hS ?_ ?_; rotate_left; · (intro w9 hS9; obtain ⟨z0, z1, z2⟩ := hS9; go_simp; try (with_reducible rfl))
             refine rtk 23 136 (v := ?_) hS ?_ ?_; rotate_left; · (intro w9 hS9; obtain ⟨z0, z1, z2⟩ := hS9; go_simp; try (with_reducible rfl))
             refine region_call 22 rfl (by kernel_rfl) (fun K hK => ?_)
             go_simp
             (with_reducible refine vcH.out.mono ?_)
             rintro e w6 ⟨vc, rfl, hOc, hbc⟩
             obtain ⟨ac, cc, rfl, hSc⟩ := OwnB.bools hOc
             obtain ⟨bc, oc, rfl, -, qc⟩ := hSc.bool f (by simp; exact hfl)
             simp only [List.getElem_map, List.getElem_range, hcl] at qc
             have hlen1 : ((List.range l.length).map (citeB l sh k)).length = l.length := by simp
             rw [hlen1]
             have hbcH := Lib.hid hbc
             clear hOc hSc hlen1
             go_simp
             refine hK.out _ _ ⟨cell_later hbc hS.1, cell_later hbc hS.2.1, cell_later hbc hS.2.2⟩ ?_
             clear hK hS K
             intro hS
             try simp only [Act.put, List.setIfInBounds_toArray, List.set_cons_zero, List.set_cons_succ]
             clear hbc
             refine rtk 24 137 (v := ?_) hS ?_ ?_; rotate_left; · (intro w9 hS9; obtain ⟨z0, z1, z2⟩ := hS9; go_simp; try (with_reducible rfl))
             refine region_call 25 rfl (by kernel_rfl) (fun K hK => ?_)
             go_simp
             refine hK.out _ _ hS ?_
             clear hK hS K
             intro hS
             try simp only [Act.put, List.setIfInBounds_toArray, List.set_cons_zero, List.set_cons_succ]
             refine rtk 26 139 (v := ?_) hS ?_ ?_; rotate_left; · (intro w9 hS9; obtain ⟨z0, z1, z2⟩ := hS9; go_simp; try (with_reducible rfl))
             refine rtk 27 140 (v := ?_) hS ?_ ?_; rotate_left; · (intro w9 hS9; obtain ⟨z0, z1, z2⟩ := hS9; go_simp; try (with_reducible rfl))
             refine rsk 28 141 hS ?_
             refine rsk 29 142 hS ?_
             refine rsk 30 143 hS ?_
             refine rsk 31 144 hS ?_
             refine rsk 32 145 hS ?_
             refine rsk 33 146 hS ?_
             refine rsk 34 147 hS ?_
             refine rsk 35 148 hS ?_
             refine rsk 36 149 hS ?_
             refine rsk 37 150 hS ?_
             refine rsk 38 151 hS ?_
             refine rsk 39 152 hS ?_
             refine rsk 40 153 hS ?_
             refine rsk 41 154 hS ?_
             refine rsk 42 155 hS ?_
             refine rtk 43 156 (v := ?_) hS ?_ ?_; rotate_left; · (intro w9 hS9; obtain ⟨z0, z1, z2⟩ := hS9; go_simp; try (with_reducible rfl))
             refine wpAnyH_done (by kernel_rfl) ?_ _
             clear hS
             have hfin := Lib.hid (show rc5Rel l w4 (fun k => memB (usI l a) (nmI l k) && candB l first out (nmI l k)) (.int .i64 ((k : Int) + 1)) (.int .i64 v) w6 from ⟨k + 1, _, by simp, hkl, rfl, hL5H.out.skip (by rw [hPH.out]; rfl), bcall hB5H.out (bcall hbd hbcH.out)⟩)
             go_wp2_with fail
             go_roundw
             case rel => exact hfin.out
             case measure => simp [intOf]; omega
            | true =>
             rcases hL5H.out.cases with rfl | ⟨q, rfl, hq⟩
             ·go_wp2_with fail
              refine wp_region_held_drew (S := fun w' => w'.cell? ⟨b, off + a * 5 + 3, none⟩ = some (.slice aU nU cU) ∧ w'.cell? ⟨b, off + k * 5, none⟩ = some (.string nk) ∧ w'.cell? ⟨w.heap.size, k, none⟩ = some (.bool false)) (by kernel_rfl) ⟨cell_later hbd pa, cell_later hbd pk, cell_later hbd ps⟩ (fun hS => ?_)
              refine rtk 0 113 (v := ?_) hS ?_ ?_; rotate_left; · (intro w9 hS9; obtain ⟨z0, z1, z2⟩ := hS9; go_simp; try (with_reducible rfl))
              refine rtk 1 114 (v := ?_) hS ?_ ?_; rotate_left; · (intro w9 hS9; obtain ⟨z0, z1, z2⟩ := hS9; go_simp; try (with_reducible rfl))
              refine rtk 2 115 (v := ?_) hS ?_ ?_; rotate_left; · (intro w9 hS9; obtain ⟨z0, z1, z2⟩ := hS9; go_simp; try (with_reducible rfl))
              refine rtk 3 116 (v := ?_) hS ?_ ?_; rotate_left; · (intro w9 hS9; obtain ⟨z0, z1, z2⟩ := hS9; go_simp; try (with_reducible rfl))
              refine rtk 4 117 (v := ?_) hS ?_ ?_; rotate_left; · (intro w9 hS9; obtain ⟨z0, z1, z2⟩ := hS9; go_simp; try (with_reducible rfl))
              refine rtk 5 118 (v := ?_) hS ?_ ?_; rotate_left; · (intro w9 hS9; obtain ⟨z0, z1, z2⟩ := hS9; go_simp; try (with_reducible rfl))
              refine rtk 6 119 (v := ?_) hS ?_ ?_; rotate_left; · (intro w9 hS9; obtain ⟨z0, z1, z2⟩ := hS9; go_simp; try (with_reducible rfl))
              refine rtk 7 120 (v := ?_) hS ?_ ?_; rotate_left; · (intro w9 hS9; obtain ⟨z0, z1, z2⟩ := hS9; go_simp; try (with_reducible rfl))
              refine rtk 8 121 (v := ?_) hS ?_ ?_; rotate_left; · (intro w9 hS9; obtain ⟨z0, z1, z2⟩ := hS9; go_simp; try (with_reducible rfl))
              refine rtk 9 122 (v := ?_) hS ?_ ?_; rotate_left; · (intro w9 hS9; obtain ⟨z0, z1, z2⟩ := hS9; go_simp; try (with_reducible rfl))
              refine region_call 10 rfl (by kernel_rfl) (fun K hK => ?_)
              go_simp
              (with_reducible refine vhH.out.mono ?_)
              rintro e w6 ⟨rfl, rfl⟩
              go_simp
              refine hK.out _ _ hS ?_
              clear hK hS K
              intro hS
              try simp only [Act.put, List.setIfInBounds_toArray, List.set_cons_zero, List.set_cons_succ]
              refine rtk 11 124 (v := ?_) hS ?_ ?_; rotate_left; · (intro w9 hS9; obtain ⟨z0, z1, z2⟩ := hS9; go_simp; try (with_reducible rfl))
              refine rtk 12 125 (v := ?_) hS ?_ ?_; rotate_left; · (intro w9 hS9; obtain ⟨z0, z1, z2⟩ := hS9; go_simp; try (with_reducible rfl))
              refine rtk 13 126 (v := ?_) hS ?_ ?_; rotate_left; · (intro w9 hS9; obtain ⟨z0, z1, z2⟩ := hS9; go_simp; try (with_reducible rfl))
              refine rtk 14 127 (v := ?_) hS ?_ ?_; rotate_left; · (intro w9 hS9; obtain ⟨z0, z1, z2⟩ := hS9; go_simp; try (with_reducible rfl))
              refine rtk 15 128 (v := ?_) hS ?_ ?_; rotate_left; · (intro w9 hS9; obtain ⟨z0, z1, z2⟩ := hS9; go_simp; try (with_reducible rfl))
              refine rtk 16 129 (v := ?_) hS ?_ ?_; rotate_left; · (intro w9 hS9; obtain ⟨z0, z1, z2⟩ := hS9; go_simp; try (with_reducible rfl))
              refine rtk 17 130 (v := ?_) hS ?_ ?_; rotate_left; · (intro w9 hS9; obtain ⟨z0, z1, z2⟩ := hS9; go_simp; try (with_reducible rfl))
              refine rtk 18 131 (v := ?_) hS ?_ ?_; rotate_left; · (intro w9 hS9; obtain ⟨z0, z1, z2⟩ := hS9; go_simp; try (with_reducible rfl))
              refine rtk 19 132 (v := ?_) hS ?_ ?_; rotate_left; · (intro w9 hS9; obtain ⟨z0, z1, z2⟩ := hS9; go_simp; try (with_reducible rfl))
              refine rtk 20 133 (v := ?_) hS ?_ ?_; rotate_left; · (intro w9 hS9; obtain ⟨z0, z1, z2⟩ := hS9; go_simp; try (with_reducible rfl))
              refine rtk 21 134 (v := ?_) hS ?_ ?_; rotate_left; · (intro w9 hS9; obtain ⟨z0, z1, z2⟩ := hS9; go_simp; try (with_reducible rfl))
              refine rtk 23 136 (v := ?_) hS ?_ ?_; rotate_left; · (intro w9 hS9; obtain ⟨z0, z1, z2⟩ := hS9; go_simp; try (with_reducible rfl))
              refine region_call 22 rfl (by kernel_rfl) (fun K hK => ?_)
              go_simp
              (with_reducible refine vcH.out.mono ?_)
              rintro e w6 ⟨vc, rfl, hOc, hbc⟩
              obtain ⟨ac, cc, rfl, hSc⟩ := OwnB.bools hOc
              obtain ⟨bc, oc, rfl, -, qc⟩ := hSc.bool f (by simp; exact hfl)
              simp only [List.getElem_map, List.getElem_range, hcl] at qc
              have hlen1 : ((List.range l.length).map (citeB l sh k)).length = l.length := by simp
              rw [hlen1]
              have hbcH := Lib.hid hbc
              clear hOc hSc hlen1
              go_simp
              refine hK.out _ _ ⟨cell_later hbc hS.1, cell_later hbc hS.2.1, cell_later hbc hS.2.2⟩ ?_
              clear hK hS K
              intro hS
              try simp only [Act.put, List.setIfInBounds_toArray, List.set_cons_zero, List.set_cons_succ]
              clear hbc
              refine rtk 24 137 (v := ?_) hS ?_ ?_; rotate_left; · (intro w9 hS9; obtain ⟨z0, z1, z2⟩ := hS9; go_simp; try (with_reducible rfl))
              refine region_call 25 rfl (by kernel_rfl) (fun K hK => ?_)
              go_simp
              refine hK.out _ _ hS ?_
              clear hK hS K
              intro hS
              try simp only [Act.put, List.setIfInBounds_toArray, List.set_cons_zero, List.set_cons_succ]
              refine rtk 26 139 (v := ?_) hS ?_ ?_; rotate_left; · (intro w9 hS9; obtain ⟨z0, z1, z2⟩ := hS9; go_simp; try (with_reducible rfl))
              refine rtk 27 140 (v := ?_) hS ?_ ?_; rotate_left; · (intro w9 hS9; obtain ⟨z0, z1, z2⟩ := hS9; go_simp; try (with_reducible rfl))
              refine rtk 28 141 (v := ?_) hS ?_ ?_; rotate_left; · (intro w9 hS9; obtain ⟨z0, z1, z2⟩ := hS9; go_simp; try (with_reducible rfl))
              refine rtk 29 142 (v := ?_) hS ?_ ?_; rotate_left; · (intro w9 hS9; obtain ⟨z0, z1, z2⟩ := hS9; go_simp; try (with_reducible rfl))
              refine rtk 30 143 (v := ?_) hS ?_ ?_; rotate_left; · (intro w9 hS9; obtain ⟨z0, z1, z2⟩ := hS9; go_simp; try (with_reducible rfl))
              refine rsk 31 144 hS ?_
              refine rsk 32 145 hS ?_
              refine rsk 33 146 hS ?_
              refine rsk 34 147 hS ?_
              refine rsk 35 148 hS ?_
              refine rsk 36 149 hS ?_
              refine rsk 37 150 hS ?_
              refine rsk 38 151 hS ?_
              refine rsk 39 152 hS ?_
              refine rsk 40 153 hS ?_
              refine rsk 41 154 hS ?_
              refine rtk 42 155 (v := ?_) hS ?_ ?_; rotate_left; · (intro w9 hS9; obtain ⟨z0, z1, z2⟩ := hS9; go_simp; try (with_reducible rfl))
              refine rtk 43 156 (v := ?_) hS ?_ ?_; rotate_left; · (intro w9 hS9; obtain ⟨z0, z1, z2⟩ := hS9; go_simp; try (with_reducible rfl))
              refine wpAnyH_done (by kernel_rfl) ?_ _
              clear hS
              have hfin := Lib.hid (show rc5Rel l w4 (fun k => memB (usI l a) (nmI l k) && candB l first out (nmI l k)) (.int .i64 ((k : Int) + 1)) (.int .i64 (k : Int)) w6 from ⟨k + 1, _, by simp, hkl, rfl, hL5H.out.first (by rw [hPH.out]; rfl), bcall hB5H.out (bcall hbd hbcH.out)⟩)
              go_wp2_with fail
              go_roundw
              case rel => exact hfin.out
              case measure => simp [intOf]; omega
             ·have hql : q < l.length := by omega
              have hqq : (q : Int) < (l.length : Int) := by omega
              have hq0 : ((q : Int) < 0) = False := eq_false (by omega)
              obtain ⟨pq, -⟩ := ((hH.out.below hB4H.out).below hB5H.out).nmc hql
              obtain ⟨nq, hnq⟩ : ∃ nq, nmI l q = nq := ⟨_, rfl⟩
              rw [hnq] at pq
              obtain ⟨bl, hbl⟩ : ∃ bl, Op.bytesLess nk.toList nq.toList = bl := ⟨_, rfl⟩
              have hlt := hbl
              rw [bytesLess_ltB, ← hnkH.out, ← hnq] at hlt
              have hltH := Lib.hid hlt
              clear hlt hnq
              cases bl with
              | false =>
               go_wp2_with fail
               refine wp_region_held_drew (S := fun w' => w'.cell? ⟨b, off + a * 5 + 3, none⟩ = some (.slice aU nU cU) ∧ w'.cell? ⟨b, off + k * 5, none⟩ = some (.string nk) ∧ w'.cell? ⟨w.heap.size, k, none⟩ = some (.bool false) ∧ w'.cell? ⟨b, off + q * 5, none⟩ = some (.string nq)) (by kernel_rfl) ⟨cell_later hbd pa, cell_later hbd pk, cell_later hbd ps, cell_later hbd pq⟩ (fun hS => ?_)
               refine rtk 0 113 (v := ?_) hS ?_ ?_; rotate_left; · (intro w9 hS9; obtain ⟨z0, z1, z2, z3⟩ := hS9; go_simp; try (with_reducible rfl))
               refine rtk 1 114 (v := ?_) hS ?_ ?_; rotate_left; · (intro w9 hS9; obtain ⟨z0, z1, z2, z3⟩ := hS9; go_simp; try (with_reducible rfl))
               refine rtk 2 115 (v := ?_) hS ?_ ?_; rotate_left; · (intro w9 hS9; obtain ⟨z0, z1, z2, z3⟩ := hS9; go_simp; try (with_reducible rfl))
               refine rtk 3 116 (v := ?_) hS ?_ ?_; rotate_left; · (intro w9 hS9; obtain ⟨z0, z1, z2, z3⟩ := hS9; go_simp; try (with_reducible rfl))
               refine rtk 4 117 (v := ?_) hS ?_ ?_; rotate_left; · (intro w9 hS9; obtain ⟨z0, z1, z2, z3⟩ := hS9; go_simp; try (with_reducible rfl))
               refine rtk 5 118 (v := ?_) hS ?_ ?_; rotate_left; · (intro w9 hS9; obtain ⟨z0, z1, z2, z3⟩ := hS9; go_simp; try (with_reducible rfl))
               refine rtk 6 119 (v := ?_) hS ?_ ?_; rotate_left; · (intro w9 hS9; obtain ⟨z0, z1, z2, z3⟩ := hS9; go_simp; try (with_reducible rfl))
               refine rtk 7 120 (v := ?_) hS ?_ ?_; rotate_left; · (intro w9 hS9; obtain ⟨z0, z1, z2, z3⟩ := hS9; go_simp; try (with_reducible rfl))
               refine rtk 8 121 (v := ?_) hS ?_ ?_; rotate_left; · (intro w9 hS9; obtain ⟨z0, z1, z2, z3⟩ := hS9; go_simp; try (with_reducible rfl))
               refine rtk 9 122 (v := ?_) hS ?_ ?_; rotate_left; · (intro w9 hS9; obtain ⟨z0, z1, z2, z3⟩ := hS9; go_simp; try (with_reducible rfl))
               refine region_call 10 rfl (by kernel_rfl) (fun K hK => ?_)
               go_simp
               (with_reducible refine vhH.out.mono ?_)
               rintro e w6 ⟨rfl, rfl⟩
               go_simp
               refine hK.out _ _ hS ?_
               clear hK hS K
               intro hS
               try simp only [Act.put, List.setIfInBounds_toArray, List.set_cons_zero, List.set_cons_succ]
               refine rtk 11 124 (v := ?_) hS ?_ ?_; rotate_left; · (intro w9 hS9; obtain ⟨z0, z1, z2, z3⟩ := hS9; go_simp; try (with_reducible rfl))
               refine rtk 12 125 (v := ?_) hS ?_ ?_; rotate_left; · (intro w9 hS9; obtain ⟨z0, z1, z2, z3⟩ := hS9; go_simp; try (with_reducible rfl))
               refine rtk 13 126 (v := ?_) hS ?_ ?_; rotate_left; · (intro w9 hS9; obtain ⟨z0, z1, z2, z3⟩ := hS9; go_simp; try (with_reducible rfl))
               refine rtk 14 127 (v := ?_) hS ?_ ?_; rotate_left; · (intro w9 hS9; obtain ⟨z0, z1, z2, z3⟩ := hS9; go_simp; try (with_reducible rfl))
               refine rtk 15 128 (v := ?_) hS ?_ ?_; rotate_left; · (intro w9 hS9; obtain ⟨z0, z1, z2, z3⟩ := hS9; go_simp; try (with_reducible rfl))
               refine rtk 16 129 (v := ?_) hS ?_ ?_; rotate_left; · (intro w9 hS9; obtain ⟨z0, z1, z2, z3⟩ := hS9; go_simp; try (with_reducible rfl))
               refine rtk 17 130 (v := ?_) hS ?_ ?_; rotate_left; · (intro w9 hS9; obtain ⟨z0, z1, z2, z3⟩ := hS9; go_simp; try (with_reducible rfl))
               refine rtk 18 131 (v := ?_) hS ?_ ?_; rotate_left; · (intro w9 hS9; obtain ⟨z0, z1, z2, z3⟩ := hS9; go_simp; try (with_reducible rfl))
               refine rtk 19 132 (v := ?_) hS ?_ ?_; rotate_left; · (intro w9 hS9; obtain ⟨z0, z1, z2, z3⟩ := hS9; go_simp; try (with_reducible rfl))
               refine rtk 20 133 (v := ?_) hS ?_ ?_; rotate_left; · (intro w9 hS9; obtain ⟨z0, z1, z2, z3⟩ := hS9; go_simp; try (with_reducible rfl))
               refine rtk 21 134 (v := ?_) hS ?_ ?_; rotate_left; · (intro w9 hS9; obtain ⟨z0, z1, z2, z3⟩ := hS9; go_simp; try (with_reducible rfl))
               refine rtk 23 136 (v := ?_) hS ?_ ?_; rotate_left; · (intro w9 hS9; obtain ⟨z0, z1, z2, z3⟩ := hS9; go_simp; try (with_reducible rfl))
               refine region_call 22 rfl (by kernel_rfl) (fun K hK => ?_)
               go_simp
               (with_reducible refine vcH.out.mono ?_)
               rintro e w6 ⟨vc, rfl, hOc, hbc⟩
               obtain ⟨ac, cc, rfl, hSc⟩ := OwnB.bools hOc
               obtain ⟨bc, oc, rfl, -, qc⟩ := hSc.bool f (by simp; exact hfl)
               simp only [List.getElem_map, List.getElem_range, hcl] at qc
               have hlen1 : ((List.range l.length).map (citeB l sh k)).length = l.length := by simp
               rw [hlen1]
               have hbcH := Lib.hid hbc
               clear hOc hSc hlen1
               go_simp
               refine hK.out _ _ ⟨cell_later hbc hS.1, cell_later hbc hS.2.1, cell_later hbc hS.2.2.1, cell_later hbc hS.2.2.2⟩ ?_
               clear hK hS K
               intro hS
               try simp only [Act.put, List.setIfInBounds_toArray, List.set_cons_zero, List.set_cons_succ]
               clear hbc
               refine rtk 24 137 (v := ?_) hS ?_ ?_; rotate_left; · (intro w9 hS9; obtain ⟨z0, z1, z2, z3⟩ := hS9; go_simp; try (with_reducible rfl))
               refine region_call 25 rfl (by kernel_rfl) (fun K hK => ?_)
               go_simp
               refine hK.out _ _ hS ?_
               clear hK hS K
               intro hS
               try simp only [Act.put, List.setIfInBounds_toArray, List.set_cons_zero, List.set_cons_succ]
               refine rtk 26 139 (v := ?_) hS ?_ ?_; rotate_left; · (intro w9 hS9; obtain ⟨z0, z1, z2, z3⟩ := hS9; go_simp; try (with_reducible rfl))
               refine rtk 27 140 (v := ?_) hS ?_ ?_; rotate_left; · (intro w9 hS9; obtain ⟨z0, z1, z2, z3⟩ := hS9; go_simp; try (with_reducible rfl))
               refine rtk 28 141 (v := ?_) hS ?_ ?_; rotate_left; · (intro w9 hS9; obtain ⟨z0, z1, z2, z3⟩ := hS9; go_simp; try (with_reducible rfl))
               refine rtk 29 142 (v := ?_) hS ?_ ?_; rotate_left; · (intro w9 hS9; obtain ⟨z0, z1, z2, z3⟩ := hS9; go_simp; try (with_reducible rfl))
               refine rtk 30 143 (v := ?_) hS ?_ ?_; rotate_left; · (intro w9 hS9; obtain ⟨z0, z1, z2, z3⟩ := hS9; go_simp; try (with_reducible rfl))
               refine rtk 31 144 (v := ?_) hS ?_ ?_; rotate_left; · (intro w9 hS9; obtain ⟨z0, z1, z2, z3⟩ := hS9; go_simp; try (with_reducible rfl))
               refine rtk 32 145 (v := ?_) hS ?_ ?_; rotate_left; · (intro w9 hS9; obtain ⟨z0, z1, z2, z3⟩ := hS9; go_simp; try (with_reducible rfl))
               refine rtk 33 146 (v := ?_) hS ?_ ?_; rotate_left; · (intro w9 hS9; obtain ⟨z0, z1, z2, z3⟩ := hS9; go_simp; try (with_reducible rfl))
               refine rtk 34 147 (v := ?_) hS ?_ ?_; rotate_left; · (intro w9 hS9; obtain ⟨z0, z1, z2, z3⟩ := hS9; go_simp; try (with_reducible rfl))
               refine rtk 35 148 (v := ?_) hS ?_ ?_; rotate_left; · (intro w9 hS9; obtain ⟨z0, z1, z2, z3⟩ := hS9; go_simp; try (with_reducible rfl))
               refine rtk 36 149 (v := ?_) hS ?_ ?_; rotate_left; · (intro w9 hS9; obtain ⟨z0, z1, z2, z3⟩ := hS9; go_simp; try (with_reducible rfl))
               refine rtk 37 150 (v := ?_) hS ?_ ?_; rotate_left; · (intro w9 hS9; obtain ⟨z0, z1, z2, z3⟩ := hS9; go_simp; try (with_reducible rfl))
               refine rtk 38 151 (v := ?_) hS ?_ ?_; rotate_left; · (intro w9 hS9; obtain ⟨z0, z1, z2, z3⟩ := hS9; go_simp; try (with_reducible rfl))
               refine rtk 39 152 (v := ?_) hS ?_ ?_; rotate_left; · (intro w9 hS9; obtain ⟨z0, z1, z2, z3⟩ := hS9; go_simp; try (with_reducible rfl))
               refine rtk 40 153 (v := ?_) hS ?_ ?_; rotate_left; · (intro w9 hS9; obtain ⟨z0, z1, z2, z3⟩ := hS9; go_simp; try (with_reducible rfl))
               refine rtk 41 154 (v := ?_) hS ?_ ?_; rotate_left; · (intro w9 hS9; obtain ⟨z0, z1, z2, z3⟩ := hS9; go_simp; try (with_reducible rfl))
               refine rtk 42 155 (v := ?_) hS ?_ ?_; rotate_left; · (intro w9 hS9; obtain ⟨z0, z1, z2, z3⟩ := hS9; go_simp; try (with_reducible rfl))
               refine rtk 43 156 (v := ?_) hS ?_ ?_; rotate_left; · (intro w9 hS9; obtain ⟨z0, z1, z2, z3⟩ := hS9; go_simp; try (with_reducible rfl))
               refine wpAnyH_done (by kernel_rfl) ?_ _
               clear hS
               have hfin := Lib.hid (show rc5Rel l w4 (fun k => memB (usI l a) (nmI l k) && candB l first out (nmI l k)) (.int .i64 ((k : Int) + 1)) (.int .i64 (q : Int)) w6 from ⟨k + 1, _, by simp, hkl, rfl, hL5H.out.keep hltH.out, bcall hB5H.out (bcall hbd hbcH.out)⟩)
               go_wp2_with fail
               go_roundw
               case rel => exact hfin.out
               case measure => simp [intOf]; omega
              | true =>
               go_wp2_with fail
               refine wp_region_held_drew (S := fun w' => w'.cell? ⟨b, off + a * 5 + 3, none⟩ = some (.slice aU nU cU) ∧ w'.cell? ⟨b, off + k * 5, none⟩ = some (.string nk) ∧ w'.cell? ⟨w.heap.size, k, none⟩ = some (.bool false) ∧ w'.cell? ⟨b, off + q * 5, none⟩ = some (.string nq)) (by kernel_rfl) ⟨cell_later hbd pa, cell_later hbd pk, cell_later hbd ps, cell_later hbd pq⟩ (fun hS => ?_)
               refine rtk 0 113 (v := ?_) hS ?_ ?_; rotate_left; · (intro w9 hS9; obtain ⟨z0, z1, z2, z3⟩ := hS9; go_simp; try (with_reducible rfl))
               refine rtk 1 114 (v := ?_) hS ?_ ?_; rotate_left; · (intro w9 hS9; obtain ⟨z0, z1, z2, z3⟩ := hS9; go_simp; try (with_reducible rfl))
               refine rtk 2 115 (v := ?_) hS ?_ ?_; rotate_left; · (intro w9 hS9; obtain ⟨z0, z1, z2, z3⟩ := hS9; go_simp; try (with_reducible rfl))
               refine rtk 3 116 (v := ?_) hS ?_ ?_; rotate_left; · (intro w9 hS9; obtain ⟨z0, z1, z2, z3⟩ := hS9; go_simp; try (with_reducible rfl))
               refine rtk 4 117 (v := ?_) hS ?_ ?_; rotate_left; · (intro w9 hS9; obtain ⟨z0, z1, z2, z3⟩ := hS9; go_simp; try (with_reducible rfl))
               refine rtk 5 118 (v := ?_) hS ?_ ?_; rotate_left; · (intro w9 hS9; obtain ⟨z0, z1, z2, z3⟩ := hS9; go_simp; try (with_reducible rfl))
               refine rtk 6 119 (v := ?_) hS ?_ ?_; rotate_left; · (intro w9 hS9; obtain ⟨z0, z1, z2, z3⟩ := hS9; go_simp; try (with_reducible rfl))
               refine rtk 7 120 (v := ?_) hS ?_ ?_; rotate_left; · (intro w9 hS9; obtain ⟨z0, z1, z2, z3⟩ := hS9; go_simp; try (with_reducible rfl))
               refine rtk 8 121 (v := ?_) hS ?_ ?_; rotate_left; · (intro w9 hS9; obtain ⟨z0, z1, z2, z3⟩ := hS9; go_simp; try (with_reducible rfl))
               refine rtk 9 122 (v := ?_) hS ?_ ?_; rotate_left; · (intro w9 hS9; obtain ⟨z0, z1, z2, z3⟩ := hS9; go_simp; try (with_reducible rfl))
               refine region_call 10 rfl (by kernel_rfl) (fun K hK => ?_)
               go_simp
               (with_reducible refine vhH.out.mono ?_)
               rintro e w6 ⟨rfl, rfl⟩
               go_simp
               refine hK.out _ _ hS ?_
               clear hK hS K
               intro hS
               try simp only [Act.put, List.setIfInBounds_toArray, List.set_cons_zero, List.set_cons_succ]
               refine rtk 11 124 (v := ?_) hS ?_ ?_; rotate_left; · (intro w9 hS9; obtain ⟨z0, z1, z2, z3⟩ := hS9; go_simp; try (with_reducible rfl))
               refine rtk 12 125 (v := ?_) hS ?_ ?_; rotate_left; · (intro w9 hS9; obtain ⟨z0, z1, z2, z3⟩ := hS9; go_simp; try (with_reducible rfl))
               refine rtk 13 126 (v := ?_) hS ?_ ?_; rotate_left; · (intro w9 hS9; obtain ⟨z0, z1, z2, z3⟩ := hS9; go_simp; try (with_reducible rfl))
               refine rtk 14 127 (v := ?_) hS ?_ ?_; rotate_left; · (intro w9 hS9; obtain ⟨z0, z1, z2, z3⟩ := hS9; go_simp; try (with_reducible rfl))
               refine rtk 15 128 (v := ?_) hS ?_ ?_; rotate_left; · (intro w9 hS9; obtain ⟨z0, z1, z2, z3⟩ := hS9; go_simp; try (with_reducible rfl))
               refine rtk 16 129 (v := ?_) hS ?_ ?_; rotate_left; · (intro w9 hS9; obtain ⟨z0, z1, z2, z3⟩ := hS9; go_simp; try (with_reducible rfl))
               refine rtk 17 130 (v := ?_) hS ?_ ?_; rotate_left; · (intro w9 hS9; obtain ⟨z0, z1, z2, z3⟩ := hS9; go_simp; try (with_reducible rfl))
               refine rtk 18 131 (v := ?_) hS ?_ ?_; rotate_left; · (intro w9 hS9; obtain ⟨z0, z1, z2, z3⟩ := hS9; go_simp; try (with_reducible rfl))
               refine rtk 19 132 (v := ?_) hS ?_ ?_; rotate_left; · (intro w9 hS9; obtain ⟨z0, z1, z2, z3⟩ := hS9; go_simp; try (with_reducible rfl))
               refine rtk 20 133 (v := ?_) hS ?_ ?_; rotate_left; · (intro w9 hS9; obtain ⟨z0, z1, z2, z3⟩ := hS9; go_simp; try (with_reducible rfl))
               refine rtk 21 134 (v := ?_) hS ?_ ?_; rotate_left; · (intro w9 hS9; obtain ⟨z0, z1, z2, z3⟩ := hS9; go_simp; try (with_reducible rfl))
               refine rtk 23 136 (v := ?_) hS ?_ ?_; rotate_left; · (intro w9 hS9; obtain ⟨z0, z1, z2, z3⟩ := hS9; go_simp; try (with_reducible rfl))
               refine region_call 22 rfl (by kernel_rfl) (fun K hK => ?_)
               go_simp
               (with_reducible refine vcH.out.mono ?_)
               rintro e w6 ⟨vc, rfl, hOc, hbc⟩
               obtain ⟨ac, cc, rfl, hSc⟩ := OwnB.bools hOc
               obtain ⟨bc, oc, rfl, -, qc⟩ := hSc.bool f (by simp; exact hfl)
               simp only [List.getElem_map, List.getElem_range, hcl] at qc
               have hlen1 : ((List.range l.length).map (citeB l sh k)).length = l.length := by simp
               rw [hlen1]
               have hbcH := Lib.hid hbc
               clear hOc hSc hlen1
               go_simp
               refine hK.out _ _ ⟨cell_later hbc hS.1, cell_later hbc hS.2.1, cell_later hbc hS.2.2.1, cell_later hbc hS.2.2.2⟩ ?_
               clear hK hS K
               intro hS
               try simp only [Act.put, List.setIfInBounds_toArray, List.set_cons_zero, List.set_cons_succ]
               clear hbc
               refine rtk 24 137 (v := ?_) hS ?_ ?_; rotate_left; · (intro w9 hS9; obtain ⟨z0, z1, z2, z3⟩ := hS9; go_simp; try (with_reducible rfl))
               refine region_call 25 rfl (by kernel_rfl) (fun K hK => ?_)
               go_simp
               refine hK.out _ _ hS ?_
               clear hK hS K
               intro hS
               try simp only [Act.put, List.setIfInBounds_toArray, List.set_cons_zero, List.set_cons_succ]
               refine rtk 26 139 (v := ?_) hS ?_ ?_; rotate_left; · (intro w9 hS9; obtain ⟨z0, z1, z2, z3⟩ := hS9; go_simp; try (with_reducible rfl))
               refine rtk 27 140 (v := ?_) hS ?_ ?_; rotate_left; · (intro w9 hS9; obtain ⟨z0, z1, z2, z3⟩ := hS9; go_simp; try (with_reducible rfl))
               refine rtk 28 141 (v := ?_) hS ?_ ?_; rotate_left; · (intro w9 hS9; obtain ⟨z0, z1, z2, z3⟩ := hS9; go_simp; try (with_reducible rfl))
               refine rtk 29 142 (v := ?_) hS ?_ ?_; rotate_left; · (intro w9 hS9; obtain ⟨z0, z1, z2, z3⟩ := hS9; go_simp; try (with_reducible rfl))
               refine rtk 30 143 (v := ?_) hS ?_ ?_; rotate_left; · (intro w9 hS9; obtain ⟨z0, z1, z2, z3⟩ := hS9; go_simp; try (with_reducible rfl))
               refine rtk 31 144 (v := ?_) hS ?_ ?_; rotate_left; · (intro w9 hS9; obtain ⟨z0, z1, z2, z3⟩ := hS9; go_simp; try (with_reducible rfl))
               refine rtk 32 145 (v := ?_) hS ?_ ?_; rotate_left; · (intro w9 hS9; obtain ⟨z0, z1, z2, z3⟩ := hS9; go_simp; try (with_reducible rfl))
               refine rtk 33 146 (v := ?_) hS ?_ ?_; rotate_left; · (intro w9 hS9; obtain ⟨z0, z1, z2, z3⟩ := hS9; go_simp; try (with_reducible rfl))
               refine rtk 34 147 (v := ?_) hS ?_ ?_; rotate_left; · (intro w9 hS9; obtain ⟨z0, z1, z2, z3⟩ := hS9; go_simp; try (with_reducible rfl))
               refine rtk 35 148 (v := ?_) hS ?_ ?_; rotate_left; · (intro w9 hS9; obtain ⟨z0, z1, z2, z3⟩ := hS9; go_simp; try (with_reducible rfl))
               refine rtk 36 149 (v := ?_) hS ?_ ?_; rotate_left; · (intro w9 hS9; obtain ⟨z0, z1, z2, z3⟩ := hS9; go_simp; try (with_reducible rfl))
               refine rtk 37 150 (v := ?_) hS ?_ ?_; rotate_left; · (intro w9 hS9; obtain ⟨z0, z1, z2, z3⟩ := hS9; go_simp; try (with_reducible rfl))
               refine rtk 38 151 (v := ?_) hS ?_ ?_; rotate_left; · (intro w9 hS9; obtain ⟨z0, z1, z2, z3⟩ := hS9; go_simp; try (with_reducible rfl))
               refine rtk 39 152 (v := ?_) hS ?_ ?_; rotate_left; · (intro w9 hS9; obtain ⟨z0, z1, z2, z3⟩ := hS9; go_simp; try (with_reducible rfl))
               refine rtk 40 153 (v := ?_) hS ?_ ?_; rotate_left; · (intro w9 hS9; obtain ⟨z0, z1, z2, z3⟩ := hS9; go_simp; try (with_reducible rfl))
               refine rtk 41 154 (v := ?_) hS ?_ ?_; rotate_left; · (intro w9 hS9; obtain ⟨z0, z1, z2, z3⟩ := hS9; go_simp; try (with_reducible rfl))
               refine rtk 42 155 (v := ?_) hS ?_ ?_; rotate_left; · (intro w9 hS9; obtain ⟨z0, z1, z2, z3⟩ := hS9; go_simp; try (with_reducible rfl))
               refine rtk 43 156 (v := ?_) hS ?_ ?_; rotate_left; · (intro w9 hS9; obtain ⟨z0, z1, z2, z3⟩ := hS9; go_simp; try (with_reducible rfl))
               refine wpAnyH_done (by kernel_rfl) ?_ _
               clear hS
               have hfin := Lib.hid (show rc5Rel l w4 (fun k => memB (usI l a) (nmI l k) && candB l first out (nmI l k)) (.int .i64 ((k : Int) + 1)) (.int .i64 (k : Int)) w6 from ⟨k + 1, _, by simp, hkl, rfl, hL5H.out.less (by rw [hPH.out]; rfl) hltH.out, bcall hB5H.out (bcall hbd hbcH.out)⟩)
               go_wp2_with fail
               go_roundw
               case rel => exact hfin.out
               case measure => simp [intOf]; omega
         ·have hkk : ((k : Int) < (l.length : Int)) = False := eq_false (by omega)
          have hkn : k = l.length := by omega
          rw [hkn] at hL5
          clear hkn
          rcases hL5.cases with rfl | ⟨q, rfl, hq⟩
          ·exact (next_some hdnH.out hal hCiH.out hnoH.out hL5).elim
          ·obtain ⟨hql, hCn⟩ := next_step hdnH.out hal hCiH.out hnoH.out hL5
           have hqq : (q : Int) < (l.length : Int) := by omega
           obtain ⟨pq, zq⟩ := ((hH.out.below hB4H.out).below hB5).nmc hql
           have hout := hCn.size
           rw [List.length_append, List.length_singleton] at hout
           have hw4r : w4.heap.size ≤ wr.heap.size := hB5.size
           have ho5 := hoH.out.call hB5
           have hO5 := OwnL.call hO4H.out hB5
           obtain ⟨v', W', hrun, hop, hg, -⟩ := OwnL.push (P := Tryz.prog) (t := 29) (ty := 29) ho5 Tryz.underlying29 infoStr rfl (vs := [.string (nmI l q)]) (x := nmI l q) ⟨rfl, zq⟩ (by omega) (by unfold big; omega) (by omega)
           have hO6 := OwnL.grown hO5 hg (fun kk hkk e => by have := (OwnL.lt ho5 kk e).1; simp [Value.ownBlock] at hkk; omega) (fun bb hbb _ => hbb.elim)
           have hB6 : Below w.heap.size w W' := (bcall hB4H.out hB5).grown hg (Nat.le_trans hB4H.out.size hw4r) (fun kk e => by have := (OwnL.lt ho5 kk e).1; omega)
           obtain ⟨mc, mf⟩ := OwnB.cell hO6 hSoH.out.1.symm q (by rw [hSoH.out.1]; exact hql)
           obtain ⟨hO7, hg7⟩ := OwnB.set hO6 hSoH.out.1.symm q true
           have hop7 := OwnL.grown hop hg7 (fun kk hkk e => by have := (OwnL.lt hop kk hkk).1; injection e with e; omega) (fun bb hbb _ => hbb.elim)
           have hW' : wr.heap.size ≤ W'.heap.size := hg.size
           have hfin := Lib.hid (show rc4Rel l w first d (.int .i64 q) v' (W'.setCell ⟨w.heap.size, q, none⟩ (.bool true)) from
            ⟨q, out ++ [nmI l q], sh.set q true, rfl, hql, hop7, hSoH.out.next hdnH.out hql, hO7, hCn, hB6.grown hg7 (Nat.le_trans hB4H.out.size (Nat.le_trans hw4r hW')) (fun kk e => by injection e with e; omega), hd1, Nat.le_trans (Nat.le_trans hd2 hw4r) (Nat.le_trans hW' hg7.size)⟩)
           have hms := Lib.hid (show l.length + 1 - lenS v' < l.length + 1 - lenS ov0 by
            rw [lenS_eq hop, lenS_eq hoH.out, List.length_append, List.length_singleton]; omega)
           clear hL5 hCn hop hO6 hB6 hO7 hg7 hop7 ho5 hO5 hg hB5
           generalize nmI l q = nq at *
           go_wp2_with (at_builtin; refine wpList_append_run rfl _ _ _ rfl rfl rfl hrun ?_)
           go_roundw
           case rel => exact hfin.out
           case measure => first | exact hms.out | (rw [hovH.out]; exact hms.out)
end Go.Proofs.YtpmnnoopoblpgaaGreat

/- Walks: Holds, Shaken, Sound, Strongest, SameTerm of the reference. -/
namespace Go.Proofs.YtpmnnoopoblpgaaGreat
open Go Go.RowKit Go.Maps

set_option maxHeartbeats 400000 in
theorem SameTermD_any {S1 S2 : Nat → Prop} (a1 a2 : Option Addr) (c1 c2 : Nat) (l1 l2 : List Int) (w : World) (h1 : Ints S1 w a1 c1 l1) (h2 : Ints S2 w a2 c2 l2) :
  Calls Tryz.prog 38 #[.slice a1 l1.length c1, .slice a2 l2.length c2] w fun e w' => e = .returned (.bool (decide (l1 = l2))) ∧ Drew w w' := by
 have m1 := h1.le
 have m2 := h2.le
 by_cases hl : l1.length = l2.length
 ·have hlH := Lib.hid hl
  go_enter Tryz.func38, Tryz.ntmps38
  go_wp2
  clear hl
  go_loopw [5] (fun i wr => ∃ k : Nat, k ≤ l1.length ∧ i = .int .i64 k ∧ l1.take k = l2.take k ∧ Drew w wr) (fun i _ => l1.length - (intOf i).toNat)
  case atStart => exact ⟨0, by omega, rfl, rfl, .refl _⟩
  case round =>
   obtain ⟨k, hk, rfl, ht, n, rfl⟩ := hrel
   have htH := Lib.hid ht
   clear ht
   have hle := hlH.out
   by_cases hlt : k < l1.length
   ·have hlt2 : k < l2.length := by omega
    obtain ⟨b1, o1, rfl, -, q1, -⟩ := h1.int k hlt
    obtain ⟨b2, o2, rfl, -, q2, -⟩ := h2.int k hlt2
    clear h1 h2 hle
    go_wp2
    go_quiet (fail)
    all_goals go_wp2
    ·go_ret
     exact ⟨ret_bool (decide_eq_false (take_ne hlt hlt2 (by assumption))).symm, .mk2 _ _ _⟩
    ·exact ⟨⟨k + 1, by omega, by go_num, take_succ_eq hlt hlt2 htH.out (by assumption), .mk _ _⟩, by simp [intOf]; omega⟩
   ·clear hle
    have hk2 : ¬ k < l2.length := by have := hlH.out; omega
    go_wp2
    go_ret
    exact ⟨ret_bool (decide_eq_true (take_all_eq hlH.out hk2 htH.out)).symm, .mk _ _⟩
 ·go_enter Tryz.func38, Tryz.ntmps38
  have hb := int_ne hl
  go_wp2
  go_ret
  exact ⟨ret_bool (decide_eq_false (fun e => hl (by rw [e]))).symm, .refl _⟩
set_option maxHeartbeats 1000000 in
theorem rHoldsN_any {S1 S2 : Nat → Prop} (sa la : Option Addr) (sc lc : Nat) (s : Sg) (l : List Ent) (n : ByteArray) (w : World) (h1 : Sign S1 w sa sc s) (h2 : LibL S2 w la lc l) :
  Calls Tryz.prog 29 #[.slice sa s.length sc, .slice la l.length lc, .string n] w fun e w' => e = .returned (.tuple #[.bool (holdE s l n).1, .int .i64 (holdE s l n).2]) ∧ Below w.heap.size w w' := by
 have v := rFind_any sa la sc lc s l n w h1 h2
 have m := h2.le
 have m1 := h1.le
 obtain ⟨r, hr⟩ : ∃ r, holdE s l n = r := ⟨_, rfl⟩
 rw [hr]
 have h1H := Lib.hid h1
 have h2H := Lib.hid h2
 clear h1 h2
 by_cases hok : okLib s l = true
 ·cases hat : atN l n with
  | none =>
   have hfe : findE s l n = (0, 5) := by unfold findE; rw [if_pos hok, hat]
   have hf := Lib.hid (show r = (false, 5) by rw [← hr]; unfold holdE; rw [if_pos hok, hat])
   rw [hfe] at v
   have vH := Lib.hid v
   clear v hok hat hfe hr
   go_enter Tryz.func29, Tryz.ntmps29
   go_wp2_with fail
   refine vH.out.mono ?_
   rintro e w1 ⟨rfl, hb⟩
   have hbH := Lib.hid hb
   clear hb
   go_wp2_with fail
   go_ret2
   exact ⟨by rw [hf.out]; rfl, hbH.out⟩
  | some i =>
   have hfe : findE s l n = ((i : Int), 0) := by unfold findE; rw [if_pos hok, hat]
   have hf := Lib.hid (show r = (holdX s l i, 0) by rw [← hr]; unfold holdE; rw [if_pos hok, hat])
   obtain ⟨hi, -⟩ := atN_some hat
   have hokH := Lib.hid hok
   rw [hfe] at v
   have vH := Lib.hid v
   clear v hok hat hfe hr
   go_enter Tryz.func29, Tryz.ntmps29
   go_wp2_with fail
   refine vH.out.mono ?_
   rintro e w1 ⟨rfl, hb⟩
   have vh := Lib.hid (rholds_any sa la sc lc s l w1 (h1H.out.below hb) (h2H.out.below hb) hokH.out i hi)
   have hbH := Lib.hid hb
   clear hb
   go_wp2_with fail
   refine vh.out.mono ?_
   rintro e w2 ⟨rfl, hb2⟩
   have hb2H := Lib.hid (bcall hbH.out hb2)
   clear hb2
   go_wp2_with fail
   go_ret2
   exact ⟨by rw [hf.out]; rfl, hb2H.out⟩
 ·have hfe : findE s l n = (0, 1) := by unfold findE; rw [if_neg hok]
  have hf := Lib.hid (show r = (false, 1) by rw [← hr]; unfold holdE; rw [if_neg hok])
  rw [hfe] at v
  have vH := Lib.hid v
  clear v hok hfe hr
  go_enter Tryz.func29, Tryz.ntmps29
  go_wp2_with fail
  refine vH.out.mono ?_
  rintro e w1 ⟨rfl, hb⟩
  have hbH := Lib.hid hb
  clear hb
  go_wp2_with fail
  go_ret2
  exact ⟨by rw [hf.out]; rfl, hbH.out⟩
theorem noneB_len {f : ByteArray → Bool} {L : List ByteArray} (h : ∀ x, x ∈ L ↔ f x = true) : (((L.length : Nat) : Int) == 0) = noneB f := by
 unfold noneB
 rw [Bool.eq_iff_iff]
 simp only [beq_iff_eq, decide_eq_true_eq]
 constructor
 ·intro hz x
  have hL : L = [] := List.length_eq_zero_iff.1 (by omega)
  subst hL
  cases e : f x with
  | false => rfl
  | true => exact absurd ((h x).2 e) (by simp)
 ·intro hn
  cases L with
  | nil => rfl
  | cons x r => have := (h x).1 (by simp); rw [hn x] at this; cases this
set_option maxHeartbeats 1000000 in
theorem rwholeL_any {S : Nat → Prop} (la : Option Addr) (lc : Nat) (s : Sg) (l : List Ent) (w : World) (h : LibL S w la lc l) (hok : okLib s l = true) :
  Calls Tryz.prog 94 #[.slice la l.length lc] w fun e w' => e = .returned (.bool (noneB (misB l) && noCirc l)) ∧ Below w.heap.size w w' := by
 have m := h.le
 have vm := Lib.hid (rmissing_any la lc s l w h hok)
 have hH := Lib.hid h
 have hokH := Lib.hid hok
 clear h hok
 go_enter Tryz.func94, Tryz.ntmps94
 go_wp2_with fail
 refine vm.out.mono ?_
 rintro e w1 ⟨v, L, rfl, hO, -, hm, hb⟩
 obtain ⟨a, c, rfl, hS⟩ := OwnS.strs hO
 have hz := noneB_len hm
 have mS := hS.le
 have vc := Lib.hid (rcircle_any la lc l w1 (hH.out.below hb) hokH.out)
 have hbH := Lib.hid hb
 clear hO hm hb hS
 obtain ⟨nb, hnb⟩ : ∃ nb, noneB (misB l) = nb := ⟨_, rfl⟩
 rw [hnb] at hz
 have hnbH := Lib.hid hnb
 clear hnb
 generalize L.length = nL at *
 cases nb with
 | false =>
  go_wp2_with fail
  go_ret
  exact ⟨ret_bool (by rw [hnbH.out]; rfl), hbH.out⟩
 | true =>
  go_wp2_with fail
  refine vc.out.mono ?_
  rintro e w2 ⟨C, hC, hv, hb2⟩
  have hb2H := Lib.hid (bcall hbH.out hb2)
  cases C with
  | none =>
   obtain rfl := hv
   have hnl := Lib.run_eql_slice_nil (P := Tryz.prog) w2 29 9 none 0 0 0 0 Tryz.underlying29
   have hR := Lib.hid (noCirc_none hC)
   clear hC hb2
   go_wp2_with fail
   go_ret
   exact ⟨ret_bool (by rw [hnbH.out, hR.out]; rfl), hb2H.out⟩
  | some M =>
   obtain ⟨v, rfl, hne, ho⟩ := hv
   obtain ⟨a2, c2, rfl, hS⟩ := OwnS.strs ho
   cases a2 with
   | none => exact (hne (by rw [(hS.nil rfl).1]; rfl)).elim
   | some ad =>
    have hnl := Lib.run_eql_slice_nil (P := Tryz.prog) w2 29 9 (some ad) M.length c2 0 0 Tryz.underlying29
    have hR := Lib.hid (noCirc_some hC)
    clear hC hb2 ho hS hne
    go_wp2_with fail
    go_ret
    exact ⟨ret_bool (by rw [hnbH.out, hR.out]; rfl), hb2H.out⟩
theorem sound_eq (s : Sg) (l : List Ent) (b : Bool) : (noneB (chB l (fun i => !holdX s l i)) && (noneB (misB l) && b)) = ((noneB (misB l) && b) && noneB (faiB s l)) := by
 have h : noneB (faiB s l) = (noneB (misB l) && noneB (chB l (fun i => !holdX s l i))) := by
  unfold noneB
  rw [Bool.eq_iff_iff]
  simp only [Bool.and_eq_true, decide_eq_true_eq]
  unfold faiB
  constructor
  ·intro h
   exact ⟨fun x => ((Bool.or_eq_false_iff.1 (h x)).1), fun x => ((Bool.or_eq_false_iff.1 (h x)).2)⟩
  ·rintro ⟨h1, h2⟩ x
   rw [h1 x, h2 x]; rfl
 rw [h]
 cases noneB (misB l) <;> cases noneB (chB l fun i => !holdX s l i) <;> cases b <;> rfl
set_option maxHeartbeats 1000000 in
theorem rSound_any {S1 S2 : Nat → Prop} (sa la : Option Addr) (sc lc : Nat) (s : Sg) (l : List Ent) (w : World) (h1 : Sign S1 w sa sc s) (h2 : LibL S2 w la lc l) :
  Calls Tryz.prog 33 #[.slice sa s.length sc, .slice la l.length lc] w fun e w' => e = .returned (.tuple #[.bool (soundE s l (noCirc l)).1, .int .i64 (soundE s l (noCirc l)).2]) ∧ Below w.heap.size w w' := by
 have vf := rFailing_any sa la sc lc s l w h1 h2
 have m := h2.le
 have m1 := h1.le
 have h2H := Lib.hid h2
 clear h1 h2
 obtain ⟨r, hr⟩ : ∃ r, soundE s l (noCirc l) = r := ⟨_, rfl⟩
 rw [hr]
 by_cases hok : okLib s l = true
 ·have hf : failE s l = (chB l (fun i => !holdX s l i), 0) := by unfold failE; rw [if_pos hok]
  have hrr := Lib.hid (show r = ((noneB (chB l (fun i => !holdX s l i)) && (noneB (misB l) && noCirc l)), 0) by rw [← hr]; unfold soundE; rw [if_pos hok, sound_eq])
  rw [hf] at vf
  have vfH := Lib.hid vf
  have hokH := Lib.hid hok
  clear vf hf hr hok
  go_enter Tryz.func33, Tryz.ntmps33
  go_wp2_with fail
  refine vfH.out.mono ?_
  rintro e w1 ⟨v, L, rfl, hO, -, hm, hb⟩
  obtain ⟨a, c, rfl, hS⟩ := OwnS.strs hO
  have hz := noneB_len hm
  have mS := hS.le
  have vw := Lib.hid (rwholeL_any la lc s l w1 (h2H.out.below hb) hokH.out)
  have hbH := Lib.hid hb
  clear hO hm hb hS
  generalize noneB (chB l fun i => !holdX s l i) = nb at *
  generalize (noneB (misB l) && noCirc l) = nw at *
  generalize L.length = nL at *
  cases nb with
  | false =>
   go_wp2_with fail
   go_ret2
   exact ⟨by rw [hrr.out]; rfl, hbH.out⟩
  | true =>
   go_wp2_with fail
   refine vw.out.mono ?_
   rintro e w2 ⟨rfl, hb2⟩
   have hb2H := Lib.hid (bcall hbH.out hb2)
   clear hb2
   go_wp2_with fail
   go_ret2
   exact ⟨by rw [hrr.out]; rfl, hb2H.out⟩
 ·have hf : failE s l = (fun _ => false, 1) := by unfold failE; rw [if_neg hok]
  have hrr := Lib.hid (show r = (false, 1) by rw [← hr]; unfold soundE; rw [if_neg hok])
  rw [hf] at vf
  have vfH := Lib.hid vf
  clear vf hf hr hok
  go_enter Tryz.func33, Tryz.ntmps33
  go_wp2_with fail
  refine vfH.out.mono ?_
  rintro e w1 ⟨v, L, rfl, hO, -, -, hb⟩
  obtain ⟨a, c, rfl, hS⟩ := OwnS.strs hO
  have hbH := Lib.hid hb
  clear hO hb hS
  go_wp2_with fail
  go_ret2
  exact ⟨by rw [hrr.out]; rfl, hbH.out⟩
end Go.Proofs.YtpmnnoopoblpgaaGreat

/- Walks: Shaken and Strongest of the reference. -/
namespace Go.Proofs.YtpmnnoopoblpgaaGreat
open Go Go.RowKit Go.Maps

set_option maxHeartbeats 1000000 in
theorem rShakenN_any {S1 S2 : Nat → Prop} (sa la : Option Addr) (sc lc : Nat) (s : Sg) (l : List Ent) (w : World) (h1 : Sign S1 w sa sc s) (h2 : LibL S2 w la lc l) :
  Calls Tryz.prog 35 #[.slice sa s.length sc, .slice la l.length lc] w (NamesRet (shakE s l).1 (shakE s l).2 w) := by
 have v := rVld_any sa la sc lc s l w h1 h2
 have m := h2.le
 have m1 := h1.le
 have h1H := Lib.hid h1
 have h2H := Lib.hid h2
 have vH := Lib.hid v
 clear v h1 h2
 cases hok : okLib s l with
 | false =>
  rw [hok] at vH
  have hf := Lib.hid (show shakE s l = (fun _ => false, 1) by unfold shakE; rw [hok]; rfl)
  clear hok
  go_enter Tryz.func35, Tryz.ntmps35
  go_wp2_with fail
  refine vH.out.mono ?_
  rintro e w1 ⟨rfl, hb⟩
  have hbH := Lib.hid hb
  clear hb
  go_wp2_with fail
  go_ret2
  rw [hf.out]
  exact NamesRet.nil hbH.out
 | true =>
  rw [hok] at vH
  have hl60 := (okLib_parts hok).2.1
  have hd := (okLib_parts hok).2.2.2
  have hf := Lib.hid (show shakE s l = (chB l (fun i => holdX s l i && !goodB s l i), 0) by unfold shakE; rw [hok]; rfl)
  have hmm := Lib.hid (show (List.range l.length).map (shkB s l) = (List.range l.length).map (fun i => holdX s l i && !goodB s l i) from List.map_congr_left fun i hi => shk_good hd (List.mem_range.1 hi))
  have hokH := Lib.hid hok
  clear hok hd
  go_enter Tryz.func35, Tryz.ntmps35
  go_wp2_with fail
  refine vH.out.mono ?_
  rintro e w1 ⟨rfl, hb⟩
  have vh := Lib.hid (rshaken_any sa la sc lc s l w1 (h1H.out.below hb) (h2H.out.below hb) hokH.out)
  have hbH := Lib.hid hb
  clear hb
  go_wp2_with fail
  refine vh.out.mono ?_
  rintro e w2 ⟨v2, rfl, hO, hb⟩
  obtain ⟨a2, c2, rfl, hS⟩ := OwnB.bools hO
  have hb2 := bcall hbH.out hb
  rw [hmm.out] at hS
  have vc := rchosen_any la a2 lc c2 l (fun i => holdX s l i && !goodB s l i) w2 (h2H.out.below hb2) hS (by omega)
  have hlen : ((List.range l.length).map (shkB s l)).length = l.length := by simp
  rw [hlen]
  have vcH := Lib.hid vc
  have hb3H := Lib.hid hb2
  clear vc hS hO hb hb2 hlen
  go_wp2_with fail
  refine vcH.out.mono ?_
  rintro e w4 hso
  obtain ⟨v, rfl, hN⟩ := hso.names hb3H.out
  have hNH := Lib.hid (hN 0)
  clear hN hso
  go_wp2_with fail
  go_ret2
  rw [hf.out]
  exact hNH.out
theorem term_copied {S : Nat → Prop} {a : Option Addr} {c : Nat} {t : List Int} {w : World} (h : Ints S w a c t) (hl : t.length ≤ 1000000) :
  ∃ a' c' w', (Builtin.append_ #[26, 26] 26 #[.slice (some ⟨w.heap.size, 0, none⟩) 0 0, .slice a t.length c]).run Tryz.prog (w.alloc (.cells #[] 3)) = .ok (.slice a' t.length c') w' ∧ Ints (fun _ => True) w' a' c' t ∧ Below w.heap.size w w' := by
 obtain ⟨v', w', hrun, ho, hg, -, -⟩ := (OwnL.made intE (fun _ => False) w w.heap.size 3 (Nat.le_refl _)).append_run (P := Tryz.prog) (t := 26) (ty := 26) Tryz.underlying26 infoInt rfl (h.below (below1 w (.cells #[] 3))) (fun _ _ _ h => h) (by simp; omega) (by unfold big; simp; omega) (by simp)
 have hB : Below w.heap.size w w' := (below1 w (.cells #[] 3)).grown hg (by simp) (fun k e => by simp [Value.ownBlock] at e; omega)
 rw [List.nil_append] at ho
 obtain ⟨a', c', rfl, hI⟩ := OwnL.sl ho
 exact ⟨a', c', w', hrun, hI.weak (fun _ _ => trivial), hB⟩
set_option maxRecDepth 100000 in
set_option maxHeartbeats 4000000 in
theorem rStrongest_any {S1 S2 : Nat → Prop} (sa la : Option Addr) (sc lc : Nat) (s : Sg) (l : List Ent) (n : ByteArray) (w : World) (h1 : Sign S1 w sa sc s) (h2 : LibL S2 w la lc l) :
  Calls Tryz.prog 37 #[.slice sa s.length sc, .slice la l.length lc, .string n] w (StgRet (strgE s l n) w) := by
 have v := rFind_any sa la sc lc s l n w h1 h2
 have m := h2.le
 have m1 := h1.le
 obtain ⟨r, hr⟩ : ∃ r, strgE s l n = r := ⟨_, rfl⟩
 rw [hr]
 have h1H := Lib.hid h1
 have h2H := Lib.hid h2
 clear h1 h2
 by_cases hok : okLib s l = true
 ·cases hat : atN l n with
  | none =>
   have hfe : findE s l n = (0, 5) := by unfold findE; rw [if_pos hok, hat]
   have hf := Lib.hid (show r = ([], 5) by rw [← hr]; unfold strgE; rw [if_pos hok, hat])
   rw [hfe] at v
   have vH := Lib.hid v
   clear v hok hat hfe hr
   go_enter Tryz.func37, Tryz.ntmps37
   go_wp2_with fail
   refine vH.out.mono ?_
   rintro e w1 ⟨rfl, hb⟩
   have hbH := Lib.hid hb
   clear hb
   go_wp2_with fail
   go_ret2
   rw [hf.out]
   exact StgRet.nil hbH.out
  | some i =>
   have hfe : findE s l n = ((i : Int), 0) := by unfold findE; rw [if_pos hok, hat]
   have hf := Lib.hid (show r = (match strX s l i with | some t => (t, 0) | none => ([], 11)) by rw [← hr]; unfold strgE; rw [if_pos hok, hat] <;> rfl)
   obtain ⟨hi, -⟩ := atN_some hat
   obtain ⟨b, off, a1, c1, a2, c2, a3, c3, rfl, -, p0, p1, p2, p3, p4, z1, z2, hI, hU, hP⟩ := h2H.out.ent i hi
   have hu12 := (okLib_uses hok (List.getElem_mem hi)).1
   have hts : (eSays l[i]).length ≤ 1000000 := by
    have h1 := (okLib_parts hok).2.2.1 l[i] (List.getElem_mem hi)
    exact okT_lim (okEnt_says h1)
   have hsx : strX s l i = (if ePf l[i] = [] then some (eSays l[i]) else if inAll l (eUses l[i]) = true then (if (saysE s (givF l (eUses l[i])) (ePf l[i])).2 = 0 then some (saysE s (givF l (eUses l[i])) (ePf l[i])).1 else none) else none) := by unfold strX; rw [getD_at hi]
   have hii : (i : Int) < (l.length : Int) := by omega
   have mI := hI.le
   have mU := hU.le
   have mP := hP.le
   rw [hfe] at v
   have vH := Lib.hid v
   have hsxH := Lib.hid hsx
   have hIH := Lib.hid hI
   have hUH := Lib.hid hU
   have hPH := Lib.hid hP
   have hpz : ePf l[i] = [] ↔ (ePf l[i]).length = 0 := List.length_eq_zero_iff.symm
   clear v hok hat hfe hr z1 z2 hI hU hP hsx
   generalize eNm l[i] = nm at *
   generalize eBy l[i] = bn at *
   generalize eUses l[i] = us at *
   generalize ePf l[i] = pf at *
   generalize eSays l[i] = t at *
   have va := fun W => raxiom_any a1 a2 a3 c1 c2 c3 t.length us.length nm bn pf.length W
   have vaH := Lib.hid va
   clear va
   go_enter Tryz.func37, Tryz.ntmps37
   go_wp2_with fail
   refine vH.out.mono ?_
   rintro e w1 ⟨rfl, hb⟩
   have r0 := cell_later hb p0
   have r1 := cell_later hb p1
   have r2 := cell_later hb p2
   have r3 := cell_later hb p3
   have r4 := cell_later hb p4
   have hbH := Lib.hid hb
   have va1 := Lib.hid (vaH.out w1)
   clear hb p0 p1 p2 p3 p4
   go_wp2_with fail
   refine va1.out.mono ?_
   rintro e w2 ⟨rfl, hb⟩
   have p0 := cell_later hb r0
   have p1 := cell_later hb r1
   have p2 := cell_later hb r2
   have p3 := cell_later hb r3
   have p4 := cell_later hb r4
   have hb2H := Lib.hid (bcall hbH.out hb)
   clear hb r0 r1 r2 r3 r4
   by_cases hz : pf.length = 0
   ·have hzz : ((pf.length : Int) == 0) = true := by rw [hz]; rfl
    obtain ⟨a', c', w3, hrun, hI3, hb3⟩ := term_copied (hIH.out.below hb2H.out) hts
    have hrr := Lib.hid (show r = (t, 0) by rw [hf.out, hsxH.out, if_pos (hpz.2 hz)])
    have hfin := Lib.hid (And.intro hI3 (bcall hb2H.out hb3))
    have p2' := cell_later (below1 w2 (.cells #[] 3)) p2
    clear hI3 hb3 hz hpz
    go_wp2_with (at_builtin; refine wpList_append_run rfl _ _ _ rfl rfl rfl hrun ?_)
    go_ret2
    rw [hrr.out]
    exact ⟨a', c', rfl, hfin.out.1, hfin.out.2⟩
   ·have hzz : ((pf.length : Int) == 0) = false := by rw [beq_eq_false_iff_ne]; omega
    have hne : ¬ pf = [] := fun e => hz (hpz.1 e)
    have vg := Lib.hid (rGivens_any (some ⟨b, off, none⟩) lc l us nm bn t.length pf.length a1 a2 a3 c1 c2 c3 w2 (h2H.out.below hb2H.out) (hUH.out.below hb2H.out) (by omega))
    have hneH := Lib.hid hne
    clear hz hpz hne
    go_wp2_with fail
    refine vg.out.mono ?_
    rintro e w3 ⟨hb, hg⟩
    have q0 := cell_later hb p0
    have q1 := cell_later hb p1
    have q2 := cell_later hb p2
    have q3 := cell_later hb p3
    have q4 := cell_later hb p4
    have hb3H := Lib.hid (bcall hb2H.out hb)
    rcases hg with ⟨hin, rfl⟩ | ⟨hin, v, rfl, ho⟩
    ·have hrr := Lib.hid (show r = ([], 11) by rw [hf.out, hsxH.out, if_neg hneH.out, if_neg (by rw [hin]; simp)])
     clear hb hin
     go_wp2_with fail
     go_ret2
     rw [hrr.out]
     exact StgRet.nil hb3H.out
    ·obtain ⟨ag, cg, rfl, hT⟩ := OwnL.sl ho
     have hrr := Lib.hid (show r = (if (saysE s (givF l us) pf).2 = 0 then ((saysE s (givF l us) pf).1, 0) else ([], 11)) by
      rw [hf.out, hsxH.out, if_neg hneH.out, if_pos hin]
      by_cases h : (saysE s (givF l us) pf).2 = 0
      ·rw [if_pos h, if_pos h]
      ·rw [if_neg h, if_neg h])
     have mT := hT.le
     have vs := Lib.hid (rSays_any sa ag a3 sc cg c3 s (givF l us) pf w3 (h1H.out.below hb3H.out) hT (hPH.out.below hb3H.out))
     clear hb hin ho hT
     generalize saysE s (givF l us) pf = R at *
     obtain ⟨rt, re⟩ := R
     go_wp2_with fail
     refine vs.out.mono ?_
     rintro e w4 ⟨a, c, rfl, hI, hb⟩
     have hb4H := Lib.hid (bcall hb3H.out hb)
     have hI4H := Lib.hid hI
     clear hb hI
     by_cases he : re = 0
     ·subst he
      go_wp2_with fail
      go_ret2
      rw [hrr.out]
      exact ⟨a, c, rfl, hI4H.out, hb4H.out⟩
     ·have heb : (re != 0) = true := by simp [bne_iff_ne]; exact he
      have hr2 := Lib.hid (show r = ([], 11) by rw [hrr.out, if_neg he])
      clear he
      go_wp2_with fail
      go_ret2
      rw [hr2.out]
      exact StgRet.nil hb4H.out
 ·have hfe : findE s l n = (0, 1) := by unfold findE; rw [if_neg hok]
  have hf := Lib.hid (show r = ([], 1) by rw [← hr]; unfold strgE; rw [if_neg hok])
  rw [hfe] at v
  have vH := Lib.hid v
  clear v hok hfe hr
  go_enter Tryz.func37, Tryz.ntmps37
  go_wp2_with fail
  refine vH.out.mono ?_
  rintro e w1 ⟨rfl, hb⟩
  have hbH := Lib.hid hb
  clear hb
  go_wp2_with fail
  go_ret2
  rw [hf.out]
  exact StgRet.nil hbH.out
end Go.Proofs.YtpmnnoopoblpgaaGreat
