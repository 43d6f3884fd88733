/- The proof of a statement, some of its texts joined in build order: part K. -/
import Derived.Test.YtpmnnoopoblpgaaGreatRegS
import Derived.Test.YtpmnnoopoblpgaaGreatMlJ
import Derived.Test.YtpmnnoopoblpgaaGreatMlP
import Derived.Test.YtpmnnoopoblpgaaGreatMlH
import Derived.Test.YtpmnnoopoblpgaaGreatMlI
/- What leans on what, told by marks and told by names. No program is named. -/
namespace Go.Proofs.YtpmnnoopoblpgaaGreat

theorem chB_congr {l : List Ent} {p q : Nat → Bool} (h : ∀ i, i < l.length → p i = q i) : chB l p = chB l q := by
 funext x
 rw [Bool.eq_iff_iff, chB_iff, chB_iff]
 constructor
 ·rintro ⟨i, hi, h1, h2⟩; exact ⟨i, hi, by rw [← h i hi]; exact h1, h2⟩
 ·rintro ⟨i, hi, h1, h2⟩; exact ⟨i, hi, by rw [h i hi]; exact h1, h2⟩
theorem leanI_eq {l : List Ent} {i n : Nat} (hn : n < l.length) : leanI l i n = rchB l (fun _ => true) (nmI l i) (nmI l n) := by
 rw [Bool.eq_iff_iff, leanI_iff hn]
theorem leans_eq {l : List Ent} (hd : (l.map eNm).Nodup) {n : ByteArray} {i : Nat} (hat : atN l n = some i) : chB l (leanI l i) = fun x => rchB l (fun _ => true) n x && (atN l x).isSome := by
 funext x
 rw [chB_at hd]
 obtain ⟨hi, e⟩ := nmI_of hat
 cases hx : atN l x with
 | none => simp
 | some k =>
  obtain ⟨hk, e2⟩ := nmI_of hx
  show leanI l i k = _
  rw [leanI_eq hk, e, e2]
  simp
theorem users_eq {l : List Ent} {n : ByteArray} {i : Nat} (hat : atN l n = some i) : chB l (fun k => leanI l k i) = chB l (fun k => rchB l (fun _ => true) (nmI l k) n) := by
 obtain ⟨hi, e⟩ := nmI_of hat
 exact chB_congr fun k _ => by rw [leanI_eq hi, e]
def axI (l : List Ent) (i : Nat) : Bool := decide (ePf (l.getD i default) = [])
theorem axI_at {l : List Ent} {i : Nat} (h : i < l.length) : axI l i = decide (ePf l[i] = []) := by unfold axI; rw [getD_at h]
theorem okEnt_ax {s : Sg} {x : Ent} (h : okEnt s x = true) (hp : ePf x = []) : eUses x = [] := by
 unfold okEnt at h
 simp only [Bool.and_eq_true, Bool.or_eq_true, decide_eq_true_eq] at h
 rcases h.2.2 with h | h
 ·exact h.1
 ·rw [hp] at h
  unfold proofB validP at h
  simp at h
noncomputable def axiomsF (l : List Ent) (n : ByteArray) (i : Nat) : ByteArray → Bool :=
 if axI l i = true then (fun x => decide (x = n)) else chB l (fun k => axI l k && rchB l (fun _ => true) n (nmI l k))
theorem rch_no {us : ByteArray → List ByteArray} {may : ByteArray → Prop} {n y : ByteArray} (h : Rch us may n y) (h0 : us n = []) : False := by
 obtain ⟨v, hv, -⟩ := h.head
 rw [h0] at hv; cases hv
theorem axioms_eq {s : Sg} {l : List Ent} (hok : okLib s l = true) {n : ByteArray} {i : Nat} (hat : atN l n = some i) :
  chB l (fun k => (decide (k = i) || leanI l i k) && axI l k) = axiomsF l n i := by
 obtain ⟨-, -, hE, hd⟩ := okLib_prts hok
 obtain ⟨hi, e⟩ := nmI_of hat
 unfold axiomsF
 by_cases ha : axI l i = true
 ·rw [if_pos ha]
  have hu : usesN l n = [] := by
   rw [← e, usesN_nmI hd hi, usI_at hi]
   rw [axI_at hi, decide_eq_true_eq] at ha
   exact okEnt_ax (hE _ (List.getElem_mem hi)) ha
  funext x
  rw [chB_at hd, Bool.eq_iff_iff, decide_eq_true_eq]
  cases hx : atN l x with
  | none =>
   simp only [Bool.false_eq_true, false_iff]
   intro ex
   rw [ex, hat] at hx; cases hx
  | some k =>
   obtain ⟨hk, e2⟩ := nmI_of hx
   simp only [Bool.and_eq_true, Bool.or_eq_true, decide_eq_true_eq]
   constructor
   ·rintro ⟨h1 | h1, -⟩
    ·rw [← e2, h1, e]
    ·exfalso
     rw [leanI_eq hk, rchB_iff, e] at h1
     exact rch_no h1 hu
   ·intro ex
    rw [ex, hat] at hx
    injection hx with hx
    exact ⟨.inl hx.symm, by rw [← hx]; exact ha⟩
 ·rw [if_neg ha]
  refine chB_congr fun k hk => ?_
  rw [leanI_eq hk, e]
  by_cases ek : k = i
  ·subst ek
   have : axI l k = false := by simpa using ha
   rw [this]; simp
  ·rw [decide_eq_false ek, Bool.false_or, Bool.and_comm]
def citedB (l : List Ent) (u : ByteArray) : Bool := l.any (fun x => memB (eUses x) u)
theorem idle_eq (l : List Ent) : chB l (fun i => (List.range l.length).all (fun k => !memB (usI l k) (nmI l i))) = chB l (fun i => !citedB l (nmI l i)) := by
 refine chB_congr fun i _ => ?_
 rw [Bool.eq_iff_iff, List.all_eq_true, Bool.not_eq_true']
 unfold citedB
 rw [List.any_eq_false]
 constructor
 ·intro h x hx
  obtain ⟨k, hk, rfl⟩ := List.getElem_of_mem hx
  have := h k (List.mem_range.2 hk)
  rw [usI_at hk, Bool.not_eq_true'] at this
  rw [this]; simp
 ·intro h k hk
  have hk' := List.mem_range.1 hk
  have := h _ (List.getElem_mem hk')
  rw [usI_at hk']
  simpa using this
/-! ### layers -/
def layU (l : List Ent) (i : Nat) (o : List Int) (u : ByteArray) : List Int := o.set i (max (o.getD i 0) (o.getD ((atN l u).getD 0) 0 + 1))
def layI (l : List Ent) (o : List Int) (i : Nat) : List Int := (usI l i).foldl (layU l i) o
def layL (l : List Ent) (T : List Nat) : List Int := T.foldl (layI l) (List.replicate l.length 0)
def LayB (M : Int) (o : List Int) : Prop := ∀ j, 0 ≤ o.getD j 0 ∧ o.getD j 0 ≤ M
theorem LayB.zero (n : Nat) : LayB 0 (List.replicate n 0) := fun j => by
 rw [List.getD_eq_getElem?_getD, List.getElem?_replicate]
 split <;> simp
theorem LayB.step {M : Int} {o : List Int} (h : LayB M o) (l : List Ent) (i : Nat) (u : ByteArray) : LayB (M + 1) (layU l i o u) := by
 intro j
 have h1 := h i
 have h2 := h ((atN l u).getD 0)
 have h3 := h j
 unfold layU
 rw [List.getD_eq_getElem?_getD, List.getElem?_set]
 split
 ·split
  ·simp only [Option.getD_some]; omega
  ·simp; omega
 ·rw [← List.getD_eq_getElem?_getD]; omega
end Go.Proofs.YtpmnnoopoblpgaaGreat

/- Walks: deps.Axioms. -/
namespace Go.Proofs.YtpmnnoopoblpgaaGreat
open Go Go.RowKit Go.Maps

set_option maxHeartbeats 1000000 in
theorem ax1_fn {B xb b1 b2 ob M m : Nat} {w : World} {s : Sg} {l : List Ent} {f : ByteArray → Bool} (h : DLib B w xb s l) (hb1 : b1 < B) (hb2 : b2 < B) (hob : ob < B) (hc1 : w.cell? ⟨b1, 0, none⟩ = some (.pointer (some ⟨xb, 0, none⟩))) (hc2 : w.cell? ⟨b2, 0, none⟩ = some (.map (some ob))) (hS : SSet w ob M m f) :
  IxFn 109 #[.pointer (some ⟨b1, 0, none⟩), .pointer (some ⟨b2, 0, none⟩)] l.length (fun i => axI l i && f (nmI l i)) B w := by
 refine ⟨enters_of Tryz.func109 (by kernel_rfl) rfl, fun i hi W hB => ?_⟩
 have q1 := (hB.cell (p := ⟨b1, 0, none⟩) hb1).trans hc1
 have q2 := (hB.cell (p := ⟨b2, 0, none⟩) hb2).trans hc2
 have hD := h.below hB
 obtain ⟨sa, sc, la, lc, bm, hO⟩ := hD.op
 have p1 := hO.q1
 have hok := hO.ok
 obtain ⟨b, off, a1, c1, a2, c2, a3, c3, rfl, -, r0, r1, r2, r3, r4, z1, z2, hI, hU, hP⟩ := hO.hL.ent i hi
 have hnm : (eNm l[i]).size ≤ big := z1
 have hlk := (hS.below hB hob).look (tm := 88) Tryz.underlying88 Tryz.underlying9 Tryz.underlying4 (zBool W) (eNm l[i]) (big_max hnm)
 have hdr : Below W.heap.size W W.drew := Below.drew (.refl _ _)
 have va := axiom_any (hD.call hdr) i hi
 have e0 : nmI l i = eNm l[i] := nmI_at hi
 have e1 : axI l i = decide (ePf l[i] = []) := axI_at hi
 simp only [e0]
 rw [← e1] at va
 have hlkd : (Instr.lookup 88 (.map (some ob)) (.string (eNm l[i])) false).run Tryz.prog W.drew = .ok (.bool (f (eNm l[i]))) W.drew := ((hS.below hB hob).below hdr (hS.below hB hob).lt).look (tm := 88) Tryz.underlying88 Tryz.underlying9 Tryz.underlying4 (zBool W.drew) (eNm l[i]) (big_max hnm)
 have hk0 : W.drew.cell? ⟨b1, 0, none⟩ = some (.pointer (some ⟨xb, 0, none⟩)) ∧ W.drew.cell? ⟨xb, 1, none⟩ = some (.slice (some ⟨b, off, none⟩) l.length lc) ∧ W.drew.cell? ⟨b, off + i * 5, none⟩ = some (.string (eNm l[i])) ∧ W.drew.cell? ⟨b2, 0, none⟩ = some (.map (some ob)) :=
  ⟨cell_later hdr q1, cell_later hdr p1, cell_later hdr r0, cell_later hdr q2⟩
 have hii : (i : Int) < (l.length : Int) := by omega
 have hml := hO.hL.le
 clear hlk hO hD q1 q2 p1 r0 r1 r2 r3 r4 hI hU hP z1 z2 hS hB h hc1 hc2 e0 e1 hok
 generalize axI l i = ax at *
 generalize eNm l[i] = nm at *
 generalize f nm = fn at *
 have vaH := Lib.hid va
 have hdrH := Lib.hid hdr
 obtain ⟨Wd, hWd⟩ : ∃ Wd, W.drew = Wd := ⟨_, rfl⟩
 rw [hWd] at hk0 hlkd vaH hdrH
 obtain ⟨k1, k2, k3, k4⟩ := hk0
 clear va hdr
 cases ax with
 | true =>
  go_enter Tryz.func109, Tryz.ntmps109
  go_wp2_with fail
  refine wp_region_held_drew (S := fun w' => w' = Wd) (by kernel_rfl) hWd (fun hS => ?_)
  refine rtk 0 5 (v := ?_) hS ?_ ?_; rotate_left; · (intro w9 hS9; subst hS9; go_simp; try (with_reducible rfl))
  refine rtk 1 6 (v := ?_) hS ?_ ?_; rotate_left; · (intro w9 hS9; subst hS9; go_simp; try (with_reducible rfl))
  have hWe := hS
  rw [hWe]
  refine region_call 2 rfl (by kernel_rfl) (fun K hK => ?_)
  go_simp
  (with_reducible refine vaH.out.mono ?_)
  rintro e w6 ⟨rfl, rfl⟩
  go_simp
  refine hK.out _ _ rfl ?_
  clear hK hS K
  intro hS
  try simp only [Act.put, List.setIfInBounds_toArray, List.set_cons_zero, List.set_cons_succ]
  refine rtk 3 8 (v := ?_) hS ?_ ?_; rotate_left; · (intro w9 hS9; subst hS9; go_simp; try (with_reducible rfl))
  refine rtk 4 9 (v := ?_) hS ?_ ?_; rotate_left; · (intro w9 hS9; subst hS9; go_simp; try (with_reducible rfl))
  refine rtk 5 10 (v := ?_) hS ?_ ?_; rotate_left; · (intro w9 hS9; subst hS9; go_simp; try (with_reducible rfl))
  refine rtk 6 11 (v := ?_) hS ?_ ?_; rotate_left; · (intro w9 hS9; subst hS9; go_simp; try (with_reducible rfl))
  refine rtk 7 12 (v := ?_) hS ?_ ?_; rotate_left; · (intro w9 hS9; subst hS9; go_simp; try (with_reducible rfl))
  refine rtk 8 13 (v := ?_) hS ?_ ?_; rotate_left; · (intro w9 hS9; subst hS9; go_simp; try (with_reducible rfl))
  refine rtk 9 14 (v := ?_) hS ?_ ?_; rotate_left; · (intro w9 hS9; subst hS9; go_simp; try (with_reducible rfl))
  refine rtk 10 15 (v := ?_) hS ?_ ?_; rotate_left; · (intro w9 hS9; subst hS9; go_simp; try (with_reducible rfl))
  refine rtk 11 16 (v := ?_) hS ?_ ?_; rotate_left; · (intro w9 hS9; subst hS9; go_simp; try (with_reducible rfl))
  refine rtk 12 17 (v := ?_) hS ?_ ?_; rotate_left; · (intro w9 hS9; subst hS9; go_simp; try (with_reducible rfl))
  refine rtk 13 18 (v := ?_) hS ?_ ?_; rotate_left; · (intro w9 hS9; subst hS9; go_simp; try (with_reducible rfl))
  refine rtk 14 19 (v := ?_) hS ?_ ?_; rotate_left; · (intro w9 hS9; subst hS9; go_simp; try (with_reducible rfl))
  refine rtk 15 4 (v := ?_) hS ?_ ?_; rotate_left; · (intro w9 hS9; subst hS9; go_simp; try (with_reducible rfl))
  refine wpAnyH_done (by kernel_rfl) ?_ _
  clear hS
  go_wp2_with fail
  go_ret
  exact ⟨rfl, hdrH.out⟩
 | false =>
  go_enter Tryz.func109, Tryz.ntmps109
  go_wp2_with fail
  refine wp_region_held_drew (S := fun w' => w' = Wd) (by kernel_rfl) hWd (fun hS => ?_)
  refine rtk 0 5 (v := ?_) hS ?_ ?_; rotate_left; · (intro w9 hS9; subst hS9; go_simp; try (with_reducible rfl))
  refine rtk 1 6 (v := ?_) hS ?_ ?_; rotate_left; · (intro w9 hS9; subst hS9; go_simp; try (with_reducible rfl))
  have hWe := hS
  rw [hWe]
  refine region_call 2 rfl (by kernel_rfl) (fun K hK => ?_)
  go_simp
  (with_reducible refine vaH.out.mono ?_)
  rintro e w6 ⟨rfl, rfl⟩
  go_simp
  refine hK.out _ _ rfl ?_
  clear hK hS K
  intro hS
  try simp only [Act.put, List.setIfInBounds_toArray, List.set_cons_zero, List.set_cons_succ]
  refine rtk 3 8 (v := ?_) hS ?_ ?_; rotate_left; · (intro w9 hS9; subst hS9; go_simp; try (with_reducible rfl))
  refine rsk 4 9 hS ?_
  refine rsk 5 10 hS ?_
  refine rsk 6 11 hS ?_
  refine rsk 7 12 hS ?_
  refine rsk 8 13 hS ?_
  refine rsk 9 14 hS ?_
  refine rsk 10 15 hS ?_
  refine rsk 11 16 hS ?_
  refine rsk 12 17 hS ?_
  refine rsk 13 18 hS ?_
  refine rtk 14 19 (v := ?_) hS ?_ ?_; rotate_left; · (intro w9 hS9; subst hS9; go_simp; try (with_reducible rfl))
  refine rtk 15 4 (v := ?_) hS ?_ ?_; rotate_left; · (intro w9 hS9; subst hS9; go_simp; try (with_reducible rfl))
  refine wpAnyH_done (by kernel_rfl) ?_ _
  clear hS
  go_wp2_with fail
  go_ret
  exact ⟨rfl, hdrH.out⟩
noncomputable def axsE (s : Sg) (l : List Ent) (n : ByteArray) : (ByteArray → Bool) × Int :=
 if okLib s l = true then (match atN l n with | some i => (axiomsF l n i, 0) | none => (fun _ => false, 5)) else (fun _ => false, 1)
theorem axsE_bad {s : Sg} {l : List Ent} {n : ByteArray} (h : okLib s l = false) : axsE s l n = (fun _ => false, 1) := by unfold axsE; rw [h]; rfl
theorem axsE_no {s : Sg} {l : List Ent} {n : ByteArray} (h : okLib s l = true) (ha : atN l n = none) : axsE s l n = (fun _ => false, 5) := by unfold axsE; rw [h, ha]; rfl
theorem axsE_yes {s : Sg} {l : List Ent} {n : ByteArray} {i : Nat} (h : okLib s l = true) (ha : atN l n = some i) : axsE s l n = (axiomsF l n i, 0) := by unfold axsE; rw [h, ha]; rfl
set_option maxRecDepth 100000 in
set_option maxHeartbeats 1000000 in
theorem Axioms_any {S1 S2 : Nat → Prop} (sa la : Option Addr) (sc lc : Nat) (s : Sg) (l : List Ent) (n : ByteArray) (hn : n.size ≤ big) (w : World) (h1 : Sign S1 w sa sc s) (h2 : LibL S2 w la lc l) (hl : l.length ≤ 1000) :
  Calls Tryz.prog 47 #[.slice sa s.length sc, .slice la l.length lc, .string n] w (NamesRet (axsE s l n).1 (axsE s l n).2 w) := by
 have v := dnamed_any sa la sc lc s l n hn w h1 h2 hl
 have m := h2.le
 have m1 := h1.le
 have hnH := Lib.hid hn
 obtain ⟨r, hr⟩ : ∃ r, axsE s l n = r := ⟨_, rfl⟩
 rw [hr]
 have vH := Lib.hid v
 have hrH := Lib.hid hr
 clear v h1 h2 hr hn
 go_enter Tryz.func47, Tryz.ntmps47
 go_wp2_with fail
 refine vH.out.mono ?_
 rintro e w1 ⟨hb, h⟩
 have hbH := Lib.hid hb
 rcases h with ⟨hok, rfl⟩ | ⟨hok, hat, rfl⟩ | ⟨hok, i, xb, hat, hxb, rfl, hD⟩
 ·have hfH := Lib.hid (hrH.out.symm.trans (axsE_bad hok))
  have hbn := Lib.hid (bcall hbH.out (below1 w1 (.cells #[.pointer none] 61)))
  clear hb hok vH
  go_wp2_with fail
  go_ret2
  rw [hfH.out]
  exact NamesRet.nil hbn.out
 ·have hfH := Lib.hid (hrH.out.symm.trans (axsE_no hok hat))
  have hbn := Lib.hid (bcall hbH.out (below1 w1 (.cells #[.pointer none] 61)))
  clear hb hok vH hat
  go_wp2_with fail
  go_ret2
  rw [hfH.out]
  exact NamesRet.nil hbn.out
 ·obtain ⟨hi, -⟩ := nmI_of hat
  have hf := axsE_yes hok hat
  have hd := (okLib_parts hok).2.2.2
  obtain ⟨W, hW⟩ : ∃ W, w1.alloc (.cells #[.pointer (some ⟨xb, 0, none⟩)] 61) = W := ⟨_, rfl⟩
  have hBW : Below w1.heap.size w1 W := by rw [← hW]; exact below1 w1 _
  have r4 : W.cell? ⟨w1.heap.size, 0, none⟩ = some (.pointer (some ⟨xb, 0, none⟩)) := by rw [← hW]; clear hW; go_simp
  have hws1 : w1.heap.size < W.heap.size := by rw [← hW]; simp
  have hDW := hD.call hBW
  have va := axiom_any hDW i hi
  rw [← axI_at hi] at va
  have vl := Lib.hid (leans_any hDW n hnH.out)
  have hDWH := Lib.hid hDW
  have hbn := Lib.hid (bcall hbH.out hBW)
  have hWH := Lib.hid hW
  have r4H := Lib.hid r4
  cases hax : axI l i with
  | true =>
   rw [hax] at va
   have vaH := Lib.hid va
   have hfe := Lib.hid (show r = ((fun x => decide (x = n)), 0) by rw [← hrH.out, hf]; unfold axiomsF; rw [hax, if_pos rfl])
   have hfin := Lib.hid (show NamesRet r.1 r.2 w (.returned (.tuple #[.slice (some ⟨W.heap.size, 0, none⟩) 1 1, .int .i64 0])) (W.alloc (.cells #[.string n] 9)) by
    rw [hfe.out]
    exact ⟨_, [n], rfl, OwnS.base (ownS_one W n hnH.out) hbn.out.size, List.pairwise_singleton _ _, fun x => by simp, bcall hbn.out (below1 W _)⟩)
   clear hb hok vH hat hxb hD hDW hBW hW r4 va hf hd hax hws1
   go_wp2_with fail
   try rw [hWH.out]
   refine vaH.out.mono ?_
   rintro e w2 ⟨rfl, rfl⟩
   go_wp2_with fail
   go_ret2
   exact hfin.out
  | false =>
   rw [hax] at va
   have vaH := Lib.hid va
   have hfe := Lib.hid (show r = (chB l (fun k => axI l k && rchB l (fun _ => true) n (nmI l k)), 0) by rw [← hrH.out, hf]; unfold axiomsF; rw [hax, if_neg (by simp)])
   clear hb hok vH hat hxb hD hDW hBW hW r4 va hf hd hax hws1
   go_wp2_with fail
   try rw [hWH.out]
   refine vaH.out.mono ?_
   rintro e w2 ⟨rfl, rfl⟩
   have r4 := r4H.out
   go_wp2_with fail
   refine vl.out.mono ?_
   rintro e w2 ⟨ob, M, rfl, -, -, hS3, hb3⟩
   obtain ⟨W4, hW4⟩ : ∃ W4, w2.alloc (.cells #[.map (some ob)] 88) = W4 := ⟨_, rfl⟩
   have hb4 : Below w2.heap.size w2 W4 := by rw [← hW4]; exact below1 w2 _
   have r5 : W4.cell? ⟨w2.heap.size, 0, none⟩ = some (.map (some ob)) := by rw [← hW4]; clear hW4; go_simp
   have r6 := cell_later (bcall hb3 hb4) r4
   have hz4 : w2.heap.size < W4.heap.size := by rw [← hW4]; simp
   have hD4 := hDWH.out.call (bcall hb3 hb4)
   have hD5 := hD4.mono hD4.1 (Nat.le_refl _)
   have hS4 := hS3.below hb4 hS3.lt
   have vc := chosen_any hD5 (ax1_fn hD5 (World.block_lt_of_cell? _ _ r6) hz4 hS4.lt r6 r5 hS4)
   have vcH := Lib.hid vc
   have hW4H := Lib.hid hW4
   have hb5 := Lib.hid (bcall hbn.out (bcall hb3 hb4))
   rw [← hW4] at r6
   clear vc hD4 hD5 hS4 hS3 hb3 hb4 r5 hz4 hW4 r4
   go_wp2_with fail
   try rw [hW4H.out]
   refine vcH.out.mono ?_
   rintro e w5 hso
   obtain ⟨v, rfl, hN⟩ := hso.names hb5.out
   have hNH := Lib.hid (hN 0)
   clear hN hso
   go_wp2_with fail
   go_ret2
   rw [hfe.out]
   exact hNH.out
end Go.Proofs.YtpmnnoopoblpgaaGreat

/- Walks: deps.Idle. -/
namespace Go.Proofs.YtpmnnoopoblpgaaGreat
open Go Go.RowKit Go.Maps

def citD (l : List Ent) (k : Nat) (u : ByteArray) : Bool := (l.take k).any (fun x => memB (eUses x) u)
def citM (l : List Ent) (k m : Nat) (u : ByteArray) : Bool := citD l k u || memB ((eUses (l.getD k default)).take m) u
theorem citM_zero (l : List Ent) (k : Nat) : citM l k 0 = citD l k := by funext u; unfold citM; simp [memB]
theorem citM_all {l : List Ent} {k : Nat} (hk : k < l.length) : citM l k (eUses l[k]).length = citD l (k + 1) := by
 funext u
 unfold citM citD
 rw [List.take_succ_eq_append_getElem hk, List.any_append]
 simp [List.getElem?_eq_getElem hk]
theorem citM_put {l : List Ent} {k m : Nat} (hk : k < l.length) (hm : m < (eUses l[k]).length) : (fun z => if z = (eUses l[k])[m] then true else citM l k m z) = citM l k (m + 1) := by
 funext u
 unfold citM
 simp only [List.getD_eq_getElem?_getD, List.getElem?_eq_getElem hk, Option.getD_some]
 rw [memB_take hm]
 by_cases e : u = (eUses l[k])[m]
 ·subst e; simp
 ·rw [if_neg e, decide_eq_false (fun h => e h.symm), Bool.or_false]
theorem citD_zero (l : List Ent) : citD l 0 = fun _ => false := by funext u; unfold citD; simp
theorem citD_all (l : List Ent) : citD l l.length = citedB l := by funext u; unfold citD citedB; rw [List.take_length]
set_option maxHeartbeats 1000000 in
theorem id1_fn {B b1 b2 ob M m : Nat} {w : World} {l : List Ent} {la : Option Addr} {lc : Nat} {f : ByteArray → Bool} (hL : LibL (fun b => b < B) w la lc l) (hb1 : b1 < B) (hb2 : b2 < B) (hob : ob < B) (hc1 : w.cell? ⟨b1, 0, none⟩ = some (.map (some ob))) (hc2 : w.cell? ⟨b2, 0, none⟩ = some (.slice la l.length lc)) (hS : SSet w ob M m f) :
  IxFn 110 #[.pointer (some ⟨b1, 0, none⟩), .pointer (some ⟨b2, 0, none⟩)] l.length (fun i => !f (nmI l i)) B w := by
 refine ⟨enters_of Tryz.func110 (by kernel_rfl) rfl, fun i hi W hB => ?_⟩
 have q1 := (hB.cell (p := ⟨b1, 0, none⟩) hb1).trans hc1
 have q2 := (hB.cell (p := ⟨b2, 0, none⟩) hb2).trans hc2
 have hLW := hL.same (Agree.of_below hB (fun b h _ => h))
 obtain ⟨b, off, a1, c1, a2, c2, a3, c3, rfl, -, r0, r1, r2, r3, r4, z1, z2, hI, hU, hP⟩ := hLW.ent i hi
 have hdr : Below W.heap.size W W.drew := Below.drew (.refl _ _)
 have hSW := hS.below hB hob
 have hlk := (hSW.below hdr hSW.lt).look (tm := 88) Tryz.underlying88 Tryz.underlying9 Tryz.underlying4 (zBool W.drew) (eNm l[i]) (big_max z1)
 have e0 : nmI l i = eNm l[i] := nmI_at hi
 simp only [e0]
 have k1 := cell_later hdr q1
 have k2 := cell_later hdr q2
 have k3 := cell_later hdr r0
 have hii : (i : Int) < (l.length : Int) := by omega
 have hml := hL.le
 have hdrH := Lib.hid hdr
 clear hSW hLW q1 q2 r0 r1 r2 r3 r4 hI hU hP z1 z2 hS hB hL hc1 hc2 e0 hdr
 generalize eNm l[i] = nm at *
 generalize f nm = fn at *
 go_enter Tryz.func110, Tryz.ntmps110
 go_wp2_with fail
 go_region
 go_wp2_with fail
 go_ret
 exact ⟨rfl, hdrH.out⟩
noncomputable def idleE (s : Sg) (l : List Ent) : (ByteArray → Bool) × Int := if okLib s l = true then (chB l (fun i => !citedB l (nmI l i)), 0) else (fun _ => false, 1)
def id1Rel (l : List Ent) (w1 W2 : World) (i : Value) (wr : World) : Prop := ∃ k M m : Nat, i = .int .i64 k ∧ k ≤ l.length ∧ M ≤ 12 * k ∧ SSet wr w1.heap.size M m (citD l k) ∧ W2.grownBy wr (some w1.heap.size)
def id2Rel (l : List Ent) (k N : Nat) (w1 W2 : World) (i : Value) (wr : World) : Prop := ∃ j M m : Nat, i = .int .i64 j ∧ j ≤ N ∧ M ≤ 12 * k + j ∧ SSet wr w1.heap.size M m (citM l k j) ∧ W2.grownBy wr (some w1.heap.size)
set_option maxRecDepth 100000 in
set_option maxHeartbeats 4000000 in
theorem Idle_any {S1 S2 : Nat → Prop} (sa la : Option Addr) (sc lc : Nat) (s : Sg) (l : List Ent) (w : World) (h1 : Sign S1 w sa sc s) (h2 : LibL S2 w la lc l) (hl : l.length ≤ 1000) :
  Calls Tryz.prog 49 #[.slice sa s.length sc, .slice la l.length lc] w (NamesRet (idleE s l).1 (idleE s l).2 w) := by
 have hmm := @run_makeMap Tryz.prog
 obtain ⟨W0, hW0⟩ : ∃ W0, w.alloc (.cells #[.slice la l.length lc] 24) = W0 := ⟨_, rfl⟩
 have hB0 : Below w.heap.size w W0 := by rw [← hW0]; exact below1 w _
 have q4 : W0.cell? ⟨w.heap.size, 0, none⟩ = some (.slice la l.length lc) := by rw [← hW0]; clear hW0; go_simp
 have hws : w.heap.size < W0.heap.size := by rw [← hW0]; simp
 have v := open_any sa la sc lc s l W0 (h1.below hB0) (h2.below hB0) hl
 have m := h2.le
 have m1 := h1.le
 obtain ⟨r, hr⟩ : ∃ r, idleE s l = r := ⟨_, rfl⟩
 rw [hr]
 have vH := Lib.hid v
 have hrH := Lib.hid hr
 have hB0H := Lib.hid hB0
 have h2H := Lib.hid (h2.below hB0).lt
 have hwsH := Lib.hid hws
 have q4H := Lib.hid q4
 rw [← hW0] at q4
 have hW0H := Lib.hid hW0
 clear v h1 h2 hr hB0 hws hW0
 go_enter Tryz.func49, Tryz.ntmps49
 go_wp2_with fail
 try rw [hW0H.out]
 refine vH.out.mono ?_
 rintro e w1 ⟨hb, h⟩
 have hbH := Lib.hid (bcall hB0H.out hb)
 have hb0H := Lib.hid hb
 rcases h with ⟨hok, rfl⟩ | ⟨hok, xb, hxb, rfl, hD⟩
 ·have hfH := Lib.hid (hrH.out.symm.trans (show idleE s l = (fun _ => false, 1) by unfold idleE; rw [hok]; rfl))
  clear hb hok vH
  go_wp2_with fail
  go_ret2
  rw [hfH.out]
  exact NamesRet.nil hbH.out
 ·have hfH := Lib.hid (hrH.out.symm.trans (show idleE s l = (chB l (fun i => !citedB l (nmI l i)), 0) by unfold idleE; rw [hok]; rfl))
  have q5 := cell_later hb q4H.out
  obtain ⟨W2, hW2⟩ : ∃ W2, (w1.alloc (.map #[] 0)).alloc (.cells #[.map (some w1.heap.size)] 88) = W2 := ⟨_, rfl⟩
  have hBW : Below w1.heap.size w1 W2 := by rw [← hW2]; exact below2 w1 _ _
  have c8 : W2.cell? ⟨w1.heap.size + 1, 0, none⟩ = some (.map (some w1.heap.size)) := by rw [← hW2]; clear hW2; go_simp
  have hz2 : W2.heap.size = w1.heap.size + 2 := by rw [← hW2]; simp
  have c3 := cell_later hBW q5
  have hst : id1Rel l w1 W2 (.int .i64 0) W2 := by
   refine ⟨0, 0, 0, rfl, Nat.zero_le _, by omega, ?_, gby_refl _ _⟩
   rw [citD_zero]
   have := (SMap.made (P := Tryz.prog) (tk := 9) (te := 4) w1).below (below1 _ (.cells #[.map (some w1.heap.size)] 88)) (by simp)
   rw [hW2] at this
   exact this
  have hL1 : LibL (fun b => b < w1.heap.size) w1 la lc l := (h2H.out.below hb).weak (fun b hb' => Nat.lt_of_lt_of_le hb'.2 hb.size)
  have hokH := Lib.hid hok
  have hDH := Lib.hid hD
  have hL1H := Lib.hid hL1
  have hstH := Lib.hid hst
  have hBWH := Lib.hid hBW
  have c8H := Lib.hid c8
  have c3H := Lib.hid c3
  have hz2H := Lib.hid hz2
  rw [← hW2] at c3 c8
  have hW2H := Lib.hid hW2
  clear hb hok vH hxb hD hL1 hst hBW hz2 q4 hW2
  go_wp2_with fail
  try rw [hW2H.out]
  rw [hW2H.out] at c3 c8
  go_loopw [25] (fun i wr => id1Rel l w1 W2 i wr) (fun i _ => l.length - (intOf i).toNat)
  case atStart => exact hstH.out
  case round =>
   obtain ⟨k, M, mm, rfl, hk, hM, hS, hG⟩ := hrel
   have hBr : Below w1.heap.size w1 wr := below_of_gby hBWH.out hG (by have := hz2H.out; omega) (Nat.le_refl _)
   have hzr : W2.heap.size ≤ wr.heap.size := hG.size
   have d8 : wr.cell? ⟨w1.heap.size + 1, 0, none⟩ = some (.map (some w1.heap.size)) := hG.cell c8H.out (by intro e; injection e with e; simp at e)
   have d3 : wr.cell? ⟨w.heap.size, 0, none⟩ = some (.slice la l.length lc) := hG.cell c3H.out (by intro e; injection e with e; have := hwsH.out; have := hb0H.out.size; simp at e; omega)
   by_cases hlt : k < l.length
   ·have hLr := hL1H.out.same (Agree.of_below hBr (fun b h _ => h))
    obtain ⟨b, off, a1, c1, a2, c2, a3, c3', rfl, hbB, p0, p1, p2, p3, p4, z1, z2, hI, hU, hP⟩ := hLr.ent k hlt
    obtain ⟨W, hW⟩ : ∃ W, wr.alloc (.cells #[.string (eNm l[k]), .string (eBy l[k]), .slice a1 (eSays l[k]).length c1, .slice a2 (eUses l[k]).length c2, .slice a3 (ePf l[k]).length c3'] 37) = W := ⟨_, rfl⟩
    have hBW : Below wr.heap.size wr W := by rw [← hW]; exact below1 wr _
    have r3 : W.cell? ⟨wr.heap.size, 3, none⟩ = some (.slice a2 (eUses l[k]).length c2) := by rw [← hW]; clear hW; go_simp
    have hS2 := hS.below hBW hS.lt
    rw [← citM_zero] at hS2
    have hG2 := gby_trans hG (gby_below (row := some w1.heap.size) hBW)
    have hm2 := hU.le
    obtain ⟨h12, hsz⟩ := okLib_uses hokH.out (List.getElem_mem hlt)
    have hin := Lib.hid (citM_all hlt)
    have hput := Lib.hid (fun m (hm : m < (eUses l[k]).length) => citM_put hlt hm)
    have hstH := Lib.hid (show id2Rel l k (eUses l[k]).length w1 W2 (.int .i64 0) W from ⟨0, M, mm, rfl, Nat.zero_le _, by omega, hS2, hG2⟩)
    have hUH := Lib.hid (hU.below hBW)
    have hBWr := Lib.hid (bcall hBr hBW)
    have hbw : w1.heap.size ≤ W.heap.size := (bcall hBr hBW).size
    have hszH := Lib.hid hsz
    have h12H := Lib.hid h12
    have hGW := Lib.hid hBW
    have hkk : (k : Int) < (l.length : Int) := by omega
    clear hS2 hS hBr hI hU hP h12 hsz hG2 hG hLr d8 d3 z1 z2 hBW
    generalize eUses l[k] = us at *
    generalize eNm l[k] = nm at *
    generalize eBy l[k] = bn at *
    generalize (eSays l[k]).length = n1 at *
    generalize (ePf l[k]).length = n3 at *
    go_wp2_with fail
    try rw [hW]
    clear hW
    go_loopw [32] (fun i wr => id2Rel l k us.length w1 W2 i wr) (fun i _ => us.length - (intOf i).toNat)
    case atStart => exact hstH.out
    case round =>
     obtain ⟨j, M, m, rfl, hj, hM, hS, hG⟩ := hrel
     have hBj : Below w1.heap.size w1 wr := below_of_gby hBWH.out hG (by have := hz2H.out; omega) (Nat.le_refl _)
     have d8 : wr.cell? ⟨w1.heap.size + 1, 0, none⟩ = some (.map (some w1.heap.size)) := hG.cell c8H.out (by intro e; injection e with e; simp at e)
     by_cases hjl : j < us.length
     ·have hUj : Sl strE (fun b => b < w1.heap.size) wr a2 c2 us := hUH.out.same (fun b hb _ => (hBj.block b hb).trans (hBWr.out.block b hb).symm)
      obtain ⟨b2, o2, rfl, -, qu, hzu⟩ := hUj.str j hjl
      have h12 := h12H.out
      obtain ⟨w3, hup, hS3, hG3⟩ := hS.store (tm := 88) Tryz.underlying88 Tryz.underlying9 Tryz.underlying4 (by unfold maxLen; omega) us[j] (big_max hzu)
      rw [hput.out j hjl] at hS3
      generalize (if citM l k j us[j] = true then m else m + 1) = m' at hS3
      have hfin := Lib.hid (show id2Rel l k us.length w1 W2 (.int .i64 ((j : Int) + 1)) w3 from ⟨j + 1, M + 1, m', by simp, hjl, by omega, hS3, gby_trans hG hG3⟩)
      have hjj : (j : Int) < (us.length : Int) := by omega
      clear hS hG hBj hM hS3 hG3 h12 hUj
      generalize us[j] = u at *
      go_wp2_with fail
      go_roundw
      case rel => exact hfin.out
      case measure => simp [intOf]; omega
     ·have hjj : ((j : Int) < (us.length : Int)) = False := eq_false (by omega)
      have hjl' : j = us.length := by omega
      have h12 := h12H.out
      rw [hjl', hin.out] at hS
      have hfin := Lib.hid (show id1Rel l w1 W2 (.int .i64 ((k : Int) + 1)) wr from ⟨k + 1, M, m, by simp, hlt, by omega, hS, hG⟩)
      clear hS hG hM hjl hj hjl' h12 hBj d8
      go_wp2_with fail
      go_roundw
      case rel => exact hfin.out
      case measure => simp [intOf]; omega
   ·have hkk : ((k : Int) < (l.length : Int)) = False := eq_false (by omega)
    have hkl : k = l.length := by omega
    rw [hkl, citD_all] at hS
    have hDr := (hDH.out.call hBr)
    have hDx := hDr.mono hDr.1 (Nat.le_refl _)
    have hLr : LibL (fun b => b < wr.heap.size) wr la lc l := (hL1H.out.same (Agree.of_below hBr (fun b h _ => h))).weak (fun b hb => Nat.lt_of_lt_of_le hb hBr.size)
    have vc := chosen_any hDx (id1_fn hLr (World.block_lt_of_cell? _ _ d8) (World.block_lt_of_cell? _ _ d3) hS.lt d8 d3 hS)
    have vcH := Lib.hid vc
    have hb3H := Lib.hid (bcall hbH.out hBr)
    clear vc hDr hDx hLr hS hG hM hk hkl hlt hBr
    go_wp2_with fail
    refine vcH.out.mono ?_
    rintro e w5 hso
    obtain ⟨v, rfl, hN⟩ := hso.names hb3H.out
    have hNH := Lib.hid (hN 0)
    clear hN hso
    go_wp2_with fail
    go_ret2
    rw [hfH.out]
    exact hNH.out
end Go.Proofs.YtpmnnoopoblpgaaGreat

/- Walks: Leans and Users of the reference. -/
namespace Go.Proofs.YtpmnnoopoblpgaaGreat
open Go Go.RowKit Go.Maps

theorem leansE_bad {s : Sg} {l : List Ent} {n : ByteArray} (h : okLib s l = false) : leansE s l n = (fun _ => false, 1) := by unfold leansE; rw [h]; rfl
theorem leansE_no {s : Sg} {l : List Ent} {n : ByteArray} (h : okLib s l = true) (ha : atN l n = none) : leansE s l n = (fun _ => false, 5) := by unfold leansE; rw [h, ha]; rfl
theorem leansE_yes {s : Sg} {l : List Ent} {n : ByteArray} {i : Nat} (h : okLib s l = true) (ha : atN l n = some i) : leansE s l n = (chB l (leanI l i), 0) := by
 rw [leans_eq (okLib_prts h).2.2.2 ha]
 unfold leansE; rw [h, ha]; rfl
theorem usersE_bad {s : Sg} {l : List Ent} {n : ByteArray} (h : okLib s l = false) : usersE s l n = (fun _ => false, 1) := by unfold usersE; rw [h]; rfl
theorem usersE_no {s : Sg} {l : List Ent} {n : ByteArray} (h : okLib s l = true) (ha : atN l n = none) : usersE s l n = (fun _ => false, 5) := by unfold usersE; rw [h, ha]; rfl
theorem usersE_yes {s : Sg} {l : List Ent} {n : ByteArray} {i : Nat} (h : okLib s l = true) (ha : atN l n = some i) : usersE s l n = (chB l (fun k => leanI l k i), 0) := by
 rw [users_eq ha]
 unfold usersE; rw [h, ha]; rfl
theorem findE_bad {s : Sg} {l : List Ent} {n : ByteArray} (h : okLib s l = false) : findE s l n = (0, 1) := by unfold findE; rw [h]; rfl
theorem findE_no {s : Sg} {l : List Ent} {n : ByteArray} (h : okLib s l = true) (ha : atN l n = none) : findE s l n = (0, 5) := by unfold findE; rw [h, ha]; rfl
theorem findE_yes {s : Sg} {l : List Ent} {n : ByteArray} {i : Nat} (h : okLib s l = true) (ha : atN l n = some i) : findE s l n = ((i : Int), 0) := by unfold findE; rw [h, ha]; rfl
set_option maxHeartbeats 1000000 in
theorem rLeans_any {S1 S2 : Nat → Prop} (sa la : Option Addr) (sc lc : Nat) (s : Sg) (l : List Ent) (n : ByteArray) (w : World) (h1 : Sign S1 w sa sc s) (h2 : LibL S2 w la lc l) :
  Calls Tryz.prog 44 #[.slice sa s.length sc, .slice la l.length lc, .string n] w (NamesRet (leansE s l n).1 (leansE s l n).2 w) := by
 have v := rFind_any sa la sc lc s l n w h1 h2
 have m := h2.le
 have m1 := h1.le
 have h2H := Lib.hid h2
 clear h1 h2
 cases hok : okLib s l with
 | false =>
  rw [findE_bad hok] at v
  have hf := Lib.hid (leansE_bad (n := n) hok)
  have vH := Lib.hid v
  clear hok v
  go_enter Tryz.func44, Tryz.ntmps44
  go_wp2_with fail
  refine vH.out.mono ?_
  rintro e w1 ⟨rfl, hb⟩
  have hbH := Lib.hid hb
  clear hb
  go_wp2_with fail
  go_ret2
  rw [hf.out]
  exact NamesRet.nil hbH.out
 | true =>
  cases hat : atN l n with
  | none =>
   rw [findE_no hok hat] at v
   have hf := Lib.hid (leansE_no hok hat)
   have vH := Lib.hid v
   clear hok v hat
   go_enter Tryz.func44, Tryz.ntmps44
   go_wp2_with fail
   refine vH.out.mono ?_
   rintro e w1 ⟨rfl, hb⟩
   have hbH := Lib.hid hb
   clear hb
   go_wp2_with fail
   go_ret2
   rw [hf.out]
   exact NamesRet.nil hbH.out
  | some i =>
   rw [findE_yes hok hat] at v
   have hf := Lib.hid (leansE_yes hok hat)
   have vH := Lib.hid v
   have hl60 := (okLib_parts hok).2.1
   obtain ⟨hi, -⟩ := nmI_of hat
   have vlH := Lib.hid (fun W (hb : Below w.heap.size w W) => rleaned_any la lc l W (h2H.out.below hb) hok i hi)
   clear hok v hat
   go_enter Tryz.func44, Tryz.ntmps44
   go_wp2_with fail
   refine vH.out.mono ?_
   rintro e w1 ⟨rfl, hb⟩
   have vl := Lib.hid (vlH.out w1 hb)
   have hbH := Lib.hid hb
   clear hb
   go_wp2_with fail
   refine vl.out.mono ?_
   rintro e w2 ⟨v2, rfl, hO, hb⟩
   obtain ⟨a2, c2, rfl, hS⟩ := OwnB.bools hO
   have hb2 := bcall hbH.out hb
   have vc := rchosen_any la a2 lc c2 l (leanI l i) w2 (h2H.out.below hb2) hS (by omega)
   have hlen : ((List.range l.length).map (leanI l i)).length = l.length := by simp
   rw [hlen]
   have vcH := Lib.hid vc
   have hb3H := Lib.hid hb2
   clear vc hS hO hb hb2 hlen
   go_wp2_with fail
   refine vcH.out.mono ?_
   rintro e w4 hso
   obtain ⟨v, rfl, hN⟩ := hso.names hb3H.out
   have hNH := Lib.hid (hN 0)
   clear hN hso
   go_wp2_with fail
   go_ret2
   rw [hf.out]
   exact hNH.out
end Go.Proofs.YtpmnnoopoblpgaaGreat

/- Walks: Users and Axioms of the reference. -/
namespace Go.Proofs.YtpmnnoopoblpgaaGreat
open Go Go.RowKit Go.Maps

theorem range_get {n i : Nat} {f : Nat → Bool} (h : i < ((List.range n).map f).length) : ((List.range n).map f)[i] = f i := by rw [List.getElem_map, List.getElem_range]
set_option maxRecDepth 100000 in
set_option maxHeartbeats 4000000 in
theorem rUsers_any {S1 S2 : Nat → Prop} (sa la : Option Addr) (sc lc : Nat) (s : Sg) (l : List Ent) (n : ByteArray) (w : World) (h1 : Sign S1 w sa sc s) (h2 : LibL S2 w la lc l) :
  Calls Tryz.prog 46 #[.slice sa s.length sc, .slice la l.length lc, .string n] w (NamesRet (usersE s l n).1 (usersE s l n).2 w) := by
 have v := rFind_any sa la sc lc s l n w h1 h2
 have m := h2.le
 have m1 := h1.le
 have h2H := Lib.hid h2
 clear h1 h2
 cases hok : okLib s l with
 | false =>
  rw [findE_bad hok] at v
  have hf := Lib.hid (usersE_bad (n := n) hok)
  have vH := Lib.hid v
  clear hok v
  go_enter Tryz.func46, Tryz.ntmps46
  go_wp2_with fail
  refine vH.out.mono ?_
  rintro e w1 ⟨rfl, hb⟩
  have hbH := Lib.hid hb
  clear hb
  go_wp2_with fail
  go_ret2
  rw [hf.out]
  exact NamesRet.nil hbH.out
 | true =>
  cases hat : atN l n with
  | none =>
   rw [findE_no hok hat] at v
   have hf := Lib.hid (usersE_no hok hat)
   have vH := Lib.hid v
   clear hok v hat
   go_enter Tryz.func46, Tryz.ntmps46
   go_wp2_with fail
   refine vH.out.mono ?_
   rintro e w1 ⟨rfl, hb⟩
   have hbH := Lib.hid hb
   clear hb
   go_wp2_with fail
   go_ret2
   rw [hf.out]
   exact NamesRet.nil hbH.out
  | some i =>
   rw [findE_yes hok hat] at v
   have hf := Lib.hid (usersE_yes hok hat)
   have vH := Lib.hid v
   have hl60 := (okLib_parts hok).2.1
   obtain ⟨hi, -⟩ := nmI_of hat
   have hii : (i : Int) < (l.length : Int) := by omega
   have vlH := Lib.hid (fun W (hb : Below w.heap.size w W) k (hk : k < l.length) => rleaned_any la lc l W (h2H.out.below hb) hok k hk)
   have hms := fun W => makeFalse (W := W) l.length (by omega)
   clear hok v hat
   go_enter Tryz.func46, Tryz.ntmps46
   go_wp2_with fail
   refine vH.out.mono ?_
   rintro e w1 ⟨rfl, hb⟩
   have hBm := below1 w1 (.cells (Array.replicate l.length (.bool false)) 4)
   have hst := Lib.hid (show flRel l.length (fun k => leanI l k i) w1 w1.heap.size w1.heap.size (.int .i64 0) (w1.alloc (.cells (Array.replicate l.length (.bool false)) 4)) from ⟨0, rfl, Nat.zero_le _, by rw [filL_zero]; exact OwnB.made w1 l.length (by omega), hBm⟩)
   have hbH := Lib.hid hb
   clear hb hBm
   go_wp2_with fail
   go_loopw [11] (fun kv wr => flRel l.length (fun k => leanI l k i) w1 w1.heap.size w1.heap.size kv wr) (fun kv _ => l.length - (intOf kv).toNat)
   case atStart => exact hst.out
   case round =>
    obtain ⟨k, rfl, hk, hO, hB⟩ := hrel
    by_cases hlt : k < l.length
    ·have vl := Lib.hid (vlH.out wr (bcall hbH.out hB) k hlt)
     have hkk : (k : Int) < (l.length : Int) := by omega
     have hOH := Lib.hid hO
     have hBH := Lib.hid hB
     clear hO hB
     go_wp2_with fail
     refine vl.out.mono ?_
     rintro e w2 ⟨v2, rfl, hO5, hb⟩
     obtain ⟨a2, c2, rfl, hS5⟩ := OwnB.bools hO5
     obtain ⟨b5, o5, rfl, -, q5⟩ := hS5.bool i (by simp; exact hi)
     rw [range_get] at q5
     have hO2 := OwnL.call hOH.out hb
     have hcell := OwnB.cell hO2 (filL_len _ _ _).symm k (by rw [filL_len]; exact hlt)
     obtain ⟨h3, h4⟩ := OwnB.set hO2 (filL_len _ _ _).symm k (leanI l k i)
     have hse := filL_set (n := l.length) (f := fun k => leanI l k i) (k := k)
     rw [hse] at h3
     have hB2 := bcall hBH.out hb
     have hsz := (OwnL.lt hO2 w1.heap.size rfl).2
     have hfin := Lib.hid (show flRel l.length (fun k => leanI l k i) w1 w1.heap.size w1.heap.size (.int .i64 ((k : Int) + 1)) (w2.setCell ⟨w1.heap.size, k, none⟩ (.bool (leanI l k i))) from ⟨k + 1, by simp, hlt, h3, hB2.grown h4 hB2.size (fun j e => by injection e with e; omega)⟩)
     obtain ⟨r0, r1⟩ := hcell
     have hlen : ((List.range l.length).map (leanI l k)).length = l.length := by simp
     rw [hlen]
     clear h3 h4 hB2 hO2 hb hsz hse hO5 hS5 hlen
     generalize leanI l k i = hx at *
     go_wp2_with fail
     go_roundw
     case rel => exact hfin.out
     case measure => simp [intOf]; omega
    ·have hkk : ((k : Int) < (l.length : Int)) = False := eq_false (by omega)
     have hkl : k = l.length := by omega
     rw [hkl, filL_all] at hO
     obtain ⟨a2, c2, e2, hS⟩ := OwnB.bools hO
     have hlen : ((List.range l.length).map (fun k => leanI l k i)).length = l.length := by simp
     rw [hlen] at e2
     injection e2 with e3 _ e5
     subst e3 e5
     have hb3 := bcall hbH.out hB
     have vc := rchosen_any la _ lc _ l (fun k => leanI l k i) wr (h2H.out.below hb3) hS (by omega)
     have vcH := Lib.hid vc
     have hb3H := Lib.hid hb3
     clear vc hS hO hB hb3 hlen hlt hk hkl
     go_wp2_with fail
     refine vcH.out.mono ?_
     rintro e w4 hso
     obtain ⟨v, rfl, hN⟩ := hso.names hb3H.out
     have hNH := Lib.hid (hN 0)
     clear hN hso
     go_wp2_with fail
     go_ret2
     rw [hf.out]
     exact hNH.out
def narL (n : Nat) (p q : Nat → Bool) (k : Nat) : List Bool := (List.range n).map (fun j => p j && (!decide (j < k) || q j))
theorem narL_len (n : Nat) (p q : Nat → Bool) (k : Nat) : (narL n p q k).length = n := by simp [narL]
theorem narL_zero (n : Nat) (p q : Nat → Bool) : narL n p q 0 = (List.range n).map p := by unfold narL; simp
theorem narL_all (n : Nat) (p q : Nat → Bool) : narL n p q n = (List.range n).map (fun j => p j && q j) := by
 unfold narL
 refine List.map_congr_left fun j hj => ?_
 rw [decide_eq_true (List.mem_range.1 hj)]; rfl
theorem narL_get {n k : Nat} {p q : Nat → Bool} (h : k < (narL n p q k).length) : (narL n p q k)[k] = p k := by simp [narL]
theorem narL_set {n k : Nat} {p q : Nat → Bool} : (narL n p q k).set k (p k && q k) = narL n p q (k + 1) := by
 apply List.ext_getElem
 ·simp [narL]
 ·intro j h1 h2
  rw [List.getElem_set]
  by_cases e : k = j
  ·subst e; simp [narL]
  ·rw [if_neg e]
   have : decide (j < k) = decide (j < k + 1) := by rw [Bool.eq_iff_iff, decide_eq_true_eq, decide_eq_true_eq]; omega
   simp only [narL, List.getElem_map, List.getElem_range, this]
theorem lean_self {l : List Ent} {i : Nat} : ((List.range l.length).map (leanI l i)).set i true = (List.range l.length).map (fun k => decide (k = i) || leanI l i k) := by
 apply List.ext_getElem
 ·simp
 ·intro j h1 h2
  rw [List.getElem_set, range_get]
  by_cases e : i = j
  ·subst e; simp
  ·rw [if_neg e, range_get, decide_eq_false (fun h => e h.symm), Bool.false_or]
def raRel (n : Nat) (p q : Nat → Bool) (w : World) (base g cap : Nat) (i : Value) (wr : World) : Prop := ∃ k : Nat, i = .int .i64 k ∧ k ≤ n ∧ OwnB wr base (.slice (some ⟨g, 0, none⟩) n cap) (narL n p q k) ∧ Below w.heap.size w wr
set_option maxRecDepth 100000 in
set_option maxHeartbeats 4000000 in
theorem rAxioms_any {S1 S2 : Nat → Prop} (sa la : Option Addr) (sc lc : Nat) (s : Sg) (l : List Ent) (n : ByteArray) (w : World) (h1 : Sign S1 w sa sc s) (h2 : LibL S2 w la lc l) :
  Calls Tryz.prog 48 #[.slice sa s.length sc, .slice la l.length lc, .string n] w (NamesRet (axsE s l n).1 (axsE s l n).2 w) := by
 have v := rFind_any sa la sc lc s l n w h1 h2
 have m := h2.le
 have m1 := h1.le
 have h2H := Lib.hid h2
 clear h1 h2
 cases hok : okLib s l with
 | false =>
  rw [findE_bad hok] at v
  have hf := Lib.hid (axsE_bad (n := n) hok)
  have vH := Lib.hid v
  clear hok v
  go_enter Tryz.func48, Tryz.ntmps48
  go_wp2_with fail
  refine vH.out.mono ?_
  rintro e w1 ⟨rfl, hb⟩
  have hbH := Lib.hid hb
  clear hb
  go_wp2_with fail
  go_ret2
  rw [hf.out]
  exact NamesRet.nil hbH.out
 | true =>
  cases hat : atN l n with
  | none =>
   rw [findE_no hok hat] at v
   have hf := Lib.hid (axsE_no hok hat)
   have vH := Lib.hid v
   clear hok v hat
   go_enter Tryz.func48, Tryz.ntmps48
   go_wp2_with fail
   refine vH.out.mono ?_
   rintro e w1 ⟨rfl, hb⟩
   have hbH := Lib.hid hb
   clear hb
   go_wp2_with fail
   go_ret2
   rw [hf.out]
   exact NamesRet.nil hbH.out
  | some i =>
   rw [findE_yes hok hat] at v
   have hf := Lib.hid ((axsE_yes hok hat).trans (by rw [← axioms_eq hok hat]))
   have vH := Lib.hid v
   have hl60 := (okLib_parts hok).2.1
   obtain ⟨hi, -⟩ := nmI_of hat
   have hii : (i : Int) < (l.length : Int) := by omega
   have vlH := Lib.hid (fun W (hb : Below w.heap.size w W) => rleaned_any la lc l W (h2H.out.below hb) hok i hi)
   clear hok v hat
   go_enter Tryz.func48, Tryz.ntmps48
   go_wp2_with fail
   refine vH.out.mono ?_
   rintro e w1 ⟨rfl, hb⟩
   have vl := Lib.hid (vlH.out w1 hb)
   have hbH := Lib.hid hb
   clear hb
   go_wp2_with fail
   refine vl.out.mono ?_
   rintro e w2 ⟨v2, rfl, hO, hb⟩
   obtain ⟨g, cap, rfl, hg1, hg2⟩ := OwnL.form hO (fun e => by have h9 := congrArg List.length e; rw [List.length_map, List.length_range, List.length_nil] at h9; omega)
   have hlen : ((List.range l.length).map (leanI l i)).length = l.length := by simp
   have hcell := OwnB.cell hO rfl i (by rw [hlen]; exact hi)
   obtain ⟨h3, h4⟩ := OwnB.set hO rfl i true
   rw [lean_self, hlen] at h3
   rw [hlen]
   obtain ⟨r0, r1⟩ := hcell
   rw [range_get] at r0
   have hst := Lib.hid (show raRel l.length (fun k => decide (k = i) || leanI l i k) (axI l) w1 w1.heap.size g cap (.int .i64 0) (w2.setCell ⟨g, i, none⟩ (.bool true)) from ⟨0, rfl, Nat.zero_le _, by rw [narL_zero]; exact h3, hb.grown h4 hb.size (fun j e => by injection e with e; omega)⟩)
   clear hO hb h3 h4 hg2 hlen
   generalize leanI l i i = x0 at *
   go_wp2_with fail
   go_loopw [11] (fun kv wr => raRel l.length (fun k => decide (k = i) || leanI l i k) (axI l) w1 w1.heap.size g cap kv wr) (fun kv _ => l.length - (intOf kv).toNat)
   case atStart => exact hst.out
   case round =>
    obtain ⟨k, rfl, hk, hO, hB⟩ := hrel
    by_cases hlt : k < l.length
    ·obtain ⟨b, off, a1, c1, a2, c2, a3, c3, rfl, -, p0, p1, p2, p3, p4, z1, z2, hI, hU, hP⟩ := (h2H.out.below (bcall hbH.out hB)).ent k hlt
     have hkk : (k : Int) < (l.length : Int) := by omega
     have hcell := OwnB.cell hO (narL_len _ _ _ _).symm k (by rw [narL_len]; exact hlt)
     rw [narL_get] at hcell
     have hax : axI l k = ((((ePf l[k]).length : Nat) : Int) == 0) := by rw [axI_at hlt, Bool.eq_iff_iff, decide_eq_true_eq, beq_iff_eq, ← List.length_eq_zero_iff]; omega
     have vx := Lib.hid (raxiom_any a1 a2 a3 c1 c2 c3 (eSays l[k]).length (eUses l[k]).length (eNm l[k]) (eBy l[k]) (ePf l[k]).length wr)
     rw [← hax] at vx
     have hOH := Lib.hid hO
     have hBH := Lib.hid hB
     have mP := hP.le
     have hsetF := Lib.hid (fun W (hb : Below wr.heap.size wr W) => by
      have hO2 := OwnL.call hO hb
      obtain ⟨h3, h4⟩ := OwnB.set hO2 (narL_len _ _ _ _).symm k ((decide (k = i) || leanI l i k) && axI l k)
      have hse := narL_set (n := l.length) (p := fun k => decide (k = i) || leanI l i k) (q := axI l) (k := k)
      rw [hse] at h3
      have hB2 := bcall hB hb
      exact (show raRel l.length (fun k => decide (k = i) || leanI l i k) (axI l) w1 w1.heap.size g cap (.int .i64 ((k : Int) + 1)) (W.setCell ⟨g, k, none⟩ (.bool ((decide (k = i) || leanI l i k) && axI l k))) from ⟨k + 1, by simp, hlt, h3, hB2.grown h4 hB2.size (fun j e => by injection e with e; omega)⟩))
     obtain ⟨r0, r1⟩ := hcell
     have r1F := Lib.hid (fun W (hb : Below wr.heap.size wr W) => (OwnB.cell (OwnL.call hO hb) (narL_len _ _ _ _).symm k (by rw [narL_len]; exact hlt)).2)
     clear hO hB hI hU hP z1 z2 hax
     generalize (decide (k = i) || leanI l i k) = x1 at *
     generalize axI l k = x2 at *
     generalize eNm l[k] = nm at *
     generalize eBy l[k] = bn at *
     generalize (eSays l[k]).length = n1 at *
     generalize (eUses l[k]).length = n2 at *
     generalize (ePf l[k]).length = n3 at *
     cases x1 with
     | false =>
      have hfin := Lib.hid (hsetF.out wr (.refl _ _))
      go_wp2_with fail
      go_roundw
      case rel => exact hfin.out
      case measure => simp [intOf]; omega
     | true =>
      go_wp2_with fail
      refine vx.out.mono ?_
      rintro e w5 ⟨rfl, hb5⟩
      have hfin := Lib.hid (hsetF.out w5 hb5)
      have r0' := cell_later hb5 r0
      have r1' := r1F.out w5 hb5
      clear hb5 r0 r1
      go_wp2_with fail
      go_roundw
      case rel => exact hfin.out
      case measure => simp [intOf]; omega
    ·have hkk : ((k : Int) < (l.length : Int)) = False := eq_false (by omega)
     have hkl : k = l.length := by omega
     rw [hkl, narL_all] at hO
     obtain ⟨a2, c2, e2, hS⟩ := OwnB.bools hO
     injection e2 with e3 e4 e5
     clear e4
     subst e3 e5
     have hb3 := bcall hbH.out hB
     have vc := rchosen_any la _ lc _ l (fun k => (decide (k = i) || leanI l i k) && axI l k) wr (h2H.out.below hb3) hS (by omega)
     have vcH := Lib.hid vc
     have hb3H := Lib.hid hb3
     clear vc hS hO hB hb3 hlt hk hkl
     go_wp2_with fail
     refine vcH.out.mono ?_
     rintro e w4 hso
     obtain ⟨v, rfl, hN⟩ := hso.names hb3H.out
     have hNH := Lib.hid (hN 0)
     clear hN hso
     go_wp2_with fail
     go_ret2
     rw [hf.out]
     exact hNH.out
end Go.Proofs.YtpmnnoopoblpgaaGreat

/- Walks: Idle of the reference. -/
namespace Go.Proofs.YtpmnnoopoblpgaaGreat
open Go Go.RowKit Go.Maps

def idK (l : List Ent) (i k : Nat) : Bool := (List.range k).all (fun q => !memB (usI l q) (nmI l i))
theorem idK_succ (l : List Ent) (i k : Nat) : idK l i (k + 1) = (idK l i k && !memB (usI l k) (nmI l i)) := by unfold idK; rw [List.range_succ, List.all_append]; simp
abbrev idF (l : List Ent) (i : Nat) : Bool := idK l i l.length
def ri1Rel (l : List Ent) (w1 : World) (iv : Value) (wr : World) : Prop := flRel l.length (idF l) w1 w1.heap.size w1.heap.size iv wr
def ri2Rel (l : List Ent) (w1 : World) (i : Nat) (kv : Value) (wr : World) : Prop := ∃ k : Nat, kv = .int .i64 k ∧ k ≤ l.length ∧ OwnB wr w1.heap.size (.slice (some ⟨w1.heap.size, 0, none⟩) l.length l.length) ((filL l.length (idF l) i).set i (idK l i k)) ∧ Below w1.heap.size w1 wr
theorem idleE_bad {s : Sg} {l : List Ent} (h : okLib s l = false) : idleE s l = (fun _ => false, 1) := by unfold idleE; rw [h]; rfl
theorem idleE_ok {s : Sg} {l : List Ent} (h : okLib s l = true) : idleE s l = (chB l (idF l), 0) := by
 unfold idleE
 rw [if_pos h, ← idle_eq]
 rfl
theorem set_get {L : List Bool} {i : Nat} {x : Bool} (h : i < (L.set i x).length) : (L.set i x)[i] = x := by rw [List.getElem_set]; simp
set_option maxRecDepth 100000 in
set_option maxHeartbeats 8000000 in
theorem rIdle_any {S1 S2 : Nat → Prop} (sa la : Option Addr) (sc lc : Nat) (s : Sg) (l : List Ent) (w : World) (h1 : Sign S1 w sa sc s) (h2 : LibL S2 w la lc l) :
  Calls Tryz.prog 50 #[.slice sa s.length sc, .slice la l.length lc] w (NamesRet (idleE s l).1 (idleE s l).2 w) := by
 have v := rVld_any sa la sc lc s l w h1 h2
 have m := h2.le
 have m1 := h1.le
 have h2H := Lib.hid h2.lt
 have vH := Lib.hid v
 clear v h1 h2
 cases hok : okLib s l with
 | false =>
  rw [hok] at vH
  have hf := Lib.hid (idleE_bad hok)
  clear hok
  go_enter Tryz.func50, Tryz.ntmps50
  go_wp2_with fail
  refine vH.out.mono ?_
  rintro e w1 ⟨rfl, hb⟩
  have hbH := Lib.hid hb
  clear hb
  go_wp2_with fail
  go_ret2
  rw [hf.out]
  exact NamesRet.nil hbH.out
 | true =>
  rw [hok] at vH
  have hl60 := (okLib_parts hok).2.1
  have hf := Lib.hid (idleE_ok hok)
  have hms := fun W => makeFalse (W := W) l.length (by omega)
  clear hok
  go_enter Tryz.func50, Tryz.ntmps50
  go_wp2_with fail
  refine vH.out.mono ?_
  rintro e w1 ⟨rfl, hb⟩
  have hBm := below1 w1 (.cells (Array.replicate l.length (.bool false)) 4)
  have hst := Lib.hid (show ri1Rel l w1 (.int .i64 0) (w1.alloc (.cells (Array.replicate l.length (.bool false)) 4)) from ⟨0, rfl, Nat.zero_le _, by rw [filL_zero]; exact OwnB.made w1 l.length (by omega), hBm⟩)
  have hL1 := Lib.hid ((h2H.out.below hb).weak (S' := fun b => b < w1.heap.size) (fun b hb' => Nat.lt_of_lt_of_le hb'.2 hb.size))
  have hbH := Lib.hid hb
  clear hb hBm
  go_wp2_with fail
  go_loopw [7] (fun iv wr => ri1Rel l w1 iv wr) (fun iv _ => l.length - (intOf iv).toNat)
  case atStart => exact hst.out
  case round =>
   obtain ⟨i, rfl, hi, hO, hB⟩ := hrel
   by_cases hil : i < l.length
   ·have hii : (i : Int) < (l.length : Int) := by omega
    obtain ⟨r0, r1⟩ := OwnB.cell hO (filL_len _ _ _).symm i (by rw [filL_len]; exact hil)
    obtain ⟨h3, h4⟩ := OwnB.set hO (filL_len _ _ _).symm i true
    have hst2 := Lib.hid (show ri2Rel l w1 i (.int .i64 0) (wr.setCell ⟨w1.heap.size, i, none⟩ (.bool true)) from ⟨0, rfl, Nat.zero_le _, h3, hB.grown h4 hB.size (fun j e => by injection e with e; omega)⟩)
    generalize (filL l.length (idF l) i)[i]'(by rw [filL_len]; exact hil) = x0 at r0
    clear hO hB h3 h4
    go_wp2_with fail
    go_loopw [8] (fun kv wr => ri2Rel l w1 i kv wr) (fun kv _ => l.length - (intOf kv).toNat)
    case atStart => exact hst2.out
    case round =>
     obtain ⟨k, rfl, hk, hO, hB⟩ := hrel
     have hln : (filL l.length (idF l) i).length = l.length := filL_len _ _ _
     by_cases hlt : k < l.length
     ·have hkk : (k : Int) < (l.length : Int) := by omega
      obtain ⟨r0, r1⟩ := OwnB.cell hO (by rw [List.length_set, hln]) i (by rw [List.length_set, hln]; exact hil)
      rw [set_get] at r0
      have hLr := hL1.out.same (Agree.of_below hB (fun b h _ => h))
      obtain ⟨b, off, rfl, hbw, -⟩ := hLr.dat (fun e => by rw [e] at hil; simp at hil)
      obtain ⟨pn, -⟩ := hLr.nmc hil
      obtain ⟨au, cu, pu, hU⟩ := hLr.usc hlt
      have hdr : Below wr.heap.size wr wr.drew := Below.drew (.refl _ _)
      have vh := rHas_any au cu (usI l k) (nmI l i) wr.drew (hU.below hdr)
      have mU := hU.le
      have hS0 : wr.drew.cell? ⟨b, off + k * 5 + 3, none⟩ = some (.slice au (usI l k).length cu) ∧ wr.drew.cell? ⟨b, off + i * 5, none⟩ = some (.string (nmI l i)) := ⟨cell_later hdr pu, cell_later hdr pn⟩
      have hOd : OwnB wr.drew w1.heap.size (.slice (some ⟨w1.heap.size, 0, none⟩) l.length l.length) ((filL l.length (idF l) i).set i (idK l i k)) := OwnL.call hO hdr
      obtain ⟨h3, h4⟩ := OwnB.set hOd (by rw [List.length_set, hln]) i (idK l i (k + 1))
      rw [List.set_set] at h3
      have hfin := Lib.hid (show ri2Rel l w1 i (.int .i64 ((k : Int) + 1)) (wr.drew.setCell ⟨w1.heap.size, i, none⟩ (.bool (idK l i (k + 1)))) from ⟨k + 1, by simp, hlt, h3, (bcall hB hdr).grown h4 (bcall hB hdr).size (fun j e => by injection e with e; omega)⟩)
      have r0 := cell_later hdr r0
      have r1d : wr.drew.frozen? ⟨w1.heap.size, i, none⟩ = false := r1
      have hne : b ≠ w1.heap.size := by omega
      rw [idK_succ] at hfin
      generalize memB (usI l k) (nmI l i) = mb at *
      generalize idK l i k = x1 at *
      generalize nmI l i = nm at *
      have vhH := Lib.hid vh
      have hLdr := Lib.hid hdr
      obtain ⟨Wd, hWd⟩ : ∃ Wd, wr.drew = Wd := ⟨_, rfl⟩
      rw [hWd] at hS0 r0 r1d vhH hfin
      have hSe := Lib.hid (show ∀ z, (Wd.setCell ⟨w1.heap.size, i, none⟩ (.bool z)).cell? ⟨b, off + k * 5 + 3, none⟩ = some (.slice au (usI l k).length cu) ∧ (Wd.setCell ⟨w1.heap.size, i, none⟩ (.bool z)).cell? ⟨b, off + i * 5, none⟩ = some (.string nm) from fun z => by
       have hk2 := Below.heap_setCell Wd ⟨w1.heap.size, i, none⟩ (.bool z) b hne
       exact ⟨(World.cell?_of_block (w := Wd) (a := ⟨b, off + k * 5 + 3, none⟩) hk2).trans hS0.1, (World.cell?_of_block (w := Wd) (a := ⟨b, off + i * 5, none⟩) hk2).trans hS0.2⟩)
      clear hO hB hOd h3 h4 hdr vh hU pn pu hLr r1 hbw
      generalize (usI l k).length = nU at *
      cases x1 with
      | false =>
       go_wp2_with fail
       refine wp_region_held_drew (S := fun w' => w'.cell? ⟨b, off + k * 5 + 3, none⟩ = some (.slice au nU cu) ∧ w'.cell? ⟨b, off + i * 5, none⟩ = some (.string nm)) (by kernel_rfl) (by rw [hWd]; exact hS0) (fun hS => ?_)
       rw [hWd]
       rw [hWd] at hS
       refine rtk 0 31 (v := ?_) hS ?_ ?_; rotate_left; · (intro w9 hS9; obtain ⟨z0, z1⟩ := hS9; go_simp; try (with_reducible rfl))
       refine rtk 1 32 (v := ?_) hS ?_ ?_; rotate_left; · (intro w9 hS9; obtain ⟨z0, z1⟩ := hS9; go_simp; try (with_reducible rfl))
       refine rtk 2 33 (v := ?_) hS ?_ ?_; rotate_left; · (intro w9 hS9; obtain ⟨z0, z1⟩ := hS9; go_simp; try (with_reducible rfl))
       refine rtk 3 34 (v := ?_) hS ?_ ?_; rotate_left; · (intro w9 hS9; obtain ⟨z0, z1⟩ := hS9; go_simp; try (with_reducible rfl))
       refine rtk 4 35 (v := ?_) hS ?_ ?_; rotate_left; · (intro w9 hS9; obtain ⟨z0, z1⟩ := hS9; go_simp; try (with_reducible rfl))
       refine region_call 5 rfl (by kernel_rfl) (fun K hK => ?_)
       go_simp
       refine hK.out _ _ hS ?_
       clear hK hS K
       intro hS
       try simp only [Act.put, List.setIfInBounds_toArray, List.set_cons_zero, List.set_cons_succ]
       refine rtk 6 37 (v := ?_) hS ?_ ?_; rotate_left; · (intro w9 hS9; obtain ⟨z0, z1⟩ := hS9; go_simp; try (with_reducible rfl))
       refine rsk 7 38 hS ?_
       refine rsk 8 39 hS ?_
       refine rsk 9 40 hS ?_
       refine rsk 10 41 hS ?_
       refine rsk 11 42 hS ?_
       refine rsk 12 43 hS ?_
       refine rsk 13 44 hS ?_
       refine rsk 14 45 hS ?_
       refine rsk 15 46 hS ?_
       refine rsk 16 47 hS ?_
       refine rsk 17 48 hS ?_
       refine rsk 18 49 hS ?_
       refine rtk 19 50 (v := ?_) hS ?_ ?_; rotate_left; · (intro w9 hS9; obtain ⟨z0, z1⟩ := hS9; go_simp; try (with_reducible rfl))
       refine rtk 20 51 (v := ?_) hS ?_ ?_; rotate_left; · (intro w9 hS9; obtain ⟨z0, z1⟩ := hS9; go_simp; try (with_reducible rfl))
       refine region_call 21 rfl (by kernel_rfl) (fun K hK => ?_)
       go_simp
       refine hK.out _ _ (hSe.out _) ?_
       clear hK hS K
       intro hS
       try simp only [Act.put, List.setIfInBounds_toArray, List.set_cons_zero, List.set_cons_succ]
       refine wpAnyH_done (by kernel_rfl) ?_ _
       clear hS
       go_wp2_with fail
       go_roundw
       case rel => exact hfin.out
       case measure => simp [intOf]; omega
      | true =>
       go_wp2_with fail
       refine wp_region_held_drew (S := fun w' => w'.cell? ⟨b, off + k * 5 + 3, none⟩ = some (.slice au nU cu) ∧ w'.cell? ⟨b, off + i * 5, none⟩ = some (.string nm)) (by kernel_rfl) (by rw [hWd]; exact hS0) (fun hS => ?_)
       rw [hWd]
       rw [hWd] at hS
       refine rtk 0 31 (v := ?_) hS ?_ ?_; rotate_left; · (intro w9 hS9; obtain ⟨z0, z1⟩ := hS9; go_simp; try (with_reducible rfl))
       refine rtk 1 32 (v := ?_) hS ?_ ?_; rotate_left; · (intro w9 hS9; obtain ⟨z0, z1⟩ := hS9; go_simp; try (with_reducible rfl))
       refine rtk 2 33 (v := ?_) hS ?_ ?_; rotate_left; · (intro w9 hS9; obtain ⟨z0, z1⟩ := hS9; go_simp; try (with_reducible rfl))
       refine rtk 3 34 (v := ?_) hS ?_ ?_; rotate_left; · (intro w9 hS9; obtain ⟨z0, z1⟩ := hS9; go_simp; try (with_reducible rfl))
       refine rtk 4 35 (v := ?_) hS ?_ ?_; rotate_left; · (intro w9 hS9; obtain ⟨z0, z1⟩ := hS9; go_simp; try (with_reducible rfl))
       refine region_call 5 rfl (by kernel_rfl) (fun K hK => ?_)
       go_simp
       refine hK.out _ _ hS ?_
       clear hK hS K
       intro hS
       try simp only [Act.put, List.setIfInBounds_toArray, List.set_cons_zero, List.set_cons_succ]
       refine rtk 6 37 (v := ?_) hS ?_ ?_; rotate_left; · (intro w9 hS9; obtain ⟨z0, z1⟩ := hS9; go_simp; try (with_reducible rfl))
       refine rtk 7 38 (v := ?_) hS ?_ ?_; rotate_left; · (intro w9 hS9; obtain ⟨z0, z1⟩ := hS9; go_simp; try (with_reducible rfl))
       refine rtk 8 39 (v := ?_) hS ?_ ?_; rotate_left; · (intro w9 hS9; obtain ⟨z0, z1⟩ := hS9; go_simp; try (with_reducible rfl))
       refine rtk 9 40 (v := ?_) hS ?_ ?_; rotate_left; · (intro w9 hS9; obtain ⟨z0, z1⟩ := hS9; go_simp; try (with_reducible rfl))
       refine rtk 10 41 (v := ?_) hS ?_ ?_; rotate_left; · (intro w9 hS9; obtain ⟨z0, z1⟩ := hS9; go_simp; try (with_reducible rfl))
       refine rtk 11 42 (v := ?_) hS ?_ ?_; rotate_left; · (intro w9 hS9; obtain ⟨z0, z1⟩ := hS9; go_simp; try (with_reducible rfl))
       refine rtk 12 43 (v := ?_) hS ?_ ?_; rotate_left; · (intro w9 hS9; obtain ⟨z0, z1⟩ := hS9; go_simp; try (with_reducible rfl))
       refine rtk 13 44 (v := ?_) hS ?_ ?_; rotate_left; · (intro w9 hS9; obtain ⟨z0, z1⟩ := hS9; go_simp; try (with_reducible rfl))
       refine rtk 14 45 (v := ?_) hS ?_ ?_; rotate_left; · (intro w9 hS9; obtain ⟨z0, z1⟩ := hS9; go_simp; try (with_reducible rfl))
       refine rtk 15 46 (v := ?_) hS ?_ ?_; rotate_left; · (intro w9 hS9; obtain ⟨z0, z1⟩ := hS9; go_simp; try (with_reducible rfl))
       refine rtk 16 47 (v := ?_) hS ?_ ?_; rotate_left; · (intro w9 hS9; obtain ⟨z0, z1⟩ := hS9; go_simp; try (with_reducible rfl))
       refine region_call 17 rfl (by kernel_rfl) (fun K hK => ?_)
       go_simp
       (with_reducible refine vhH.out.mono ?_)
       rintro e w6 ⟨rfl, rfl⟩
       go_simp
       refine hK.out _ _ hS ?_
       clear hK hS K
       intro hS
       try simp only [Act.put, List.setIfInBounds_toArray, List.set_cons_zero, List.set_cons_succ]
       refine rtk 18 49 (v := ?_) hS ?_ ?_; rotate_left; · (intro w9 hS9; obtain ⟨z0, z1⟩ := hS9; go_simp; try (with_reducible rfl))
       refine rtk 19 50 (v := ?_) hS ?_ ?_; rotate_left; · (intro w9 hS9; obtain ⟨z0, z1⟩ := hS9; go_simp; try (with_reducible rfl))
       refine rtk 20 51 (v := ?_) hS ?_ ?_; rotate_left; · (intro w9 hS9; obtain ⟨z0, z1⟩ := hS9; go_simp; try (with_reducible rfl))
       refine region_call 21 rfl (by kernel_rfl) (fun K hK => ?_)
       go_simp
       refine hK.out _ _ (hSe.out _) ?_
       clear hK hS K
       intro hS
       try simp only [Act.put, List.setIfInBounds_toArray, List.set_cons_zero, List.set_cons_succ]
       refine wpAnyH_done (by kernel_rfl) ?_ _
       clear hS
       go_wp2_with fail
       go_roundw
       case rel => exact hfin.out
       case measure => simp [intOf]; omega
     ·have hkk : ((k : Int) < (l.length : Int)) = False := eq_false (by omega)
      have hkl : k = l.length := by omega
      have hse := filL_set (n := l.length) (f := idF l) (k := i)
      rw [hkl, hse] at hO
      have hfin := Lib.hid (show ri1Rel l w1 (.int .i64 ((i : Int) + 1)) wr from ⟨i + 1, by simp, hil, hO, hB⟩)
      clear hO hB hse hkl hlt hk hln
      go_wp2_with fail
      go_roundw
      case rel => exact hfin.out
      case measure => simp [intOf]; omega
   ·have hii : ((i : Int) < (l.length : Int)) = False := eq_false (by omega)
    have hil2 : i = l.length := by omega
    rw [hil2, filL_all] at hO
    obtain ⟨a2, c2, e2, hS⟩ := OwnB.bools hO
    have hlen : ((List.range l.length).map (idF l)).length = l.length := by simp
    rw [hlen] at e2
    injection e2 with e3 e4 e5
    clear e4
    subst e3 e5
    have hb3 := bcall hbH.out hB
    have vc := rchosen_any la _ lc _ l (idF l) wr (h2H.out.below hb3) hS (by omega)
    have vcH := Lib.hid vc
    have hb3H := Lib.hid hb3
    clear vc hS hO hB hb3 hlen hil hi hil2
    go_wp2_with fail
    refine vcH.out.mono ?_
    rintro e w4 hso
    obtain ⟨v, rfl, hN⟩ := hso.names hb3H.out
    have hNH := Lib.hid (hN 0)
    clear hN hso
    go_wp2_with fail
    go_ret2
    rw [hf.out]
    exact hNH.out
end Go.Proofs.YtpmnnoopoblpgaaGreat

/- Walks: deps.Layers. -/
namespace Go.Proofs.YtpmnnoopoblpgaaGreat
open Go Go.RowKit Go.Maps

section
variable {B xb : Nat} {w w' : World} {s : Sg} {l : List Ent} {sa : Option Addr} {sc : Nat} {la : Option Addr} {lc bm : Nat}
theorem DOp.look1 (h : DOp B w xb s l sa sc la lc bm) (x : ByteArray) (hx : x.size ≤ big) : (Instr.lookup 68 (.map (some bm)) (.string x) false).run Tryz.prog w = .ok (.int .i64 (((atN l x).getD 0 : Nat) : Int)) w := by
 obtain ⟨n, _, hv⟩ := h.hM
 have := hv.look (tm := 68) Tryz.underlying68 (zInt w) x (big_max hx)
 have e : (atV l x).getD (.int .i64 0) = .int .i64 (((atN l x).getD 0 : Nat) : Int) := by unfold atV; cases atN l x <;> rfl
 rw [e] at this
 exact this
end
noncomputable def layersE (s : Sg) (l : List Ent) : List Int × Int := if ordlyE s l = 0 then (layL l (ordL l), 0) else ([], ordlyE s l)
def LayRet (r : List Int × Int) (w : World) (e : Ending) (w' : World) : Prop := ∃ v, e = .returned (.tuple #[v, .int .i64 r.2]) ∧ OwnI w' w.heap.size v r.1 ∧ Below w.heap.size w w'
theorem LayRet.nil {w w' : World} {er : Int} (hb : Below w.heap.size w w') : LayRet ([], er) w (.returned (.tuple #[.slice none 0 0, .int .i64 er])) w' := ⟨_, rfl, OwnL.nil _ _ _ _ _, hb⟩
theorem order_ok {s : Sg} {l : List Ent} (h : ordlyE s l = 0) : okLib s l = true ∧ noneB (misB l) = true ∧ ordM l = (ordL l, 0) := by
 unfold ordlyE orderE at h
 split at h
 ·rename_i hok
  refine ⟨hok, ?_⟩
  unfold ordM at h ⊢
  split at h
  ·rename_i h2
   split at h
   ·cases h
   ·rename_i h3
    exact ⟨h2, by rw [if_pos h2, if_neg h3]⟩
  ·cases h
 ·cases h
structure LayS (w1 wr : World) (n : Nat) (o : List Int) : Prop where
 own : OwnI wr w1.heap.size (.slice (some ⟨w1.heap.size, 0, none⟩) n n) o
 n : n = o.length
 b : Below w1.heap.size w1 wr
section
variable {w1 wr W : World} {n : Nat} {o : List Int}
theorem LayS.call (h : LayS w1 wr n o) (hb : Below wr.heap.size wr W) : LayS w1 W n o := ⟨OwnL.call h.own hb, h.n, bcall h.b hb⟩
theorem LayS.cell (h : LayS w1 wr n o) {i : Nat} (hi : i < n) : wr.cell? ⟨w1.heap.size, i, none⟩ = some (.int .i64 (o.getD i 0)) ∧ wr.frozen? ⟨w1.heap.size, i, none⟩ = false := by
 have hn := h.n
 have := OwnL.cellInt h.own h.n i (by omega)
 rwa [show o[i]'(by omega) = o.getD i 0 by rw [List.getD_eq_getElem?_getD, List.getElem?_eq_getElem (by omega)]; rfl] at this
theorem LayS.set (h : LayS w1 wr n o) (i : Nat) (x : Int) (hx : inRange x) : LayS w1 (wr.setCell ⟨w1.heap.size, i, none⟩ (.int .i64 x)) n (o.set i x) := by
 obtain ⟨h1, h2⟩ := OwnL.setInt h.own h.n i x hx
 exact ⟨h1, by rw [List.length_set]; exact h.n, h.b.grown h2 h.b.size (fun j e => by injection e with e; omega)⟩
theorem LayS.made (w1 : World) (n : Nat) (hn : n ≤ 100) : LayS w1 (w1.alloc (.cells (Array.replicate n (.int .i64 0)) 3)) n (List.replicate n 0) := by
 refine ⟨?_, by simp, below1 _ _⟩
 have := OwnL.lit (S := fun _ => False) w1 (List.replicate n (0 : Int)) 3 (fun x hx => by rw [(List.mem_replicate.1 hx).2]; unfold inRange; omega) (by simp; unfold maxLen; omega)
 rw [List.length_replicate, List.map_replicate, List.toArray_replicate] at this
 exact this
end
def ly1Rel (l : List Ent) (T : List Nat) (w1 : World) (qv : Value) (wr : World) : Prop := ∃ (q : Nat) (o : List Int), qv = .int .i64 q ∧ q ≤ T.length ∧ o = layL l (T.take q) ∧ LayS w1 wr l.length o ∧ LayB (12 * q) o
def ly2Rel (l : List Ent) (T : List Nat) (q i : Nat) (us : List ByteArray) (w1 : World) (jv : Value) (wr : World) : Prop := ∃ (j : Nat) (o : List Int), jv = .int .i64 j ∧ j ≤ us.length ∧ o = (us.take j).foldl (layU l i) (layL l (T.take q)) ∧ LayS w1 wr l.length o ∧ LayB (12 * q + j) o
theorem layL_succ {l : List Ent} {T : List Nat} {q : Nat} (hq : q < T.length) : layL l (T.take (q + 1)) = (usI l T[q]).foldl (layU l T[q]) (layL l (T.take q)) := by
 unfold layL
 rw [List.take_succ_eq_append_getElem hq, List.foldl_append]; rfl
theorem layU_succ {l : List Ent} {i j : Nat} {us : List ByteArray} {o : List Int} (hj : j < us.length) : (us.take (j + 1)).foldl (layU l i) o = layU l i ((us.take j).foldl (layU l i) o) us[j] := by
 rw [List.take_succ_eq_append_getElem hj, List.foldl_append]; rfl
theorem LayB.mono {M M' : Int} {o : List Int} (h : LayB M o) (hM : M ≤ M') : LayB M' o := fun j => ⟨(h j).1, by have := (h j).2; omega⟩
end Go.Proofs.YtpmnnoopoblpgaaGreat

/- Walks: deps.Layers. -/
namespace Go.Proofs.YtpmnnoopoblpgaaGreat
open Go Go.RowKit Go.Maps

theorem natI_get {T : List Nat} {q : Nat} (h : q < (natI T).length) : (natI T)[q] = ((T[q]'(by rw [natI_len] at h; exact h) : Nat) : Int) := by simp only [natI, List.getElem_map]
set_option maxRecDepth 100000 in
set_option maxHeartbeats 8000000 in
theorem Layers_any {S1 S2 : Nat → Prop} (sa la : Option Addr) (sc lc : Nat) (s : Sg) (l : List Ent) (w : World) (h1 : Sign S1 w sa sc s) (h2 : LibL S2 w la lc l) (hl : l.length ≤ 1000) :
  Calls Tryz.prog 51 #[.slice sa s.length sc, .slice la l.length lc] w (LayRet (layersE s l) w) := by
 have v := open_any sa la sc lc s l w h1 h2 hl
 have m := h2.le
 have m1 := h1.le
 obtain ⟨r, hr⟩ : ∃ r, layersE s l = r := ⟨_, rfl⟩
 rw [hr]
 have vH := Lib.hid v
 have hrH := Lib.hid hr
 have h2H := Lib.hid h2.lt
 clear v h1 h2 hr
 go_enter Tryz.func51, Tryz.ntmps51
 go_wp2_with fail
 refine vH.out.mono ?_
 rintro e w1 ⟨hb, h⟩
 have hbH := Lib.hid hb
 rcases h with ⟨hok, rfl⟩ | ⟨hok, xb, hxb, rfl, hD⟩
 ·have hf := Lib.hid (show r = ([], 1) by rw [← hrH.out]; unfold layersE; rw [ordly_bad hok]; rfl)
  clear hb hok vH
  go_wp2_with fail
  go_ret2
  rw [hf.out]
  exact LayRet.nil hbH.out
 ·have vo := Lib.hid (dorder_any hD)
  have hle : orderE s l = ordM l := by unfold orderE; rw [hok]; rfl
  have hle2 : ordlyE s l = (ordM l).2 := by unfold ordlyE; rw [hle]
  have hDH := Lib.hid hD
  have hle2H := Lib.hid hle2
  have hokH := Lib.hid hok
  clear hb hok vH hxb hD hle hle2
  go_wp2_with fail
  refine vo.out.mono ?_
  rintro e w2 ⟨v, rfl, ho, hb2⟩
  obtain ⟨ao, co, rfl, hI⟩ := OwnI.ints ho
  have hb2H := Lib.hid (bcall hbH.out hb2)
  have hD2 := hDH.out.call hb2
  have mI := hI.le
  have hIH := Lib.hid hI
  have hD2H := Lib.hid hD2
  have hL2 := Lib.hid ((h2H.out.below (bcall hbH.out hb2)).weak (S' := fun b => b < w2.heap.size) (fun b hb' => Nat.lt_of_lt_of_le hb'.2 (bcall hbH.out hb2).size))
  obtain ⟨er, her⟩ : ∃ er, (ordM l).2 = er := ⟨_, rfl⟩
  rw [her]
  clear hI ho hb2 hD2
  by_cases he : er = 0
  ·obtain ⟨hok, hmi, hom⟩ := order_ok (hle2H.out.trans (her.trans he))
   have hmi2 := Lib.hid (misB_none hmi)
   have hl60 := (okLib_parts hok).2.1
   have hd := (okLib_parts hok).2.2.2
   subst he
   have hf := Lib.hid (show r = (layL l (ordL l), 0) by rw [← hrH.out]; unfold layersE; rw [if_pos (hle2H.out.trans her)])
   rw [hom] at hIH mI
   simp only at hIH mI
   rw [hom]
   simp only
   have hOS := Lib.hid (ordL_ord l)
   obtain ⟨T, hT⟩ : ∃ T, ordL l = T := ⟨_, rfl⟩
   rw [hT] at hIH mI hOS hf
   rw [hT]
   have hTl := hOS.out.size
   have hms := fun W => makeZeros (W := W) l.length (by omega)
   have hst := Lib.hid (show ly1Rel l T w2 (.int .i64 0) (w2.alloc (.cells (Array.replicate l.length (.int .i64 0)) 3)) from ⟨0, _, rfl, Nat.zero_le _, rfl, LayS.made w2 l.length (by omega), LayB.zero _⟩)
   have hnl := natI_len T
   have hokU := Lib.hid (fun x (hx : x ∈ l) => okLib_uses hok hx)
   rw [hnl] at mI
   rw [hnl]
   clear her hom hok hmi hd hT
   go_wp2_with fail
   go_loopw [36] (fun qv wr => ly1Rel l T w2 qv wr) (fun qv _ => T.length - (intOf qv).toNat)
   case atStart => exact hst.out
   case round =>
    obtain ⟨q, o, rfl, hq, hoe, hS, hM⟩ := hrel
    obtain ⟨wo, hwo⟩ : ∃ wo, wo = wr := ⟨_, rfl⟩
    subst hwo
    by_cases hql : q < T.length
    ·have hqq : (q : Int) < (T.length : Int) := by omega
     obtain ⟨bo, oo, rfl, -, qo, -⟩ := (hIH.out.below hS.b).int q (by rw [hnl]; exact hql)
     rw [natI_get] at qo
     obtain ⟨i, hi⟩ : ∃ i, T[q] = i := ⟨_, rfl⟩
     rw [hi] at qo
     have hil : i < l.length := by rw [← hi]; exact hOS.out.lt _ (List.getElem_mem hql)
     have hii : (i : Int) < (l.length : Int) := by omega
     have hLo := hL2.out.same (Agree.of_below hS.b (fun b h _ => h))
     obtain ⟨b, off, rfl, hbw, -⟩ := hLo.dat (fun e => by rw [e] at hil; simp at hil)
     obtain ⟨au, cu, pu, hU⟩ := hLo.usc hil
     have mU := hU.le
     have hsucc := Lib.hid (show layL l (T.take (q + 1)) = (usI l i).foldl (layU l i) (layL l (T.take q)) by rw [layL_succ hql, hi])
     have hst2 := Lib.hid (show ly2Rel l T q i (usI l i) w2 (.int .i64 0) wo from ⟨0, o, rfl, Nat.zero_le _, hoe, hS, hM⟩)
     have hus := Lib.hid (show (usI l i).length ≤ 12 ∧ ∀ u ∈ usI l i, (atN l u).isSome = true ∧ u.size ≤ 16 by
      rw [usI_at hil]
      obtain ⟨u1, u2⟩ := hokU.out _ (List.getElem_mem hil)
      exact ⟨u1, fun u hu => ⟨hmi2.out _ (List.getElem_mem hil) u hu, u2 u hu⟩⟩)
     have hUH := Lib.hid hU
     have hSH := Lib.hid hS
     clear hi hU hLo hS hM hoe hbw
     go_wp2_with fail
     go_loopw [46] (fun jv wr => ly2Rel l T q i (usI l i) w2 jv wr) (fun jv _ => (usI l i).length - (intOf jv).toNat)
     case atStart => exact hst2.out
     case round =>
      obtain ⟨j, o, rfl, hj, hoe, hS, hM⟩ := hrel
      obtain ⟨u12, uall⟩ := hus.out
      by_cases hjl : j < (usI l i).length
      ·have hjj : (j : Int) < ((usI l i).length : Int) := by omega
       obtain ⟨us, hus2⟩ : ∃ us, usI l i = us := ⟨_, rfl⟩
       have hUr : Sl strE (fun b => b < w2.heap.size) wr au cu (usI l i) := hUH.out.same (fun b hb _ => (hS.b.block b hb).trans (hSH.out.b.block b hb).symm)
       obtain ⟨bu, ou, rfl, -, qu, hzu⟩ := hUr.str j hjl
       obtain ⟨hsome, hsz⟩ := uall _ (List.getElem_mem hjl)
       obtain ⟨sa2, sc2, la2, lc2, bm, hO⟩ := (hD2H.out.call hS.b).op
       have q2 := hO.q2
       have hdr : Below wr.heap.size wr wr.drew := Below.drew (.refl _ _)
       have hlk := (hO.call hdr).look1 (usI l i)[j] hzu
       have hoe2 := layU_succ (l := l) (i := i) (o := layL l (T.take q)) hjl
       rw [← hoe] at hoe2
       cases hat : atN l (usI l i)[j] with
       | none => rw [hat] at hsome; cases hsome
       | some k =>
        obtain ⟨hk, -⟩ := nmI_of hat
        rw [hat] at hlk
        simp only [Option.getD_some] at hlk
        have hx0 := hM i
        have hx1 := hM k
        have hov : layU l i o (usI l i)[j] = o.set i (max (o.getD i 0) (o.getD k 0 + 1)) := by
         unfold layU
         rw [hat, Option.getD_some]
        rw [hov] at hoe2
        have hnb := hM.step l i (usI l i)[j]
        rw [hov] at hnb
        obtain ⟨c1, f1⟩ := hS.cell hil
        obtain ⟨c2, -⟩ := hS.cell hk
        have hkk : (k : Int) < (l.length : Int) := by omega
        have hS2 := (hS.set i (max (o.getD i 0) (o.getD k 0 + 1)) (by unfold inRange; omega)).call (Below.drew (.refl _ _))
        have hfin := Lib.hid (show ly2Rel l T q i (usI l i) w2 (.int .i64 ((j : Int) + 1)) (wr.setCell ⟨w2.heap.size, i, none⟩ (.int .i64 (max (o.getD i 0) (o.getD k 0 + 1)))).drew from ⟨j + 1, _, by simp, hjl, hoe2.symm, hS2, hnb.mono (by omega)⟩)
        have hr1 : -9223372036854775808 ≤ o.getD k 0 + 1 := by omega
        have hr2 : o.getD k 0 + 1 ≤ 9223372036854775807 := by omega
        clear hoe hoe2 hov hnb hS hM hS2 hUr hO hx0 hx1 hat hsome hsz hus2 uall u12
        generalize (usI l i)[j] = u at *
        generalize o.getD k 0 = ok at *
        generalize o.getD i 0 = oi at *
        generalize (usI l i).length = nU at *
        go_wp2_with fail
        go_region
        go_wp2_with fail
        go_roundw
        case rel => exact hfin.out
        case measure => simp [intOf]; omega
      ·have hjj : ((j : Int) < ((usI l i).length : Int)) = False := eq_false (by omega)
       have hje : j = (usI l i).length := by omega
       rw [hje, List.take_length, ← hsucc.out] at hoe
       have hfin := Lib.hid (show ly1Rel l T w2 (.int .i64 ((q : Int) + 1)) wr from ⟨q + 1, o, by simp, hql, hoe, hS, hM.mono (by omega)⟩)
       clear hoe hS hM hjl hj hje uall u12
       go_wp2_with fail
       go_roundw
       case rel => exact hfin.out
       case measure => simp [intOf]; omega
    ·have hqq : ((q : Int) < (T.length : Int)) = False := eq_false (by omega)
     have hqe : q = T.length := by omega
     rw [hqe, List.take_length] at hoe
     have hfin := Lib.hid (show LayRet r w (.returned (.tuple #[.slice (some ⟨w2.heap.size, 0, none⟩) l.length l.length, .int .i64 0])) wo by
      rw [hf.out, ← hoe]
      exact ⟨_, rfl, OwnL.baseMono hS.own hb2H.out.size, bcall hb2H.out hS.b⟩)
     clear hoe hS hM hqe hql hq
     go_wp2_with fail
     go_ret2
     exact hfin.out
  ·have hf := Lib.hid (show r = ([], er) by rw [← hrH.out]; unfold layersE; rw [hle2H.out, her, if_neg he])
   have hne : (er == 0) = false := by simpa using he
   clear her he
   generalize (natI (ordM l).1).length = nT at *
   go_wp2_with fail
   go_ret2
   rw [hf.out]
   exact LayRet.nil hb2H.out
end Go.Proofs.YtpmnnoopoblpgaaGreat

/- Walks: Layers of the reference. -/
namespace Go.Proofs.YtpmnnoopoblpgaaGreat
open Go Go.RowKit Go.Maps

def rly2Rel (l : List Ent) (T : List Nat) (q i : Nat) (us : List ByteArray) (w1 wE : World) (jv : Value) (wr : World) : Prop := ∃ (j : Nat) (o : List Int), jv = .int .i64 j ∧ j ≤ us.length ∧ o = (us.take j).foldl (layU l i) (layL l (T.take q)) ∧ LayS w1 wr l.length o ∧ LayB (12 * q + j) o ∧ wE.grownBy wr (some w1.heap.size)
set_option maxRecDepth 100000 in
set_option maxHeartbeats 8000000 in
theorem rLayers_any {S1 S2 : Nat → Prop} (sa la : Option Addr) (sc lc : Nat) (s : Sg) (l : List Ent) (w : World) (h1 : Sign S1 w sa sc s) (h2 : LibL S2 w la lc l) :
  Calls Tryz.prog 52 #[.slice sa s.length sc, .slice la l.length lc] w (LayRet (layersE s l) w) := by
 have v := rorderly_any sa la sc lc s l w h1 h2
 have m := h2.le
 have m1 := h1.le
 have h2H := Lib.hid h2.lt
 have vH := Lib.hid v
 obtain ⟨er, her⟩ : ∃ er, ordlyE s l = er := ⟨_, rfl⟩
 have herH := Lib.hid her
 clear v h1 h2 her
 go_enter Tryz.func52, Tryz.ntmps52
 go_wp2_with fail
 refine vH.out.mono ?_
 rintro e w1 ⟨rfl, hb, h⟩
 rw [herH.out] at h ⊢
 have hbH := Lib.hid hb
 rcases h with ⟨hn, hr⟩ | ⟨rfl, hok, hmi, hr⟩
 ·have hne : (er == 0) = false := by simpa using hn
  have hfin := Lib.hid (show LayRet (layersE s l) w (.returned (.tuple #[.slice none 0 0, .int .i64 er])) w1 from by unfold layersE; rw [herH.out, if_neg hn]; exact LayRet.nil hbH.out)
  clear hn hr hb
  go_wp2_with fail
  go_ret2
  exact hfin.out
 ·have hf := Lib.hid (show layersE s l = (layL l (ordL l), 0) by unfold layersE; rw [if_pos herH.out])
  have hl60 := (okLib_parts hok).2.1
  have hms := fun W => makeZeros (W := W) l.length (by omega)
  have hmi2 := Lib.hid (misB_none hmi)
  obtain ⟨W2, hW2⟩ : ∃ W2, w1.alloc (.cells (Array.replicate l.length (.int .i64 0)) 3) = W2 := ⟨_, rfl⟩
  have hb2 : Below w1.heap.size w1 W2 := by rw [← hW2]; exact below1 _ _
  have hS0 : LayS w1 W2 l.length (List.replicate l.length 0) := by rw [← hW2]; exact LayS.made w1 l.length (by omega)
  have vo := Lib.hid (rordered_any la lc l W2 (h2H.out.below (bcall hb hb2)) hok hmi2.out)
  have hL1 := Lib.hid ((h2H.out.below hb).weak (S' := fun b => b < w1.heap.size) (fun b hb' => Nat.lt_of_lt_of_le hb'.2 hb.size))
  have hokU := Lib.hid (fun x (hx : x ∈ l) => okLib_uses hok hx)
  have hS0H := Lib.hid hS0
  have hW2H := Lib.hid hW2
  have hz2 : W2.heap.size = w1.heap.size + 1 := by rw [← hW2]; simp
  have hz2H := Lib.hid hz2
  clear hok hmi hr hb hb2 hS0 hW2 hz2
  go_wp2_with fail
  rw [hW2H.out]
  refine vo.out.mono ?_
  rintro e w2 ⟨v, rfl, ho, hb2⟩
  obtain ⟨ao, co, rfl, hI⟩ := OwnI.ints ho
  have hOS := Lib.hid (ordL_ord l)
  obtain ⟨T, hT⟩ : ∃ T, ordL l = T := ⟨_, rfl⟩
  rw [hT] at hI hOS hf
  rw [hT]
  have hTl := hOS.out.size
  have hnl := natI_len T
  have mI := hI.le
  have hIH := Lib.hid hI
  have hS2 := hS0H.out.call hb2
  have hzz : w1.heap.size + 1 ≤ w2.heap.size := by have := hb2.size; have := hz2H.out; omega
  have hst := Lib.hid (show ly1Rel l T w1 (.int .i64 0) w2 ∧ w2.grownBy w2 (some w1.heap.size) from ⟨⟨0, _, rfl, Nat.zero_le _, rfl, hS2, LayB.zero _⟩, gby_refl _ _⟩)
  rw [hnl] at mI
  rw [hnl]
  have hW2z := hz2H.out
  clear hT hI ho hb2 hS2
  go_wp2_with fail
  go_loopw [9] (fun qv wr => ly1Rel l T w1 qv wr ∧ w2.grownBy wr (some w1.heap.size)) (fun qv _ => T.length - (intOf qv).toNat)
  case atStart => exact hst.out
  case round =>
   obtain ⟨⟨q, o, rfl, hq, hoe, hS, hM⟩, hG⟩ := hrel
   obtain ⟨wo, hwo⟩ : ∃ wo, wo = wr := ⟨_, rfl⟩
   subst hwo
   by_cases hql : q < T.length
   ·have hqq : (q : Int) < (T.length : Int) := by omega
    have hIo : Ints (fun b => W2.heap.size ≤ b) wo ao co (natI T) := hIH.out.same (fun b hb hlt => hG.block b hlt (fun e => by injection e with e; omega))
    obtain ⟨bo, oo, rfl, hbo, qo, -⟩ := hIo.int q (by rw [hnl]; exact hql)
    rw [natI_get] at qo
    obtain ⟨i, hi⟩ : ∃ i, T[q] = i := ⟨_, rfl⟩
    rw [hi] at qo
    have hil : i < l.length := by rw [← hi]; exact hOS.out.lt _ (List.getElem_mem hql)
    have hii : (i : Int) < (l.length : Int) := by omega
    have hLo := hL1.out.same (Agree.of_below hS.b (fun b h _ => h))
    obtain ⟨b, off, a1, c1, a2, c2, a3, c3, rfl, hbw, p0, p1, p2, p3, p4, z1, z2, hJ, hU, hP⟩ := hLo.ent i hil
    obtain ⟨W, hW⟩ : ∃ W, wo.alloc (.cells #[.string (eNm l[i]), .string (eBy l[i]), .slice a1 (eSays l[i]).length c1, .slice a2 (eUses l[i]).length c2, .slice a3 (ePf l[i]).length c3] 37) = W := ⟨_, rfl⟩
    have hBW : Below wo.heap.size wo W := by rw [← hW]; exact below1 wo _
    have r3 : W.cell? ⟨wo.heap.size, 3, none⟩ = some (.slice a2 (eUses l[i]).length c2) := by rw [← hW]; clear hW; go_simp
    have qoW := cell_later hBW qo
    have mU := hU.le
    have hsucc := Lib.hid (show layL l (T.take (q + 1)) = (eUses l[i]).foldl (layU l i) (layL l (T.take q)) by rw [layL_succ hql, hi, usI_at hil])
    have hst2 := Lib.hid (show rly2Rel l T q i (eUses l[i]) w1 W (.int .i64 0) W from ⟨0, o, rfl, Nat.zero_le _, hoe, hS.call hBW, hM, gby_refl _ _⟩)
    have hus := Lib.hid (show (eUses l[i]).length ≤ 12 ∧ ∀ u ∈ eUses l[i], (atN l u).isSome = true ∧ u.size ≤ 16 by
     obtain ⟨u1, u2⟩ := hokU.out _ (List.getElem_mem hil)
     exact ⟨u1, fun u hu => ⟨hmi2.out _ (List.getElem_mem hil) u hu, u2 u hu⟩⟩)
    have hUH := Lib.hid (hU.below hBW)
    have hSH := Lib.hid (hS.call hBW)
    have hGH := Lib.hid (gby_trans hG (gby_below (row := some w1.heap.size) hBW))
    have hwne : wo.heap.size ≠ w1.heap.size := by have := hG.size; omega
    have hr3H := Lib.hid r3
    have hqoH := Lib.hid qoW
    have hbne : bo ≠ w1.heap.size := by omega
    clear hi hU hLo hS hM hoe hbw hJ hP hG hIo qoW r3 z1 z2 hBW
    generalize eUses l[i] = us at *
    generalize eNm l[i] = nm at *
    generalize eBy l[i] = bn at *
    generalize (eSays l[i]).length = n1 at *
    generalize (ePf l[i]).length = n3 at *
    go_wp2_with fail
    try rw [hW]
    clear hW
    go_loopw [11] (fun jv wr => rly2Rel l T q i us w1 W jv wr) (fun jv _ => us.length - (intOf jv).toNat)
    case atStart => exact hst2.out
    case round =>
     obtain ⟨j, o, rfl, hj, hoe, hS, hM, hG⟩ := hrel
     obtain ⟨u12, uall⟩ := hus.out
     have r3 : wr.cell? ⟨wo.heap.size, 3, none⟩ = some (.slice a2 us.length c2) := hG.cell hr3H.out (by intro e; injection e with e; exact hwne e)
     have qor : wr.cell? ⟨bo, oo + q, none⟩ = some (.int .i64 i) := hG.cell hqoH.out (by intro e; injection e with e; exact hbne e)
     by_cases hjl : j < us.length
     ·have hjj : (j : Int) < (us.length : Int) := by omega
      have hUr : Sl strE (fun b => b < w1.heap.size) wr a2 c2 us := hUH.out.same (fun b hb hlt => hG.block b hlt (fun e => by injection e with e; omega))
      obtain ⟨bu, ou, rfl, -, qu, hzu⟩ := hUr.str j hjl
      obtain ⟨hsome, hsz⟩ := uall _ (List.getElem_mem hjl)
      have vi := rIndex_any (some ⟨b, off, none⟩) lc l us[j] wr (hL1.out.same (Agree.of_below hS.b (fun b h _ => h)))
      have hoe2 := layU_succ (l := l) (i := i) (o := layL l (T.take q)) hjl
      rw [← hoe] at hoe2
      cases hat : atN l us[j] with
      | none => rw [hat] at hsome; cases hsome
      | some k =>
       obtain ⟨hk, -⟩ := nmI_of hat
       rw [ixN_some' hat] at vi
       have hx0 := hM i
       have hx1 := hM k
       obtain ⟨c1, f1⟩ := hS.cell hil
       obtain ⟨c2, -⟩ := hS.cell hk
       have hkk : (k : Int) < (l.length : Int) := by omega
       have hnb := hM.step l i us[j]
       have hr1 : -9223372036854775808 ≤ o.getD k 0 + 1 := by omega
       have hr2 : o.getD k 0 + 1 ≤ 9223372036854775807 := by omega
       have viH := Lib.hid vi
       by_cases hgt : o.getD i 0 < o.getD k 0 + 1
       ·have hov : layU l i o us[j] = o.set i (o.getD k 0 + 1) := by
         unfold layU
         rw [hat, Option.getD_some]
         congr 1
         omega
        rw [hov] at hoe2 hnb
        have hS2 := hS.set i (o.getD k 0 + 1) (by unfold inRange; omega)
        have hfin := Lib.hid (show rly2Rel l T q i us w1 W (.int .i64 ((j : Int) + 1)) (wr.setCell ⟨w1.heap.size, i, none⟩ (.int .i64 (o.getD k 0 + 1))) from ⟨j + 1, _, by simp, hjl, hoe2.symm, hS2, hnb.mono (by omega), gby_trans hG (OwnL.setInt hS.own hS.n i (o.getD k 0 + 1) (by unfold inRange; omega)).2⟩)
        clear hoe hoe2 hov hnb hS hM hS2 hUr hx0 hx1 hat hsome hsz uall u12 hG vi
        generalize us[j] = u at *
        generalize o.getD k 0 = ok at *
        generalize o.getD i 0 = oi at *
        generalize us.length = nU at *
        go_wp2_with fail
        refine viH.out.mono ?_
        rintro e w9 ⟨rfl, rfl⟩
        go_wp2_with fail
        go_roundw
        case rel => exact hfin.out
        case measure => simp [intOf]; omega
       ·have hov : layU l i o us[j] = o := by
         unfold layU
         rw [hat, Option.getD_some]
         have e1 : max (o.getD i 0) (o.getD k 0 + 1) = o.getD i 0 := by omega
         rw [e1]
         have hon := hS.n
         apply List.ext_getElem
         ·simp
         ·intro x h1 h2
          rw [List.getElem_set]
          split
          ·rename_i e
           subst e
           rw [List.getD_eq_getElem?_getD, List.getElem?_eq_getElem h2]; rfl
          ·rfl
        rw [hov] at hoe2 hnb
        have hfin := Lib.hid (show rly2Rel l T q i us w1 W (.int .i64 ((j : Int) + 1)) wr from ⟨j + 1, _, by simp, hjl, hoe2.symm, hS, hnb.mono (by omega), hG⟩)
        clear hoe hoe2 hov hnb hS hM hUr hx0 hx1 hat hsome hsz uall u12 hG vi
        generalize us[j] = u at *
        generalize o.getD k 0 = ok at *
        generalize o.getD i 0 = oi at *
        generalize us.length = nU at *
        go_wp2_with fail
        refine viH.out.mono ?_
        rintro e w9 ⟨rfl, rfl⟩
        go_wp2_with fail
        go_roundw
        case rel => exact hfin.out
        case measure => simp [intOf]; omega
     ·have hjj : ((j : Int) < (us.length : Int)) = False := eq_false (by omega)
      have hje : j = us.length := by omega
      rw [hje, List.take_length, ← hsucc.out] at hoe
      have hfin := Lib.hid (show ly1Rel l T w1 (.int .i64 ((q : Int) + 1)) wr ∧ w2.grownBy wr (some w1.heap.size) from ⟨⟨q + 1, o, by simp, hql, hoe, hS, hM.mono (by omega)⟩, gby_trans hGH.out hG⟩)
      clear hoe hS hM hjl hj hje uall u12 hG
      go_wp2_with fail
      go_roundw
      case rel => exact hfin.out
      case measure => simp [intOf]; omega
   ·have hqq : ((q : Int) < (T.length : Int)) = False := eq_false (by omega)
    have hqe : q = T.length := by omega
    rw [hqe, List.take_length] at hoe
    have hfin := Lib.hid (show LayRet (layersE s l) w (.returned (.tuple #[.slice (some ⟨w1.heap.size, 0, none⟩) l.length l.length, .int .i64 0])) wo by
     rw [hf.out, ← hoe]
     exact ⟨_, rfl, OwnL.baseMono hS.own hbH.out.size, bcall hbH.out hS.b⟩)
    clear hoe hS hM hqe hql hq hG
    go_wp2_with fail
    go_ret2
    exact hfin.out
end Go.Proofs.YtpmnnoopoblpgaaGreat
