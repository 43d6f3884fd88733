/- The statement DepsOrdersSaid: for every input DepsOrders returns true and leaves its arguments as they were. No condition. -/
import Derived.Test.YtpmnnoopoblpgaaGreatMtP
import Derived.Test.YtpmnnoopoblpgaaGreatMtE
import Derived.Test.YtpmnnoopoblpgaaGreatBase
import Derived.Test.YtpmnnoopoblpgaaGreatMtA
import Derived.ProofKit
import Derived.LaidMore
import Derived.OpenShut
import Derived.Stop.Joined
import Derived.ChangeMaps5
import Derived.Test.YtpmnnoopoblpgaaGreatMtD
import Derived.Test.YtpmnnoopoblpgaaGreatMtC
import Derived.Test.YtpmnnoopoblpgaaGreatMtO
import Derived.Lib.SliceRun
import Derived.Test.YtpmnnoopoblpgaaGreatMtW
/- A library in another order, in plain words: nothing that is told by names changes. No program is named. -/
namespace Go.Proofs.YtpmnnoopoblpgaaGreat

/-- the same entries -/
structure SameL (l m : List Ent) : Prop where
  nl : (l.map eNm).Nodup
  nm : (m.map eNm).Nodup
  pm : l.Perm m
theorem SameL.symm {l m : List Ent} (h : SameL l m) : SameL m l := ⟨h.nm, h.nl, h.pm.symm⟩
theorem SameL.of {s : Sg} {l m : List Ent} (h : okLib s l = true) (p : l.Perm m) : SameL l m :=
  ⟨(okLib_prts h).2.2.2, (p.map eNm).nodup_iff.1 (okLib_prts h).2.2.2, p⟩
theorem SameL.to {l m : List Ent} (h : SameL l m) {x : ByteArray} {i : Nat} (hi : atN l x = some i) : ∃ j, atN m x = some j ∧ m.getD j default = l.getD i default := by
  obtain ⟨h1, h2⟩ := atN_some hi
  obtain ⟨j, hj, e⟩ := List.getElem_of_mem (h.pm.mem_iff.1 (List.getElem_mem h1))
  refine ⟨j, ?_, by rw [getD_at h1, getD_at hj, e]⟩
  rw [← h2, ← e]
  exact atN_at h.nm hj
theorem SameL.none {l m : List Ent} (h : SameL l m) {x : ByteArray} (hi : atN l x = none) : atN m x = none := by
  cases hm : atN m x with
  | none => rfl
  | some j =>
    obtain ⟨i, hi', -⟩ := h.symm.to hm
    rw [hi] at hi'; cases hi'
theorem SameL.isSome {l m : List Ent} (h : SameL l m) (x : ByteArray) : (atN l x).isSome = (atN m x).isSome := by
  cases hi : atN l x with
  | none => rw [h.none hi]
  | some i => obtain ⟨j, hj, -⟩ := h.to hi; rw [hj]; rfl
theorem SameL.uses {l m : List Ent} (h : SameL l m) : usesN l = usesN m := by
  funext x
  unfold usesN
  cases hi : atN l x with
  | none => rw [h.none hi]
  | some i => obtain ⟨j, hj, e⟩ := h.to hi; rw [hj]; simp only [e]
theorem SameL.rch {l m : List Ent} (h : SameL l m) (may : ByteArray → Bool) (n u : ByteArray) : rchB l may n u = rchB m may n u := by
  unfold rchB; rw [h.uses]
theorem SameL.inA {l m : List Ent} (h : SameL l m) (us : List ByteArray) : inAll l us = inAll m us := by
  unfold inAll
  rw [Bool.eq_iff_iff, List.all_eq_true, List.all_eq_true]
  exact forall_congr' fun u => by rw [h.isSome u]
theorem SameL.giv {l m : List Ent} (h : SameL l m) {us : List ByteArray} (hi : inAll l us = true) : givF l us = givF m us := by
  unfold givF
  refine List.map_congr_left fun u hu => ?_
  unfold inAll at hi
  rw [List.all_eq_true] at hi
  have := hi u hu
  cases hat : atN l u with
  | none => rw [hat] at this; cases this
  | some i => obtain ⟨j, hj, e⟩ := h.to hat; rw [hj]; simp only [Option.getD_some, e]
theorem SameL.hold {s : Sg} {l m : List Ent} (h : SameL l m) {i j : Nat} (e : l.getD i default = m.getD j default) : holdX s l i = holdX s m j := by
  have hs : strX s l i = strX s m j := by
    unfold strX
    rw [e]
    by_cases h0 : ePf (m.getD j default) = []
    · rw [if_pos h0, if_pos h0]
    · rw [if_neg h0, if_neg h0, h.inA]
      by_cases h1 : inAll m (eUses (m.getD j default)) = true
      · rw [if_pos h1, if_pos h1, h.giv (by rw [h.inA]; exact h1)]
      · rw [if_neg h1, if_neg h1]
  unfold holdX
  rw [hs, e]
theorem SameL.ch {l m : List Ent} (h : SameL l m) {pd qd : Nat → Bool} (hp : ∀ i j, i < l.length → j < m.length → l.getD i default = m.getD j default → pd i = qd j) : chB l pd = chB m qd := by
  funext x
  rw [chB_at h.nl, chB_at h.nm]
  cases hi : atN l x with
  | none => rw [h.none hi]
  | some i =>
    obtain ⟨j, hj, e⟩ := h.to hi
    rw [hj]
    exact hp i j (atN_some hi).1 (atN_some hj).1 e.symm
theorem SameL.mss {l m : List Ent} (h : SameL l m) (u : ByteArray) : mssB l u = mssB m u := by
  unfold mssB
  have e1 : l.any (fun x => memB (eUses x) u) = m.any (fun x => memB (eUses x) u) := by
    rw [Bool.eq_iff_iff, List.any_eq_true, List.any_eq_true]
    exact exists_congr fun x => by rw [h.pm.mem_iff]
  have e2 : (atN l u).isNone = (atN m u).isNone := by
    have := h.isSome u
    cases h1 : atN l u <;> cases h2 : atN m u <;> rw [h1, h2] at this <;> first | rfl | cases this
  rw [e1, e2]
theorem SameL.bad {s : Sg} {l m : List Ent} (h : SameL l m) (u : ByteArray) : badB s l u = badB s m u := by
  unfold badB
  rw [h.mss, h.ch (qd := fun i => !holdX s m i) (fun i j _ _ e => by rw [h.hold e])]
theorem SameL.good {s : Sg} {l m : List Ent} (h : SameL l m) {i j : Nat} (e : l.getD i default = m.getD j default) : goodB s l i = goodB s m j := by
  have en : nmI l i = nmI m j := by unfold nmI; rw [e]
  unfold goodB
  rw [en, h.bad]
  congr 1
  refine decide_eq_decide.2 (forall_congr' fun n => ?_)
  rw [h.rch, h.bad]
theorem okLib_perm {s : Sg} {l m : List Ent} (p : l.Perm m) : okLib s l = okLib s m := by
  have h1 : ∀ {l m : List Ent}, l.Perm m → okLib s l = true → okLib s m = true := fun {l m} p h => by
    unfold okLib at h ⊢
    simp only [Bool.and_eq_true, decide_eq_true_eq, List.all_eq_true] at h ⊢
    exact ⟨h.1, by rw [← p.length_eq]; exact h.2.1, fun x hx => h.2.2.1 x (p.mem_iff.2 hx), (p.map eNm).nodup_iff.1 h.2.2.2⟩
  rw [Bool.eq_iff_iff]
  exact ⟨h1 p, h1 p.symm⟩
theorem erase_perm : ∀ {l : List Ent} {i : Nat} (hi : i < l.length), (l[i] :: l.eraseIdx i).Perm l
  | x :: r, 0, _ => .refl _
  | x :: r, i + 1, hi => by
    have hi' : i < r.length := by simpa using hi
    have h := erase_perm (l := r) (i := i) hi'
    rw [List.getElem_cons_succ, List.eraseIdx_cons_succ]
    exact (List.Perm.swap x r[i] _).trans (h.cons x)
theorem SameL.er {s : Sg} {l m : List Ent} (hok : okLib s l = true) (h : SameL l m) {i j : Nat} (hi : i < l.length) (hj : j < m.length) (e : l.getD i default = m.getD j default) : SameL (l.eraseIdx i) (m.eraseIdx j) := by
  rw [getD_at hi, getD_at hj] at e
  have p1 := (erase_perm hi).trans (h.pm.trans (erase_perm hj).symm)
  rw [e] at p1
  exact SameL.of (erase_ok hok i) p1.cons_inv
theorem SameL.los {s : Sg} {l m : List Ent} (hok : okLib s l = true) (h : SameL l m) {i j : Nat} (hi : i < l.length) (hj : j < m.length) (e : l.getD i default = m.getD j default) : losB s l i = losB s m j := by
  funext x
  have hE := h.er hok hi hj e
  unfold losB
  cases h1 : atN l x with
  | none => rw [h.none h1]
  | some a =>
    obtain ⟨b, hb, e1⟩ := h.to h1
    rw [hb]
    cases h2 : atN (l.eraseIdx i) x with
    | none => rw [hE.none h2]
    | some c =>
      obtain ⟨d, hd, e2⟩ := hE.to h2
      rw [hd]
      simp only
      rw [h.good e1.symm, hE.good e2.symm]
theorem CircS.same {l m : List Ent} (h : SameL l m) {first : ByteArray} {out C : List ByteArray} {now : ByteArray} (hc : CircS l first out now C) : CircS m first out now C := by
  have hcand : ∀ out u, candB l first out u = candB m first out u := fun out u => by unfold candB; rw [h.rch]
  induction hc with
  | stop h1 => exact .stop (by rw [← h.uses]; exact h1)
  | step h1 h2 h3 h4 _ ih =>
    refine .step (by rw [← h.uses]; exact h1) (by rw [← h.uses]; exact h2) (by rw [← hcand]; exact h3) (fun u hu hc => h4 u (by rw [h.uses]; exact hu) (by rw [hcand]; exact hc)) ih
theorem CircR.same {l m : List Ent} (h : SameL l m) {C : Option (List ByteArray)} (hc : CircR l C) : CircR m C := by
  have hm : ∀ x, x ∈ m.map eNm ↔ x ∈ l.map eNm := fun x => ((h.pm.map eNm).mem_iff).symm
  have hl : ∀ x, loopB m x = loopB l x := fun x => by unfold loopB; rw [h.rch]
  cases C with
  | none => exact fun x hx => by rw [hl]; exact hc x ((hm x).1 hx)
  | some C =>
    obtain ⟨f, h1, h2, h3, h4⟩ := hc
    exact ⟨f, (hm f).2 h1, by rw [hl]; exact h2, fun x hx hxf => by rw [hl]; exact h3 x ((hm x).1 hx) hxf, h4.same h⟩
end Go.Proofs.YtpmnnoopoblpgaaGreat

/- Facts of the program's types that the rows over the kernel want; the start of a row that lists variables. -/
namespace Go.Proofs.YtpmnnoopoblpgaaGreat
open Go Go.RowKit Go.ChangeShapes Go.WideShapes Go.ChangeAt Go.Deep

theorem gives3 {P : Program} {t : TypeId} {α β γ : Type} {E : Enc α} {F : Enc β} {G : Enc γ} {f0 f1 f2 : Field} (ht : P.underlying t = some (.struct #[f0, f1, f2])) (h0 : f0.offset = 0) (h1 : f1.offset = E.size) (h2 : f2.offset = E.size + F.size) (hc : P.cellsOf t = E.size + (F.size + G.size))
    (hc0 : P.cellsOf f0.type = E.size) (hc1 : P.cellsOf f1.type = F.size) (hc2 : P.cellsOf f2.type = G.size) (g0 : Gives P f0.type E) (g1 : Gives P f1.type F) (g2 : Gives P f2.type G) : Gives P t (pairE E (pairE F G)) := by
  intro H enc w base spare held n cs x h
  obtain ⟨y0, y1, y2, n', _, hl, r0, r1, r2⟩ := trod_struct3 ht h
  obtain ⟨a, ha⟩ := g0 H enc w base spare held n' _ _ r0
  obtain ⟨b, hb⟩ := g1 H enc w base spare held n' _ _ r1
  obtain ⟨c, hcc⟩ := g2 H enc w base spare held n' _ _ r2
  refine ⟨(a, b, c), _, _, ?_, ha, _, _, rfl, hb, hcc⟩
  rw [h0, h1, h2, hc0, hc1, hc2, List.drop_zero]
  have e1 : (cs.drop (E.size + F.size)).take G.size = cs.drop (E.size + F.size) := List.take_of_length_le (by simp; omega)
  rw [e1, ← List.drop_drop, List.take_append_drop, List.take_append_drop]
theorem gStp : Gives Tryz.prog 117 stpE := gives3 Tryz.underlying117 rfl rfl rfl (by kernel_rfl) (by kernel_rfl) (by kernel_rfl) (by kernel_rfl) gInt gInt gInt
theorem gSteps : Gives Tryz.prog 35 (slE stpE) := gives_slice Tryz.underlying35 (by kernel_rfl) gStp
end Go.Proofs.YtpmnnoopoblpgaaGreat

/- Facts of the program's types that the rows over libraries want. -/
namespace Go.Proofs.YtpmnnoopoblpgaaGreat
open Go Go.RowKit Go.ChangeShapes Go.WideShapes Go.ChangeAt Go.Deep

theorem gives5 {P : Program} {t : TypeId} {α β γ δ ε : Type} {E : Enc α} {F : Enc β} {G : Enc γ} {J : Enc δ} {K : Enc ε} {f0 f1 f2 f3 f4 : Field} (ht : P.underlying t = some (.struct #[f0, f1, f2, f3, f4])) (h0 : f0.offset = 0) (h1 : f1.offset = E.size) (h2 : f2.offset = E.size + F.size) (h3 : f3.offset = E.size + F.size + G.size) (h4 : f4.offset = E.size + F.size + G.size + J.size)
    (hc : P.cellsOf t = E.size + (F.size + (G.size + (J.size + K.size)))) (hc0 : P.cellsOf f0.type = E.size) (hc1 : P.cellsOf f1.type = F.size) (hc2 : P.cellsOf f2.type = G.size) (hc3 : P.cellsOf f3.type = J.size) (hc4 : P.cellsOf f4.type = K.size)
    (g0 : Gives P f0.type E) (g1 : Gives P f1.type F) (g2 : Gives P f2.type G) (g3 : Gives P f3.type J) (g4 : Gives P f4.type K) : Gives P t (pairE E (pairE F (pairE G (pairE J K)))) := by
  intro H enc w base spare held n cs x h
  obtain ⟨xs, n', _, rfl, hl, hlen, hf⟩ := DataW.trod_struct ht h
  match xs, hlen with
  | [y0, y1, y2, y3, y4], _ =>
    have r0 := hf 0 f0 rfl
    have r1 := hf 1 f1 rfl
    have r2 := hf 2 f2 rfl
    have r3 := hf 3 f3 rfl
    have r4 := hf 4 f4 rfl
    simp only [List.getElem?_cons_zero, List.getElem?_cons_succ] at r0 r1 r2 r3 r4
    obtain ⟨a, ha⟩ := g0 H enc w base spare held n' _ _ r0
    obtain ⟨b, hb⟩ := g1 H enc w base spare held n' _ _ r1
    obtain ⟨c, hcc⟩ := g2 H enc w base spare held n' _ _ r2
    obtain ⟨d, hd⟩ := g3 H enc w base spare held n' _ _ r3
    obtain ⟨e, he⟩ := g4 H enc w base spare held n' _ _ r4
    refine ⟨(a, b, c, d, e), _, _, ?_, ha, _, _, rfl, hb, _, _, rfl, hcc, _, _, rfl, hd, he⟩
    rw [h0, h1, h2, h3, h4, hc0, hc1, hc2, hc3, hc4, List.drop_zero]
    have e1 : (cs.drop (E.size + F.size + G.size + J.size)).take K.size = cs.drop (E.size + F.size + G.size + J.size) := List.take_of_length_le (by simp; omega)
    have e2 : cs.drop (E.size + F.size + G.size + J.size) = (cs.drop (E.size + F.size + G.size)).drop J.size := by rw [List.drop_drop]
    have e3 : cs.drop (E.size + F.size + G.size) = (cs.drop (E.size + F.size)).drop G.size := by rw [List.drop_drop]
    have e4 : cs.drop (E.size + F.size) = (cs.drop E.size).drop F.size := by rw [List.drop_drop]
    rw [e1, e2, List.take_append_drop, e3, List.take_append_drop, e4, List.take_append_drop, List.take_append_drop]
theorem gStrs : Gives Tryz.prog 29 (slE strE) := gives_slice Tryz.underlying29 (by kernel_rfl) gStr
theorem gEnt : Gives Tryz.prog 37 entE := gives5 Tryz.underlying37 rfl rfl rfl rfl rfl (by kernel_rfl) (by kernel_rfl) (by kernel_rfl) (by kernel_rfl) (by kernel_rfl) (by kernel_rfl) gStr gStr gTerm gStrs gSteps
theorem gLib : Gives Tryz.prog 24 (slE entE) := gives_slice Tryz.underlying24 (by kernel_rfl) gEnt
end Go.Proofs.YtpmnnoopoblpgaaGreat

/- Walks: deps.Users, deps.Circle. -/
namespace Go.Proofs.YtpmnnoopoblpgaaGreat
open Go Go.RowKit Go.Maps

theorem keepC4 {K : Nat} {w w1 w2 : World} {p1 p2 p3 p4 : Addr} {v1 v2 v3 v4 : Value} (h : Below w.heap.size w w1 ∧ w1.cell? p1 = some v1 ∧ w1.cell? p2 = some v2 ∧ w1.cell? p3 = some v3 ∧ w1.cell? p4 = some v4) (hb : Below K w1 w2) (hK : K = w1.heap.size) :
    Below w.heap.size w w2 ∧ w2.cell? p1 = some v1 ∧ w2.cell? p2 = some v2 ∧ w2.cell? p3 = some v3 ∧ w2.cell? p4 = some v4 := by
  subst hK
  exact ⟨bcall h.1 hb, cell_later hb h.2.1, cell_later hb h.2.2.1, cell_later hb h.2.2.2.1, cell_later hb h.2.2.2.2⟩
theorem us1_fn {B xb b1 b2 : Nat} {w : World} {s : Sg} {l : List Ent} {n : ByteArray} (h : DLib B w xb s l) (hn : n.size ≤ big) (hb1 : b1 < B) (hb2 : b2 < B) (hc1 : w.cell? ⟨b1, 0, none⟩ = some (.pointer (some ⟨xb, 0, none⟩))) (hc2 : w.cell? ⟨b2, 0, none⟩ = some (.string n)) :
    IxFn 107 #[.pointer (some ⟨b1, 0, none⟩), .pointer (some ⟨b2, 0, none⟩)] l.length (fun i => rchB l (fun _ => true) (nmI l i) n) B w := by
  refine ⟨enters_of Tryz.func107 (by kernel_rfl) rfl, fun i hi W hB => ?_⟩
  have q1 := (hB.cell (p := ⟨b1, 0, none⟩) hb1).trans hc1
  have q2 := (hB.cell (p := ⟨b2, 0, none⟩) hb2).trans hc2
  have hD := h.below hB
  obtain ⟨sa, sc, la, lc, bm, hO⟩ := hD.op
  have p1 := hO.q1
  have hok := hO.ok
  obtain ⟨b, off, a1, c1, a2, c2, a3, c3, rfl, -, r0, r1, r2, r3, r4, z1, z2, hI, hU, hP⟩ := hO.hL.ent i hi
  have hnm : (eNm l[i]).size ≤ big := by have := (okLib_parts hok).2.2.1 l[i] (List.getElem_mem hi); unfold okEnt at this; simp only [Bool.and_eq_true] at this; have := (nameB_size this.1.1).2; unfold big; omega
  have e0 : nmI l i = eNm l[i] := nmI_at hi
  simp only [e0]
  have vl : ∀ Wc, Below W.heap.size W Wc → Calls Tryz.prog 105 #[.pointer (some ⟨xb, 0, none⟩), .string (eNm l[i])] Wc fun e w' => ∃ ob, e = .returned (.map (some ob)) ∧ (∀ W', Below w'.heap.size w' W' → (Instr.lookup 88 (.map (some ob)) (.string n) false).run Tryz.prog W' = .ok (.bool (rchB l (fun _ => true) (eNm l[i]) n)) W') ∧ Below Wc.heap.size Wc w' := fun Wc hc => by
    refine (leans_any (hD.call hc) (eNm l[i]) hnm).mono ?_
    rintro e w' ⟨ob, m, rfl, h1, h2, h3, h4⟩
    refine ⟨ob, rfl, fun W' hb' => ?_, h4⟩
    exact (h3.below hb' h3.lt).look (tm := 88) Tryz.underlying88 Tryz.underlying9 Tryz.underlying4 (zBool W') n (big_max hn)
  have hii : (i : Int) < (l.length : Int) := by omega
  have hnl : Tryz.prog.underlying 24 = Tryz.prog.underlying 24 := rfl
  obtain ⟨r, hr⟩ : ∃ r, rchB l (fun _ => true) (eNm l[i]) n = r := ⟨_, rfl⟩
  rw [hr]
  simp only [hr] at vl
  obtain ⟨nm, hnm2⟩ : ∃ nm, eNm l[i] = nm := ⟨_, rfl⟩
  rw [hnm2] at r0 vl
  have vlH := Lib.hid vl
  have hml := hO.hL.le
  clear vl hr hB h hc1 hc2 hD hO hok r1 r2 r3 r4 z1 z2 hI hU hP hnm e0 hnm2 hnl
  have hk0 : Below W.heap.size W W.drew ∧ W.drew.cell? ⟨b1, 0, none⟩ = some (.pointer (some ⟨xb, 0, none⟩)) ∧ W.drew.cell? ⟨xb, 1, none⟩ = some (.slice (some ⟨b, off, none⟩) l.length lc) ∧ W.drew.cell? ⟨b, off + i * 5, none⟩ = some (.string nm) ∧ W.drew.cell? ⟨b2, 0, none⟩ = some (.string n) := by
    have hbd : Below W.heap.size W W.drew := Below.drew (.refl W.heap.size _)
    exact ⟨hbd, cell_later hbd q1, cell_later hbd p1, cell_later hbd r0, cell_later hbd q2⟩
  go_enter Tryz.func107, Tryz.ntmps107
  go_wp2_with fail
  go_region_held3 (fun w' => Below W.heap.size W w' ∧ w'.cell? ⟨b1, 0, none⟩ = some (.pointer (some ⟨xb, 0, none⟩)) ∧ w'.cell? ⟨xb, 1, none⟩ = some (.slice (some ⟨b, off, none⟩) l.length lc) ∧ w'.cell? ⟨b, off + i * 5, none⟩ = some (.string nm) ∧ w'.cell? ⟨b2, 0, none⟩ = some (.string n))
    ((first | exact hk0 | exact keepC4 ‹_› hb4 rfl))
    ((go_at_call 105; (with_reducible refine (vlH.out _ ?_).mono ?_); exact (And.left ‹_›); rintro e w4 ⟨ob, rfl, hlkF, hb4⟩; have hlk := hlkF w4 (.refl _ _)))
  have hB4 := Lib.hid (And.left (‹Below W.heap.size W w4 ∧ _›))
  go_wp2_with fail
  go_ret
  exact ⟨rfl, hB4.out⟩
noncomputable def usersE (s : Sg) (l : List Ent) (n : ByteArray) : (ByteArray → Bool) × Int :=
  if okLib s l = true then (match atN l n with | some _ => (chB l (fun i => rchB l (fun _ => true) (nmI l i) n), 0) | none => (fun _ => false, 5)) else (fun _ => false, 1)
set_option maxHeartbeats 1000000 in
theorem Users_any {S1 S2 : Nat → Prop} (sa la : Option Addr) (sc lc : Nat) (s : Sg) (l : List Ent) (n : ByteArray) (hn : n.size ≤ big) (w : World) (h1 : Sign S1 w sa sc s) (h2 : LibL S2 w la lc l) (hl : l.length ≤ 1000) :
    Calls Tryz.prog 45 #[.slice sa s.length sc, .slice la l.length lc, .string n] w (NamesRet (usersE s l n).1 (usersE s l n).2 w) := by
  obtain ⟨W0, hW0⟩ : ∃ W0, w.alloc (.cells #[.string n] 9) = W0 := ⟨_, rfl⟩
  have hB0 : Below w.heap.size w W0 := by rw [← hW0]; exact below1 w _
  have q4 : W0.cell? ⟨w.heap.size, 0, none⟩ = some (.string n) := by rw [← hW0]; clear hW0; go_simp
  have hws : w.heap.size < W0.heap.size := by rw [← hW0]; simp
  have v := dnamed_any sa la sc lc s l n hn W0 (h1.below hB0) (h2.below hB0) hl
  have m := h2.le
  have m1 := h1.le
  obtain ⟨r, hr⟩ : ∃ r, usersE s l n = r := ⟨_, rfl⟩
  rw [hr]
  have vH := Lib.hid v
  have hrH := Lib.hid hr
  have hB0H := Lib.hid hB0
  clear v h1 h2 hr hB0
  go_enter Tryz.func45, Tryz.ntmps45
  go_wp2_with fail
  try rw [hW0]
  refine vH.out.mono ?_
  rintro e w1 ⟨hb, h⟩
  have q5 := cell_later hb q4
  have hbH := Lib.hid (bcall hB0H.out hb)
  have hz1 : W0.heap.size ≤ w1.heap.size := hb.size
  rcases h with ⟨hok, rfl⟩ | ⟨hok, hat, rfl⟩ | ⟨hok, i, xb, hat, hxb, rfl, hD⟩
  · have hf : usersE s l n = (fun _ => false, 1) := by unfold usersE; rw [hok]; rfl
    have hfH := Lib.hid (hrH.out.symm.trans hf)
    have hbn := Lib.hid (bcall hbH.out (below1 w1 (.cells #[.pointer none] 61)))
    clear hb hok vH hf
    go_wp2_with fail
    go_ret2
    rw [hfH.out]
    exact NamesRet.nil hbn.out
  · have hf : usersE s l n = (fun _ => false, 5) := by unfold usersE; rw [hok, hat]; rfl
    have hfH := Lib.hid (hrH.out.symm.trans hf)
    have hbn := Lib.hid (bcall hbH.out (below1 w1 (.cells #[.pointer none] 61)))
    clear hb hok vH hf hat
    go_wp2_with fail
    go_ret2
    rw [hfH.out]
    exact NamesRet.nil hbn.out
  · have hf : usersE s l n = (chB l (fun i => rchB l (fun _ => true) (nmI l i) n), 0) := by unfold usersE; rw [hok, hat]; rfl
    have hfH := Lib.hid (hrH.out.symm.trans hf)
    obtain ⟨W, hW⟩ : ∃ W, w1.alloc (.cells #[.pointer (some ⟨xb, 0, none⟩)] 61) = W := ⟨_, rfl⟩
    have hBW : Below w1.heap.size w1 W := by rw [← hW]; exact below1 w1 _
    have hws1 : w1.heap.size < W.heap.size := by rw [← hW]; simp
    have r4 : W.cell? ⟨w1.heap.size, 0, none⟩ = some (.pointer (some ⟨xb, 0, none⟩)) := by rw [← hW]; clear hW; go_simp
    have r5 := cell_later hBW q5
    have hDW := hD.call hBW
    have hDx := hDW.mono hDW.1 (Nat.le_refl _)
    have vc := chosen_any hDx (us1_fn hDx hn hws1 (by omega) r4 r5)
    have hbn := Lib.hid (bcall hbH.out hBW)
    have vcH := Lib.hid vc
    have hWH := Lib.hid hW
    clear hb hok vH hf hat hxb hD hDW hDx vc hBW hW r4 r5
    go_wp2_with fail
    try rw [hWH.out]
    refine vcH.out.mono ?_
    rintro e w2 hso
    obtain ⟨v, rfl, hN⟩ := hso.names hbn.out
    have hNH := Lib.hid (hN 0)
    clear hN hso
    go_wp2_with fail
    go_ret2
    rw [hfH.out]
    exact hNH.out
/-- what Circle tells -/
def CircE (s : Sg) (l : List Ent) (C : List ByteArray) (er : Int) : Prop := (okLib s l = false ∧ C = [] ∧ er = 1) ∨ (okLib s l = true ∧ ((CircR l none ∧ C = [] ∧ er = 8) ∨ (CircR l (some C) ∧ er = 0)))
def CircRet (s : Sg) (l : List Ent) (w : World) (e : Ending) (w' : World) : Prop := ∃ v C er, CircE s l C er ∧ e = .returned (.tuple #[v, .int .i64 er]) ∧ OwnS w' w.heap.size v C ∧ Below w.heap.size w w'
set_option maxRecDepth 100000 in
set_option maxHeartbeats 1000000 in
theorem Circle_any {S1 S2 : Nat → Prop} (sa la : Option Addr) (sc lc : Nat) (s : Sg) (l : List Ent) (w : World) (h1 : Sign S1 w sa sc s) (h2 : LibL S2 w la lc l) (hl : l.length ≤ 1000) :
    Calls Tryz.prog 54 #[.slice sa s.length sc, .slice la l.length lc] w (CircRet s l w) := by
  have v := open_any sa la sc lc s l w h1 h2 hl
  have m := h2.le
  have m1 := h1.le
  have vH := Lib.hid v
  clear v h1 h2
  go_enter Tryz.func54, Tryz.ntmps54
  go_wp2_with fail
  refine vH.out.mono ?_
  rintro e w1 ⟨hb, h⟩
  have hbH := Lib.hid hb
  rcases h with ⟨hok, rfl⟩ | ⟨hok, xb, hxb, rfl, hD⟩
  · have hfin := Lib.hid (show CircRet s l w (.returned (.tuple #[.slice none 0 0, .int .i64 1])) w1 from ⟨_, [], 1, .inl ⟨hok, rfl, rfl⟩, rfl, OwnL.nil _ _ _ _ _, hbH.out⟩)
    clear hb hok vH
    go_wp2_with fail
    go_ret2
    exact hfin.out
  · have vc := Lib.hid (circle_any hD)
    have hokH := Lib.hid hok
    clear hb hok vH hxb hD
    go_wp2_with fail
    refine vc.out.mono ?_
    rintro e w2 ⟨C, hC, hv, hb2⟩
    cases C with
    | none =>
      obtain rfl := hv
      have hfin := Lib.hid (show CircRet s l w (.returned (.tuple #[.slice none 0 0, .int .i64 8])) w2 from ⟨_, [], 8, .inr ⟨hokH.out, .inl ⟨hC, rfl, rfl⟩⟩, rfl, OwnL.nil _ _ _ _ _, bcall hbH.out hb2⟩)
      have hnl := Lib.run_eql_slice_nil (P := Tryz.prog) w2 29 9 none 0 0 0 0 Tryz.underlying29
      clear hC hb2
      go_wp2_with fail
      go_ret2
      exact hfin.out
    | some L =>
      obtain ⟨v, rfl, hne, ho⟩ := hv
      obtain ⟨a, c, rfl, hS⟩ := OwnS.strs ho
      cases a with
      | none => exact (hne (by rw [(hS.nil rfl).1]; rfl)).elim
      | some ad =>
        have hfin := Lib.hid (show CircRet s l w (.returned (.tuple #[.slice (some ad) L.length c, .int .i64 0])) w2 from ⟨_, L, 0, .inr ⟨hokH.out, .inr ⟨hC, rfl⟩⟩, rfl, OwnL.baseMono ho hbH.out.size, bcall hbH.out hb2⟩)
        have hnl := Lib.run_eql_slice_nil (P := Tryz.prog) w2 29 9 (some ad) L.length c 0 0 Tryz.underlying29
        clear hC hb2 ho hS hne
        go_wp2_with fail
        go_ret2
        exact hfin.out
end Go.Proofs.YtpmnnoopoblpgaaGreat

/- A library turned, its first two entries swapped; what is told by names of it. -/
namespace Go.Proofs.YtpmnnoopoblpgaaGreat
open Go Go.RowKit Go.Maps

theorem turn_made {S : Nat → Prop} {w : World} {b off lc : Nat} {l : List Ent} (h : LibL S w (some ⟨b, off, none⟩) lc l) (hl : l.length ≤ 500) {k : Nat} (hk : k < l.length) :
    ∃ v1 w1 v2 w2, (Builtin.append_ #[24, 24] 24 #[.slice (some ⟨w.heap.size, 0, none⟩) 0 0, .slice (if lc = k then some ⟨b, off, none⟩ else some ⟨b, off + k * 5, none⟩) (l.length - k) (lc - k)]).run Tryz.prog (w.alloc (.cells #[] 37)) = .ok v1 w1 ∧
      (Builtin.append_ #[24, 24] 24 #[v1, .slice (some ⟨b, off, none⟩) k lc]).run Tryz.prog w1 = .ok v2 w2 ∧
      OwnE (fun b => b < w.heap.size) w2 w.heap.size v2 (l.drop k ++ l.take k) ∧ Below w.heap.size w w2 := by
  have ht : (l.take k).length = k := by rw [List.length_take]; omega
  obtain ⟨v1, w1, hr1, ho1, hb1⟩ := ents_copied (h.suf k (by omega)) (by rw [List.length_drop]; omega)
  rw [List.length_drop] at hr1
  have h2 := (h.pre k).lt.below hb1
  have hlt1 := OwnL.lt ho1
  obtain ⟨v2, w2, hr2, ho2, hg, -, -⟩ := OwnL.append_run (P := Tryz.prog) (t := 24) (ty := 24) ho1 Tryz.underlying24 infoEnt rfl h2
    (fun k hk vs hv => entE.mono hv (fun bb _ hbb => ⟨hbb.2, fun e => by have := (hlt1 bb e.symm).1; have := hbb.2; omega⟩) (.refl _ _)) (by simp; omega) (by unfold big; simp; omega) hb1.size
  rw [ht] at hr2
  exact ⟨v1, w1, v2, w2, hr1, hr2, ho2, hb1.grown hg hb1.size (fun k e => (hlt1 k e).1)⟩
def swpL : List Ent → List Ent
  | a :: b :: r => b :: a :: r
  | r => r
theorem swp_perm : ∀ l : List Ent, l.Perm (swpL l)
  | [] => .refl _
  | [_] => .refl _
  | a :: b :: r => .swap b a r
theorem turn_perm (l : List Ent) (k : Nat) : l.Perm (l.drop k ++ l.take k) := by
  have h := List.perm_append_comm (l₁ := l.take k) (l₂ := l.drop k)
  rw [List.take_append_drop] at h
  exact h
set_option maxHeartbeats 1000000 in
theorem OwnE.swap {S : Nat → Prop} {w : World} {base g cap : Nat} {l : List Ent} (h : OwnE S w base (.slice (some ⟨g, 0, none⟩) l.length cap) l) (hl : 2 ≤ l.length) {x0 x1 : List Value} (h0 : x0.length = 5) (h1 : x1.length = 5)
    (e0 : ∀ j, j < 5 → w.cell? ⟨g, j, none⟩ = x0[j]?) (e1 : ∀ j, j < 5 → w.cell? ⟨g, 5 + j, none⟩ = x1[j]?) :
    OwnE S (w.setCells g 0 (x1 ++ x0)) base (.slice (some ⟨g, 0, none⟩) l.length cap) (swpL l) ∧ w.grownBy (w.setCells g 0 (x1 ++ x0)) (some g) := by
  obtain ⟨xs, ho, hxl, hx⟩ := h
  have hln : ∀ x ∈ xs, x.length = 5 := fun x hxm => by
    obtain ⟨k, hk, rfl⟩ := List.getElem_of_mem hxm
    exact entE.len (hx k hk (by omega))
  rcases ho.2 with ⟨h0, -⟩ | ⟨g', cap', cur, hv, hb, hg, c1, c2, c3, c4⟩
  · cases h0
  injection hv with i1 i2 i3
  injection i1 with i1
  injection i1 with i1
  subst i1 i3
  clear i2
  have c3' : cur.size = cap * 5 := c3
  have c4' : cur.toList.take (l.length * 5) = xs.flatten := c4
  have hcell : ∀ j, j < l.length * 5 → w.cell? ⟨g, j, none⟩ = xs.flatten[j]? := fun j hj => by
    rw [← c4', List.getElem?_take, if_pos hj]
    have : j < cur.size := by omega
    simp [World.cell?, hg, this]
  match l, xs, hl, hxl with
  | a :: b :: r, y0 :: y1 :: ys, _, hxl =>
    have z0 : y0.length = 5 := hln y0 (by simp)
    have z1 : y1.length = 5 := hln y1 (by simp)
    have q0 : x0 = y0 := List.ext_getElem? fun j => by
      by_cases hj : j < 5
      · rw [← e0 j hj, hcell j (by simp; omega), List.flatten_cons, List.getElem?_append_left (by omega)]
      · rw [List.getElem?_eq_none (by omega), List.getElem?_eq_none (by omega)]
    have q1 : x1 = y1 := List.ext_getElem? fun j => by
      by_cases hj : j < 5
      · rw [← e1 j hj, hcell (5 + j) (by simp; omega), List.flatten_cons, List.flatten_cons, List.getElem?_append_right (by omega), List.getElem?_append_left (by omega), z0]
        congr 1; omega
      · rw [List.getElem?_eq_none (by omega), List.getElem?_eq_none (by omega)]
    subst q0 q1
    have hg1 := heap_setCells (g := g) (x1 ++ x0) 0 cur w hg (by rw [List.length_append, h0, h1]; simp at c1; omega)
    have hgb : w.grownBy (w.setCells g 0 (x1 ++ x0)) (some g) := gby_setCells g _ _ _
    refine And.intro (show OwnE S (w.setCells g 0 (x1 ++ x0)) base (.slice (some ⟨g, 0, none⟩) (a :: b :: r).length cap) (b :: a :: r) from ?_) hgb
    refine ⟨x1 :: x0 :: ys, ⟨?_, .inr ⟨g, cap, _, rfl, hb, hg1, c1, c2, ?_, ?_⟩⟩, by simpa using hxl, fun k k1 k2 => ?_⟩
    · have := ho.1
      simp only [List.flatten_cons, List.length_append, List.length_cons] at this ⊢
      omega
    · rw [List.size_toArray, length_splice _ _ _ (by rw [List.length_append, h0, h1, Array.length_toList]; simp at c1; omega), Array.length_toList]; exact c3'
    · show List.take ((a :: b :: r).length * 5) _ = _
      have hsp : splice cur.toList 0 (x1 ++ x0) = (x1 ++ x0) ++ cur.toList.drop 10 := by
        unfold splice
        rw [List.take_zero, List.nil_append, List.length_append, h0, h1]
      have hys : ys.flatten = (cur.toList.take ((a :: b :: r).length * 5)).drop 10 := by
        rw [c4', List.flatten_cons, List.flatten_cons, ← List.append_assoc, List.drop_append_of_le_length (by rw [List.length_append, h0, h1]; exact Nat.le_refl _), List.drop_eq_nil_of_le (by rw [List.length_append, h0, h1]; exact Nat.le_refl _), List.nil_append]
      rw [List.toList_toArray, hsp, List.flatten_cons, List.flatten_cons, hys, ← List.append_assoc, List.take_append, List.take_of_length_le (by rw [List.length_append, h0, h1]; simp; omega), List.drop_take]
      congr 2
      rw [List.length_append, h0, h1]
    · have hA : Agree (Off S (.slice (some ⟨g, 0, none⟩) (a :: b :: r).length cap)) w (w.setCells g 0 (x1 ++ x0)) := .of_grown hgb (fun b hb => by have := hb.2; simpa [Value.ownBlock] using this)
      have key : ∀ q (hq1 : q < (x0 :: x1 :: ys).length) (hq2 : q < (a :: b :: r).length), entE.R (Off S (.slice (some ⟨g, 0, none⟩) (a :: b :: r).length cap)) (w.setCells g 0 (x1 ++ x0)) (x0 :: x1 :: ys)[q] (a :: b :: r)[q] := fun q hq1 hq2 => entE.mono (hx q hq1 hq2) (fun _ _ h => h) hA
      match k, k1, k2 with
      | 0, _, _ => exact key 1 (by simp) (by simp)
      | 1, _, _ => exact key 0 (by simp) (by simp)
      | k + 2, k1, k2 => exact key (k + 2) k1 k2
theorem swp_len (l : List Ent) : (swpL l).length = l.length := (swp_perm l).length_eq.symm
/-! ### what is told by names -/
theorem fail_perm {s : Sg} {l m : List Ent} (p : l.Perm m) : failE s l = failE s m := by
  unfold failE
  rw [okLib_perm p]
  by_cases hok : okLib s m = true
  · have hS := SameL.of (by rw [okLib_perm p]; exact hok : okLib s l = true) p
    rw [if_pos hok, if_pos hok, hS.ch (qd := fun i => !holdX s m i) (fun i j _ _ e => by rw [hS.hold e])]
  · rw [if_neg hok, if_neg hok]
theorem shak_perm {s : Sg} {l m : List Ent} (p : l.Perm m) : shakE s l = shakE s m := by
  unfold shakE
  rw [okLib_perm p]
  by_cases hok : okLib s m = true
  · have hS := SameL.of (by rw [okLib_perm p]; exact hok : okLib s l = true) p
    rw [if_pos hok, if_pos hok, hS.ch (qd := fun i => holdX s m i && !goodB s m i) (fun i j _ _ e => by rw [hS.hold e, hS.good e])]
  · rw [if_neg hok, if_neg hok]
theorem users_perm {s : Sg} {l m : List Ent} (p : l.Perm m) (n : ByteArray) : usersE s l n = usersE s m n := by
  unfold usersE
  rw [okLib_perm p]
  by_cases hok : okLib s m = true
  · have hS := SameL.of (by rw [okLib_perm p]; exact hok : okLib s l = true) p
    rw [if_pos hok, if_pos hok, hS.ch (qd := fun i => rchB m (fun _ => true) (nmI m i) n) (fun i j _ _ e => by rw [hS.rch, show nmI l i = nmI m j by unfold nmI; rw [e]])]
    cases h1 : atN l n with
    | none => rw [hS.none h1]
    | some i => obtain ⟨j, hj, -⟩ := hS.to h1; rw [hj]
  · rw [if_neg hok, if_neg hok]
theorem loses_perm {s : Sg} {l m : List Ent} (p : l.Perm m) (n : ByteArray) : losesE s l n = losesE s m n := by
  unfold losesE
  rw [okLib_perm p]
  by_cases hok : okLib s m = true
  · have hokl : okLib s l = true := by rw [okLib_perm p]; exact hok
    have hS := SameL.of hokl p
    rw [if_pos hok, if_pos hok]
    cases h1 : atN l n with
    | none => rw [hS.none h1]
    | some i =>
      obtain ⟨j, hj, e⟩ := hS.to h1
      rw [hj]
      show (losB s l i, (0 : Int)) = (losB s m j, 0)
      rw [hS.los hokl (atN_some h1).1 (atN_some hj).1 e.symm]
  · rw [if_neg hok, if_neg hok]
theorem circ_perm {s : Sg} {l m : List Ent} (p : l.Perm m) {C C' : List ByteArray} {er er' : Int} (h : CircE s l C er) (k : CircE s m C' er') : C = C' ∧ er = er' := by
  rcases h with ⟨h1, rfl, rfl⟩ | ⟨h1, h⟩
  · rw [okLib_perm p] at h1
    rcases k with ⟨-, rfl, rfl⟩ | ⟨k1, -⟩
    · exact ⟨rfl, rfl⟩
    · rw [h1] at k1; cases k1
  · have hS := SameL.of h1 p
    rw [okLib_perm p] at h1
    rcases k with ⟨k1, -⟩ | ⟨-, k⟩
    · rw [h1] at k1; cases k1
    · rcases h with ⟨h2, rfl, rfl⟩ | ⟨h2, rfl⟩
      · rcases k with ⟨-, rfl, rfl⟩ | ⟨k2, rfl⟩
        · exact ⟨rfl, rfl⟩
        · have := (h2.same hS).det k2; cases this
      · rcases k with ⟨k2, rfl, rfl⟩ | ⟨k2, rfl⟩
        · have := (h2.same hS).det k2; cases this
        · have := (h2.same hS).det k2
          injection this with this
          exact ⟨this, rfl⟩
end Go.Proofs.YtpmnnoopoblpgaaGreat

/- The law DepsOrders, walked. -/
namespace Go.Proofs.YtpmnnoopoblpgaaGreat
open Go Go.RowKit Go.Maps

theorem OwnE.fro {S : Nat → Prop} {w : World} {base g cap : Nat} {l : List Ent} (h : OwnE S w base (.slice (some ⟨g, 0, none⟩) l.length cap) l) (j : Nat) : w.frozen? ⟨g, j, none⟩ = false := by
  obtain ⟨xs, ho, -, -⟩ := h
  rcases ho.2 with ⟨h0, -⟩ | ⟨g', cap', cur, hv, hb, hg, -⟩
  · cases h0
  injection hv with i1 i2 i3
  injection i1 with i1
  injection i1 with i1
  subst i1
  simp [World.frozen?, hg]
set_option maxRecDepth 100000 in
set_option maxHeartbeats 8000000 in
theorem DepsOrders_walk {S1 S2 : Nat → Prop} (sa : Option Addr) (sc : Nat) (s : Sg) (la : Option Addr) (lc : Nat) (l : List Ent) (turn : Int) (n : ByteArray) (w : World) (h1 : Sign S1 w sa sc s) (h2 : LibL S2 w la lc l) (ht : inRange turn) (hn : n.size ≤ big) :
    Calls Tryz.prog 8 #[.slice sa s.length sc, .slice la l.length lc, .int .i64 turn, .string n] w fun e w' => e = .returned (.bool true) ∧ Below w.heap.size w w' := by
  have m1 := h1.le
  have m2 := h2.le
  have va := Lib.hid (awake6_any w)
  have vh := Lib.hid (fun W (hb : Below w.heap.size w W) => heavy_any sa la sc lc s l W (h1.below hb) (h2.below hb))
  have h1H := Lib.hid h1
  have h2H := Lib.hid h2
  have hnH := Lib.hid hn
  have htH := Lib.hid ht
  clear h1 h2 ht
  unfold big at hn
  go_enter Tryz.func8, Tryz.ntmps8
  go_wp2_with fail
  refine va.out.mono ?_
  rintro e w1 ⟨rfl, hb1⟩
  have vh1 := Lib.hid (vh.out w1 hb1)
  have hb1H := Lib.hid hb1
  clear hb1
  go_wp2_with fail
  refine vh1.out.mono ?_
  rintro e w2 ⟨r, rfl, hlen, hb2⟩
  have hb2H := Lib.hid (bcall hb1H.out hb2)
  clear hb2
  cases r with
  | true =>
    clear hlen
    go_wp2_with fail
    go_ret
    exact ⟨rfl, hb2H.out⟩
  | false =>
  have hl100 := Lib.hid (hlen rfl)
  clear hlen
  by_cases x0 : l.length = 0
  · have y0 : ((l.length : Int) == 0) = true := by rw [x0]; rfl
    clear x0
    go_wp2_with fail
    go_ret
    exact ⟨rfl, hb2H.out⟩
  have y0 : ((l.length : Int) == 0) = false := by rw [beq_eq_false_iff_ne]; omega
  have y0' : ¬ (l.length : Int) = 0 := by omega
  by_cases x1 : 100 < n.size
  · have y1 : ((100 : Int) < (n.size : Int)) = True := eq_true (by omega)
    go_wp2_with fail
    go_ret
    exact ⟨rfl, hb2H.out⟩
  have y1 : ((100 : Int) < (n.size : Int)) = False := eq_false (by omega)
  have hrng := Int.tmod_lt_of_pos turn (show (0 : Int) < (l.length : Int) by omega)
  have hrng2 : -(l.length : Int) < turn.tmod (l.length : Int) := by
    have := Int.lt_tmod_of_pos turn (show (0 : Int) < (l.length : Int) by omega)
    exact this
  by_cases hneg : turn.tmod (l.length : Int) < 0
  · obtain ⟨k, hkT⟩ : ∃ k : Nat, turn.tmod (l.length : Int) = (k : Int) - (l.length : Int) := ⟨(turn.tmod (l.length : Int) + (l.length : Int)).toNat, by omega⟩
    have hk : k < l.length := by omega
    have hk2 : ((k : Int) - (l.length : Int) < 0) = True := eq_true (by omega)
    clear hrng hrng2 hneg
    obtain ⟨b, off, rfl, -⟩ := h2H.out.dat (fun e => by rw [e] at x0; simp at x0)
    have hcap := h2H.out.cap
    have hbd : Below w2.heap.size w2 w2.drew := Below.drew (.refl _ _)
    obtain ⟨v1, w3, v2, w4, hrun1, hrun2, ho, hb4⟩ := turn_made ((h2H.out.below hb2H.out).below hbd) (by have := hl100.out; omega) hk
    have hpm := turn_perm l k
    have hML : (l.drop k ++ l.take k).length = l.length := hpm.length_eq.symm
    obtain ⟨M, hM⟩ : ∃ M, l.drop k ++ l.take k = M := ⟨_, rfl⟩
    rw [hM] at ho hpm hML
    obtain ⟨g, cap, rfl, hg1, hg2⟩ := OwnL.form ho (fun e => by rw [e] at hML; simp at hML; omega)
    have hB4 := bcall hb2H.out (bcall hbd hb4)
    have hgB : w.heap.size ≤ g := Nat.le_trans hb2H.out.size hg1
    rw [hML] at hrun2
    have hrun1H := Lib.hid hrun1
    have hrun2H := Lib.hid hrun2
    have hoH := Lib.hid ho
    have hB4H := Lib.hid hB4
    have hpmH := Lib.hid hpm
    have hMLH := Lib.hid hML
    have hj3 : (k : Int) ≤ (l.length : Int) := by omega
    have hj4 : (k : Int) ≤ (lc : Int) := by omega
    have hj6 : 0 ≤ (k : Int) := by omega
    have hlc0 : ¬ lc = 0 := by omega
    have hlc1 : ¬ 0 = lc := by omega
    clear hrun1 hrun2 ho hB4 hpm hML hM hb4 hbd hg1 hg2
    go_wp2_with fail
    refine wp_region_held_drew (S := fun w' => True) (by kernel_rfl) trivial (fun hS => ?_)
    refine region_take 1 (some 41) (v := ?_) rfl rfl (by kernel_rfl) (by kernel_rfl) (by kernel_rfl) (fun _ _ _ h => h) rfl ?_ hS ?_
    rotate_left
    · (intro w9 hS9; go_simp; try (with_reducible rfl))
    simp only [Act.put, List.setIfInBounds_toArray, List.set_cons_zero, List.set_cons_succ]
    refine region_take 2 (some 42) (v := ?_) rfl rfl (by kernel_rfl) (by kernel_rfl) (by kernel_rfl) (fun _ _ _ h => h) rfl ?_ hS ?_
    rotate_left
    · (intro w9 hS9; go_simp; try (with_reducible rfl))
    simp only [Act.put, List.setIfInBounds_toArray, List.set_cons_zero, List.set_cons_succ]
    refine region_take 3 (some 43) (v := ?_) rfl rfl (by kernel_rfl) (by kernel_rfl) (by kernel_rfl) (fun _ _ _ h => h) rfl ?_ hS ?_
    rotate_left
    · (intro w9 hS9; go_simp; try (with_reducible rfl))
    simp only [Act.put, List.setIfInBounds_toArray, List.set_cons_zero, List.set_cons_succ]
    refine region_take 5 (some 45) (v := ?_) rfl rfl (by kernel_rfl) (by kernel_rfl) (by kernel_rfl) (fun _ _ _ h => h) rfl ?_ hS ?_
    rotate_left
    · (intro w9 hS9; go_simp; try (with_reducible rfl))
    simp only [Act.put, List.setIfInBounds_toArray, List.set_cons_zero, List.set_cons_succ]
    refine region_take 6 (some 46) (v := ?_) rfl rfl (by kernel_rfl) (by kernel_rfl) (by kernel_rfl) (fun _ _ _ h => h) rfl ?_ hS ?_
    rotate_left
    · (intro w9 hS9; go_simp; try (with_reducible rfl))
    simp only [Act.put, List.setIfInBounds_toArray, List.set_cons_zero, List.set_cons_succ]
    refine region_take 7 (some 47) (v := ?_) rfl rfl (by kernel_rfl) (by kernel_rfl) (by kernel_rfl) (fun _ _ _ h => h) rfl ?_ hS ?_
    rotate_left
    · (intro w9 hS9; go_simp; try (with_reducible rfl))
    simp only [Act.put, List.setIfInBounds_toArray, List.set_cons_zero, List.set_cons_succ]
    refine region_call 0 rfl (by kernel_rfl) (fun K hK => ?_)
    go_simp
    refine hK.out _ _ trivial ?_
    clear hK hS K
    intro hS
    try simp only [Act.put, List.setIfInBounds_toArray, List.set_cons_zero, List.set_cons_succ]
    refine region_call 4 rfl (by kernel_rfl) (fun K hK => ?_)
    rw [if_pos (by kernel_rfl)]
    refine oper_append_run (.tmp 40) (.tmp 43) _ rfl rfl rfl hrun1H.out ?_
    refine hK.out _ _ trivial ?_
    clear hK hS K
    intro hS
    try simp only [Act.put, List.setIfInBounds_toArray, List.set_cons_zero, List.set_cons_succ]
    refine region_call 8 rfl (by kernel_rfl) (fun K hK => ?_)
    rw [if_pos (by kernel_rfl)]
    refine oper_append_run (.tmp 44) (.tmp 47) _ rfl rfl rfl hrun2H.out ?_
    refine hK.out _ _ trivial ?_
    clear hK hS K
    intro hS
    try simp only [Act.put, List.setIfInBounds_toArray, List.set_cons_zero, List.set_cons_succ]
    refine region_take 9 (some 10) (v := ?_) rfl rfl (by kernel_rfl) (by kernel_rfl) (by kernel_rfl) (fun _ _ _ h => h) rfl ?_ hS ?_
    rotate_left
    · (intro w9 hS9; go_simp; try (with_reducible rfl))
    simp only [Act.put, List.setIfInBounds_toArray, List.set_cons_zero, List.set_cons_succ]
    refine wpAnyH_done (by kernel_rfl) ?_ _
    clear hS
    generalize (if lc = k then (some (⟨b, off, none⟩ : Addr)) else some ⟨b, off + k * 5, none⟩) = ad
    by_cases x3 : 2 < l.length
    · have y3 : ((2 : Int) < (l.length : Int)) = True := eq_true (by omega)
      have hM0 : 0 < M.length := by rw [hMLH.out]; omega
      have hM1 : 1 < M.length := by rw [hMLH.out]; omega
      obtain ⟨al, cl, e1, hlib⟩ := OwnL.sl hoH.out
      injection e1 with e1 _ e2
      subst e1 e2
      obtain ⟨b0, o0, A1, C1, A2, C2, A3, C3, i0, -, p0, p1, p2, p3, p4, -, -, -, -, -⟩ := hlib.ent 0 hM0
      injection i0 with i0
      injection i0 with i0 i1
      subst i0 i1
      obtain ⟨b1, o1, D1, F1, D2, F2, D3, F3, i0, -, q0, q1, q2, q3, q4, -, -, -, -, -⟩ := hlib.ent 1 hM1
      injection i0 with i0
      injection i0 with i0 i1
      subst i0 i1
      have hfro := OwnE.fro hoH.out
      have hsw := OwnE.swap hoH.out (by rw [hMLH.out]; omega) (x0 := [.string (eNm M[0]), .string (eBy M[0]), .slice A1 (eSays M[0]).length C1, .slice A2 (eUses M[0]).length C2, .slice A3 (ePf M[0]).length C3]) (x1 := [.string (eNm M[1]), .string (eBy M[1]), .slice D1 (eSays M[1]).length F1, .slice D2 (eUses M[1]).length F2, .slice D3 (ePf M[1]).length F3]) rfl rfl
        (fun j hj => match j, hj with | 0, _ => p0 | 1, _ => p1 | 2, _ => p2 | 3, _ => p3 | 4, _ => p4) (fun j hj => match j, hj with | 0, _ => q0 | 1, _ => q1 | 2, _ => q2 | 3, _ => q3 | 4, _ => q4)
      have hlt1 : 1 < l.length := by omega
      have hlt0 : 0 < l.length := by omega
      generalize eNm M[0] = s0 at *
      generalize eBy M[0] = s1 at *
      generalize (eSays M[0]).length = s2 at *
      generalize (eUses M[0]).length = s3 at *
      generalize (ePf M[0]).length = s4 at *
      generalize eNm M[1] = r0 at *
      generalize eBy M[1] = r1 at *
      generalize (eSays M[1]).length = r2 at *
      generalize (eUses M[1]).length = r3 at *
      generalize (ePf M[1]).length = r4 at *
      have p0 : w4.cell? ⟨g, 0, none⟩ = some (.string s0) := p0
      have p1 : w4.cell? ⟨g, 1, none⟩ = some (.string s1) := p1
      have p2 : w4.cell? ⟨g, 2, none⟩ = some (.slice A1 s2 C1) := p2
      have p3 : w4.cell? ⟨g, 3, none⟩ = some (.slice A2 s3 C2) := p3
      have p4 : w4.cell? ⟨g, 4, none⟩ = some (.slice A3 s4 C3) := p4
      have q0 : w4.cell? ⟨g, 5, none⟩ = some (.string r0) := q0
      have q1 : w4.cell? ⟨g, 6, none⟩ = some (.string r1) := q1
      have q2 : w4.cell? ⟨g, 7, none⟩ = some (.slice D1 r2 F1) := q2
      have q3 : w4.cell? ⟨g, 8, none⟩ = some (.slice D2 r3 F2) := q3
      have q4 : w4.cell? ⟨g, 9, none⟩ = some (.slice D3 r4 F3) := q4
      have hswH := Lib.hid hsw
      clear hsw hlib hM0 hM1
      have hB5 : Below w.heap.size w (w4.setCells g 0 ([.string r0, .string r1, .slice D1 r2 F1, .slice D2 r3 F2, .slice D3 r4 F3] ++ [.string s0, .string s1, .slice A1 s2 C1, .slice A2 s3 C2, .slice A3 s4 C3])).drew :=
        (hB4H.out.grown hswH.out.2 hB4H.out.size (fun k e => by injection e with e; omega)).trans ((Below.drew (.refl _ _)).mono (Nat.le_trans hB4H.out.size hswH.out.2.size))
      have ho5 := OwnL.call hswH.out.1 (Below.drew (.refl _ _))
      obtain ⟨al, cl, e1, hlib⟩ := OwnL.sl ho5
      rw [swp_len] at e1
      injection e1 with e1 _ e2
      subst e1 e2
      obtain ⟨w5, hw5⟩ : ∃ w5, (w4.setCells g 0 ([.string r0, .string r1, .slice D1 r2 F1, .slice D2 r3 F2, .slice D3 r4 F3] ++ [.string s0, .string s1, .slice A1 s2 C1, .slice A2 s3 C2, .slice A3 s4 C3])).drew = w5 := ⟨_, rfl⟩
      rw [hw5] at hlib hB5
      simp only [World.setCells, List.cons_append, List.nil_append, Nat.zero_add, Nat.reduceAdd] at hw5
      have hp2 := hpmH.out.trans (swp_perm M)
      have hMl : (swpL M).length = l.length := (swp_len M).trans hMLH.out
      obtain ⟨M2, hM2⟩ : ∃ M2, swpL M = M2 := ⟨_, rfl⟩
      rw [hM2] at hlib hp2 hMl
      clear hM2 ho5 hswH
      have hBW := hB5
      have hl1000 : l.length ≤ 1000 := by have := hl100.out; omega
      have hw5H := Lib.hid hw5
      clear hw5 hB5
      have vFailing1 := fun W (hb : Below w5.heap.size w5 W) => Failing_any sa (some ⟨b, off, none⟩) sc lc s l W ((h1H.out.below hBW).below hb) ((h2H.out.below hBW).below hb) hl1000
      have vFailing2 := fun W (hb : Below w5.heap.size w5 W) => Failing_any sa (some ⟨g, 0, none⟩) sc cap s M2 W ((h1H.out.below hBW).below hb) (hlib.below hb) (by rw [hMl]; exact hl1000)
      simp only [hMl] at vFailing2
      simp only [← fail_perm hp2] at vFailing2
      obtain ⟨⟨fFailing, gFailing⟩, hfFailing⟩ : ∃ r, failE s l = r := ⟨_, rfl⟩
      simp only [hfFailing] at vFailing1 vFailing2
      clear hfFailing
      have vFailing1H := Lib.hid vFailing1
      have vFailing2H := Lib.hid vFailing2
      clear vFailing1 vFailing2
      have vShaken1 := fun W (hb : Below w5.heap.size w5 W) => Shaken_any sa (some ⟨b, off, none⟩) sc lc s l W ((h1H.out.below hBW).below hb) ((h2H.out.below hBW).below hb) hl1000
      have vShaken2 := fun W (hb : Below w5.heap.size w5 W) => Shaken_any sa (some ⟨g, 0, none⟩) sc cap s M2 W ((h1H.out.below hBW).below hb) (hlib.below hb) (by rw [hMl]; exact hl1000)
      simp only [hMl] at vShaken2
      simp only [← shak_perm hp2] at vShaken2
      obtain ⟨⟨fShaken, gShaken⟩, hfShaken⟩ : ∃ r, shakE s l = r := ⟨_, rfl⟩
      simp only [hfShaken] at vShaken1 vShaken2
      clear hfShaken
      have vShaken1H := Lib.hid vShaken1
      have vShaken2H := Lib.hid vShaken2
      clear vShaken1 vShaken2
      have vCircle1 := fun W (hb : Below w5.heap.size w5 W) => Circle_any sa (some ⟨b, off, none⟩) sc lc s l W ((h1H.out.below hBW).below hb) ((h2H.out.below hBW).below hb) hl1000
      have vCircle2 := fun W (hb : Below w5.heap.size w5 W) => Circle_any sa (some ⟨g, 0, none⟩) sc cap s M2 W ((h1H.out.below hBW).below hb) (hlib.below hb) (by rw [hMl]; exact hl1000)
      simp only [hMl] at vCircle2
      have vCircle1H := Lib.hid vCircle1
      have vCircle2H := Lib.hid vCircle2
      clear vCircle1 vCircle2
      have vUsers1 := fun W (hb : Below w5.heap.size w5 W) => Users_any sa (some ⟨b, off, none⟩) sc lc s l n hnH.out W ((h1H.out.below hBW).below hb) ((h2H.out.below hBW).below hb) hl1000
      have vUsers2 := fun W (hb : Below w5.heap.size w5 W) => Users_any sa (some ⟨g, 0, none⟩) sc cap s M2 n hnH.out W ((h1H.out.below hBW).below hb) (hlib.below hb) (by rw [hMl]; exact hl1000)
      simp only [hMl] at vUsers2
      simp only [← users_perm hp2] at vUsers2
      obtain ⟨⟨fUsers, gUsers⟩, hfUsers⟩ : ∃ r, usersE s l n = r := ⟨_, rfl⟩
      simp only [hfUsers] at vUsers1 vUsers2
      clear hfUsers
      have vUsers1H := Lib.hid vUsers1
      have vUsers2H := Lib.hid vUsers2
      clear vUsers1 vUsers2
      have vLoses1 := fun W (hb : Below w5.heap.size w5 W) => Loses_any sa (some ⟨b, off, none⟩) sc lc s l n hnH.out W ((h1H.out.below hBW).below hb) ((h2H.out.below hBW).below hb) hl1000
      have vLoses2 := fun W (hb : Below w5.heap.size w5 W) => Loses_any sa (some ⟨g, 0, none⟩) sc cap s M2 n hnH.out W ((h1H.out.below hBW).below hb) (hlib.below hb) (by rw [hMl]; exact hl1000)
      simp only [hMl] at vLoses2
      simp only [← loses_perm hp2] at vLoses2
      obtain ⟨⟨fLoses, gLoses⟩, hfLoses⟩ : ∃ r, losesE s l n = r := ⟨_, rfl⟩
      simp only [hfLoses] at vLoses1 vLoses2
      clear hfLoses
      have vLoses1H := Lib.hid vLoses1
      have vLoses2H := Lib.hid vLoses2
      clear vLoses1 vLoses2
      have hBWH := Lib.hid hBW
      have hp2H := Lib.hid hp2
      clear hBW hp2 hMl hlib hl1000
      go_wp2_with fail
      go_region
      rw [hw5H.out]
      clear hw5H p0 p1 p2 p3 p4 q0 q1 q2 q3 q4 hfro
      have c0 := Lib.hid (vFailing1H.out w5 (.refl _ _))
      go_wp2_with fail
      refine c0.out.mono ?_
      rintro e x0a ⟨v, L0, rfl, hO, hA, hm, hb⟩
      obtain ⟨a0, d0, rfl, hS⟩ := OwnS.strs hO
      have mm0 := hS.le
      have hB0a := Lib.hid hb
      have hSH := Lib.hid hS
      have e0 := Lib.hid (vFailing2H.out x0a hB0a.out)
      have hAH := Lib.hid hA
      have hmH := Lib.hid hm
      clear hA hm
      clear hO hS hb c0
      go_wp2_with fail
      refine e0.out.mono ?_
      rintro e x0b ⟨v, L', rfl, hO, hA, hm, hb⟩
      obtain rfl := hA.uniq hAH.out (fun z => (hm z).trans (hmH.out z).symm)
      clear hA hm hAH hmH
      obtain ⟨a0', d0', rfl, hS⟩ := OwnS.strs hO
      have hB0b := Lib.hid (bcall hB0a.out hb)
      have t0 := Lib.hid (SameTexts_any a0 a0' d0 d0' L' L' x0b (hSH.out.below hb) hS)
      have hLL : decide (L' = L') = true := by simp
      clear hO hS hb hSH e0
      go_wp2_with fail
      refine t0.out.mono ?_
      rintro e x0c ⟨rfl, hd⟩
      have hB0c := Lib.hid (bcall hB0b.out (hd.below _))
      clear hd t0 hB0b hB0a
      have c1 := Lib.hid (vShaken1H.out x0c hB0c.out)
      go_wp2_with fail
      refine c1.out.mono ?_
      rintro e x1a ⟨v, L1, rfl, hO, hA, hm, hb⟩
      obtain ⟨a1, d1, rfl, hS⟩ := OwnS.strs hO
      have mm1 := hS.le
      have hB1a := Lib.hid (bcall hB0c.out hb)
      have hSH := Lib.hid hS
      have e1 := Lib.hid (vShaken2H.out x1a hB1a.out)
      have hAH := Lib.hid hA
      have hmH := Lib.hid hm
      clear hA hm
      clear hO hS hb c1
      go_wp2_with fail
      refine e1.out.mono ?_
      rintro e x1b ⟨v, L', rfl, hO, hA, hm, hb⟩
      obtain rfl := hA.uniq hAH.out (fun z => (hm z).trans (hmH.out z).symm)
      clear hA hm hAH hmH
      obtain ⟨a1', d1', rfl, hS⟩ := OwnS.strs hO
      have hB1b := Lib.hid (bcall hB1a.out hb)
      have t1 := Lib.hid (SameTexts_any a1 a1' d1 d1' L' L' x1b (hSH.out.below hb) hS)
      have hLL : decide (L' = L') = true := by simp
      clear hO hS hb hSH e1
      go_wp2_with fail
      refine t1.out.mono ?_
      rintro e x1c ⟨rfl, hd⟩
      have hB1c := Lib.hid (bcall hB1b.out (hd.below _))
      clear hd t1 hB1b hB1a
      have c2 := Lib.hid (vCircle1H.out x1c hB1c.out)
      go_wp2_with fail
      refine c2.out.mono ?_
      rintro e x2a ⟨v, L2, er, hE, rfl, hO, hb⟩
      obtain ⟨a2, d2, rfl, hS⟩ := OwnS.strs hO
      have mm2 := hS.le
      have hB2a := Lib.hid (bcall hB1c.out hb)
      have hSH := Lib.hid hS
      have e2 := Lib.hid (vCircle2H.out x2a hB2a.out)
      have hEH := Lib.hid hE
      clear hE
      clear hO hS hb c2
      go_wp2_with fail
      refine e2.out.mono ?_
      rintro e x2b ⟨v, L', er', hE, rfl, hO, hb⟩
      obtain ⟨rfl, rfl⟩ := circ_perm hp2H.out hEH.out hE
      clear hE hEH
      obtain ⟨a2', d2', rfl, hS⟩ := OwnS.strs hO
      have hB2b := Lib.hid (bcall hB2a.out hb)
      have t2 := Lib.hid (SameTexts_any a2 a2' d2 d2' L2 L2 x2b (hSH.out.below hb) hS)
      have hLL : decide (L2 = L2) = true := by simp
      clear hO hS hb hSH e2
      go_wp2_with fail
      refine t2.out.mono ?_
      rintro e x2c ⟨rfl, hd⟩
      have hB2c := Lib.hid (bcall hB2b.out (hd.below _))
      clear hd t2 hB2b hB2a
      have c3 := Lib.hid (vUsers1H.out x2c hB2c.out)
      go_wp2_with fail
      refine c3.out.mono ?_
      rintro e x3a ⟨v, L3, rfl, hO, hA, hm, hb⟩
      obtain ⟨a3, d3, rfl, hS⟩ := OwnS.strs hO
      have mm3 := hS.le
      have hB3a := Lib.hid (bcall hB2c.out hb)
      have hSH := Lib.hid hS
      have e3 := Lib.hid (vUsers2H.out x3a hB3a.out)
      have hAH := Lib.hid hA
      have hmH := Lib.hid hm
      clear hA hm
      clear hO hS hb c3
      go_wp2_with fail
      refine e3.out.mono ?_
      rintro e x3b ⟨v, L', rfl, hO, hA, hm, hb⟩
      obtain rfl := hA.uniq hAH.out (fun z => (hm z).trans (hmH.out z).symm)
      clear hA hm hAH hmH
      obtain ⟨a3', d3', rfl, hS⟩ := OwnS.strs hO
      have hB3b := Lib.hid (bcall hB3a.out hb)
      have t3 := Lib.hid (SameTexts_any a3 a3' d3 d3' L' L' x3b (hSH.out.below hb) hS)
      have hLL : decide (L' = L') = true := by simp
      clear hO hS hb hSH e3
      go_wp2_with fail
      refine t3.out.mono ?_
      rintro e x3c ⟨rfl, hd⟩
      have hB3c := Lib.hid (bcall hB3b.out (hd.below _))
      clear hd t3 hB3b hB3a
      have c4 := Lib.hid (vLoses1H.out x3c hB3c.out)
      go_wp2_with fail
      refine c4.out.mono ?_
      rintro e x4a ⟨v, L4, rfl, hO, hA, hm, hb⟩
      obtain ⟨a4, d4, rfl, hS⟩ := OwnS.strs hO
      have mm4 := hS.le
      have hB4a := Lib.hid (bcall hB3c.out hb)
      have hSH := Lib.hid hS
      have e4 := Lib.hid (vLoses2H.out x4a hB4a.out)
      have hAH := Lib.hid hA
      have hmH := Lib.hid hm
      clear hA hm
      clear hO hS hb c4
      go_wp2_with fail
      refine e4.out.mono ?_
      rintro e x4b ⟨v, L', rfl, hO, hA, hm, hb⟩
      obtain rfl := hA.uniq hAH.out (fun z => (hm z).trans (hmH.out z).symm)
      clear hA hm hAH hmH
      obtain ⟨a4', d4', rfl, hS⟩ := OwnS.strs hO
      have hB4b := Lib.hid (bcall hB4a.out hb)
      have t4 := Lib.hid (SameTexts_any a4 a4' d4 d4' L' L' x4b (hSH.out.below hb) hS)
      have hLL : decide (L' = L') = true := by simp
      clear hO hS hb hSH e4
      go_wp2_with fail
      refine t4.out.mono ?_
      rintro e x4c ⟨rfl, hd⟩
      have hB4c := Lib.hid (bcall hB4b.out (hd.below _))
      clear hd t4 hB4b hB4a
      have hfin := Lib.hid (bcall hBWH.out hB4c.out)
      go_wp2_with fail
      go_ret
      exact ⟨ret_bool (by simp), hfin.out⟩
    · have y3 : ((2 : Int) < (l.length : Int)) = False := eq_false (by omega)
      obtain ⟨al, cl, e1, hlib⟩ := OwnL.sl hoH.out
      injection e1 with e1 _ e2
      subst e1 e2
      have hBW := hB4H.out
      have hp2 := hpmH.out
      have hMl := hMLH.out
      have hl1000 : l.length ≤ 1000 := by have := hl100.out; omega
      have vFailing1 := fun W (hb : Below w4.heap.size w4 W) => Failing_any sa (some ⟨b, off, none⟩) sc lc s l W ((h1H.out.below hBW).below hb) ((h2H.out.below hBW).below hb) hl1000
      have vFailing2 := fun W (hb : Below w4.heap.size w4 W) => Failing_any sa (some ⟨g, 0, none⟩) sc cap s M W ((h1H.out.below hBW).below hb) (hlib.below hb) (by rw [hMl]; exact hl1000)
      simp only [hMl] at vFailing2
      simp only [← fail_perm hp2] at vFailing2
      obtain ⟨⟨fFailing, gFailing⟩, hfFailing⟩ : ∃ r, failE s l = r := ⟨_, rfl⟩
      simp only [hfFailing] at vFailing1 vFailing2
      clear hfFailing
      have vFailing1H := Lib.hid vFailing1
      have vFailing2H := Lib.hid vFailing2
      clear vFailing1 vFailing2
      have vShaken1 := fun W (hb : Below w4.heap.size w4 W) => Shaken_any sa (some ⟨b, off, none⟩) sc lc s l W ((h1H.out.below hBW).below hb) ((h2H.out.below hBW).below hb) hl1000
      have vShaken2 := fun W (hb : Below w4.heap.size w4 W) => Shaken_any sa (some ⟨g, 0, none⟩) sc cap s M W ((h1H.out.below hBW).below hb) (hlib.below hb) (by rw [hMl]; exact hl1000)
      simp only [hMl] at vShaken2
      simp only [← shak_perm hp2] at vShaken2
      obtain ⟨⟨fShaken, gShaken⟩, hfShaken⟩ : ∃ r, shakE s l = r := ⟨_, rfl⟩
      simp only [hfShaken] at vShaken1 vShaken2
      clear hfShaken
      have vShaken1H := Lib.hid vShaken1
      have vShaken2H := Lib.hid vShaken2
      clear vShaken1 vShaken2
      have vCircle1 := fun W (hb : Below w4.heap.size w4 W) => Circle_any sa (some ⟨b, off, none⟩) sc lc s l W ((h1H.out.below hBW).below hb) ((h2H.out.below hBW).below hb) hl1000
      have vCircle2 := fun W (hb : Below w4.heap.size w4 W) => Circle_any sa (some ⟨g, 0, none⟩) sc cap s M W ((h1H.out.below hBW).below hb) (hlib.below hb) (by rw [hMl]; exact hl1000)
      simp only [hMl] at vCircle2
      have vCircle1H := Lib.hid vCircle1
      have vCircle2H := Lib.hid vCircle2
      clear vCircle1 vCircle2
      have vUsers1 := fun W (hb : Below w4.heap.size w4 W) => Users_any sa (some ⟨b, off, none⟩) sc lc s l n hnH.out W ((h1H.out.below hBW).below hb) ((h2H.out.below hBW).below hb) hl1000
      have vUsers2 := fun W (hb : Below w4.heap.size w4 W) => Users_any sa (some ⟨g, 0, none⟩) sc cap s M n hnH.out W ((h1H.out.below hBW).below hb) (hlib.below hb) (by rw [hMl]; exact hl1000)
      simp only [hMl] at vUsers2
      simp only [← users_perm hp2] at vUsers2
      obtain ⟨⟨fUsers, gUsers⟩, hfUsers⟩ : ∃ r, usersE s l n = r := ⟨_, rfl⟩
      simp only [hfUsers] at vUsers1 vUsers2
      clear hfUsers
      have vUsers1H := Lib.hid vUsers1
      have vUsers2H := Lib.hid vUsers2
      clear vUsers1 vUsers2
      have vLoses1 := fun W (hb : Below w4.heap.size w4 W) => Loses_any sa (some ⟨b, off, none⟩) sc lc s l n hnH.out W ((h1H.out.below hBW).below hb) ((h2H.out.below hBW).below hb) hl1000
      have vLoses2 := fun W (hb : Below w4.heap.size w4 W) => Loses_any sa (some ⟨g, 0, none⟩) sc cap s M n hnH.out W ((h1H.out.below hBW).below hb) (hlib.below hb) (by rw [hMl]; exact hl1000)
      simp only [hMl] at vLoses2
      simp only [← loses_perm hp2] at vLoses2
      obtain ⟨⟨fLoses, gLoses⟩, hfLoses⟩ : ∃ r, losesE s l n = r := ⟨_, rfl⟩
      simp only [hfLoses] at vLoses1 vLoses2
      clear hfLoses
      have vLoses1H := Lib.hid vLoses1
      have vLoses2H := Lib.hid vLoses2
      clear vLoses1 vLoses2
      have hBWH := Lib.hid hBW
      have hp2H := Lib.hid hp2
      clear hBW hp2 hMl hlib hl1000
      have c0 := Lib.hid (vFailing1H.out w4 (.refl _ _))
      go_wp2_with fail
      refine c0.out.mono ?_
      rintro e x0a ⟨v, L0, rfl, hO, hA, hm, hb⟩
      obtain ⟨a0, d0, rfl, hS⟩ := OwnS.strs hO
      have mm0 := hS.le
      have hB0a := Lib.hid hb
      have hSH := Lib.hid hS
      have e0 := Lib.hid (vFailing2H.out x0a hB0a.out)
      have hAH := Lib.hid hA
      have hmH := Lib.hid hm
      clear hA hm
      clear hO hS hb c0
      go_wp2_with fail
      refine e0.out.mono ?_
      rintro e x0b ⟨v, L', rfl, hO, hA, hm, hb⟩
      obtain rfl := hA.uniq hAH.out (fun z => (hm z).trans (hmH.out z).symm)
      clear hA hm hAH hmH
      obtain ⟨a0', d0', rfl, hS⟩ := OwnS.strs hO
      have hB0b := Lib.hid (bcall hB0a.out hb)
      have t0 := Lib.hid (SameTexts_any a0 a0' d0 d0' L' L' x0b (hSH.out.below hb) hS)
      have hLL : decide (L' = L') = true := by simp
      clear hO hS hb hSH e0
      go_wp2_with fail
      refine t0.out.mono ?_
      rintro e x0c ⟨rfl, hd⟩
      have hB0c := Lib.hid (bcall hB0b.out (hd.below _))
      clear hd t0 hB0b hB0a
      have c1 := Lib.hid (vShaken1H.out x0c hB0c.out)
      go_wp2_with fail
      refine c1.out.mono ?_
      rintro e x1a ⟨v, L1, rfl, hO, hA, hm, hb⟩
      obtain ⟨a1, d1, rfl, hS⟩ := OwnS.strs hO
      have mm1 := hS.le
      have hB1a := Lib.hid (bcall hB0c.out hb)
      have hSH := Lib.hid hS
      have e1 := Lib.hid (vShaken2H.out x1a hB1a.out)
      have hAH := Lib.hid hA
      have hmH := Lib.hid hm
      clear hA hm
      clear hO hS hb c1
      go_wp2_with fail
      refine e1.out.mono ?_
      rintro e x1b ⟨v, L', rfl, hO, hA, hm, hb⟩
      obtain rfl := hA.uniq hAH.out (fun z => (hm z).trans (hmH.out z).symm)
      clear hA hm hAH hmH
      obtain ⟨a1', d1', rfl, hS⟩ := OwnS.strs hO
      have hB1b := Lib.hid (bcall hB1a.out hb)
      have t1 := Lib.hid (SameTexts_any a1 a1' d1 d1' L' L' x1b (hSH.out.below hb) hS)
      have hLL : decide (L' = L') = true := by simp
      clear hO hS hb hSH e1
      go_wp2_with fail
      refine t1.out.mono ?_
      rintro e x1c ⟨rfl, hd⟩
      have hB1c := Lib.hid (bcall hB1b.out (hd.below _))
      clear hd t1 hB1b hB1a
      have c2 := Lib.hid (vCircle1H.out x1c hB1c.out)
      go_wp2_with fail
      refine c2.out.mono ?_
      rintro e x2a ⟨v, L2, er, hE, rfl, hO, hb⟩
      obtain ⟨a2, d2, rfl, hS⟩ := OwnS.strs hO
      have mm2 := hS.le
      have hB2a := Lib.hid (bcall hB1c.out hb)
      have hSH := Lib.hid hS
      have e2 := Lib.hid (vCircle2H.out x2a hB2a.out)
      have hEH := Lib.hid hE
      clear hE
      clear hO hS hb c2
      go_wp2_with fail
      refine e2.out.mono ?_
      rintro e x2b ⟨v, L', er', hE, rfl, hO, hb⟩
      obtain ⟨rfl, rfl⟩ := circ_perm hp2H.out hEH.out hE
      clear hE hEH
      obtain ⟨a2', d2', rfl, hS⟩ := OwnS.strs hO
      have hB2b := Lib.hid (bcall hB2a.out hb)
      have t2 := Lib.hid (SameTexts_any a2 a2' d2 d2' L2 L2 x2b (hSH.out.below hb) hS)
      have hLL : decide (L2 = L2) = true := by simp
      clear hO hS hb hSH e2
      go_wp2_with fail
      refine t2.out.mono ?_
      rintro e x2c ⟨rfl, hd⟩
      have hB2c := Lib.hid (bcall hB2b.out (hd.below _))
      clear hd t2 hB2b hB2a
      have c3 := Lib.hid (vUsers1H.out x2c hB2c.out)
      go_wp2_with fail
      refine c3.out.mono ?_
      rintro e x3a ⟨v, L3, rfl, hO, hA, hm, hb⟩
      obtain ⟨a3, d3, rfl, hS⟩ := OwnS.strs hO
      have mm3 := hS.le
      have hB3a := Lib.hid (bcall hB2c.out hb)
      have hSH := Lib.hid hS
      have e3 := Lib.hid (vUsers2H.out x3a hB3a.out)
      have hAH := Lib.hid hA
      have hmH := Lib.hid hm
      clear hA hm
      clear hO hS hb c3
      go_wp2_with fail
      refine e3.out.mono ?_
      rintro e x3b ⟨v, L', rfl, hO, hA, hm, hb⟩
      obtain rfl := hA.uniq hAH.out (fun z => (hm z).trans (hmH.out z).symm)
      clear hA hm hAH hmH
      obtain ⟨a3', d3', rfl, hS⟩ := OwnS.strs hO
      have hB3b := Lib.hid (bcall hB3a.out hb)
      have t3 := Lib.hid (SameTexts_any a3 a3' d3 d3' L' L' x3b (hSH.out.below hb) hS)
      have hLL : decide (L' = L') = true := by simp
      clear hO hS hb hSH e3
      go_wp2_with fail
      refine t3.out.mono ?_
      rintro e x3c ⟨rfl, hd⟩
      have hB3c := Lib.hid (bcall hB3b.out (hd.below _))
      clear hd t3 hB3b hB3a
      have c4 := Lib.hid (vLoses1H.out x3c hB3c.out)
      go_wp2_with fail
      refine c4.out.mono ?_
      rintro e x4a ⟨v, L4, rfl, hO, hA, hm, hb⟩
      obtain ⟨a4, d4, rfl, hS⟩ := OwnS.strs hO
      have mm4 := hS.le
      have hB4a := Lib.hid (bcall hB3c.out hb)
      have hSH := Lib.hid hS
      have e4 := Lib.hid (vLoses2H.out x4a hB4a.out)
      have hAH := Lib.hid hA
      have hmH := Lib.hid hm
      clear hA hm
      clear hO hS hb c4
      go_wp2_with fail
      refine e4.out.mono ?_
      rintro e x4b ⟨v, L', rfl, hO, hA, hm, hb⟩
      obtain rfl := hA.uniq hAH.out (fun z => (hm z).trans (hmH.out z).symm)
      clear hA hm hAH hmH
      obtain ⟨a4', d4', rfl, hS⟩ := OwnS.strs hO
      have hB4b := Lib.hid (bcall hB4a.out hb)
      have t4 := Lib.hid (SameTexts_any a4 a4' d4 d4' L' L' x4b (hSH.out.below hb) hS)
      have hLL : decide (L' = L') = true := by simp
      clear hO hS hb hSH e4
      go_wp2_with fail
      refine t4.out.mono ?_
      rintro e x4c ⟨rfl, hd⟩
      have hB4c := Lib.hid (bcall hB4b.out (hd.below _))
      clear hd t4 hB4b hB4a
      have hfin := Lib.hid (bcall hBWH.out hB4c.out)
      go_wp2_with fail
      go_ret
      exact ⟨ret_bool (by simp), hfin.out⟩
  · obtain ⟨k, hkT⟩ : ∃ k : Nat, turn.tmod (l.length : Int) = (k : Int) := ⟨(turn.tmod (l.length : Int)).toNat, by omega⟩
    have hk : k < l.length := by omega
    have hk2 : ((k : Int) < 0) = False := eq_false (by omega)
    clear hrng hrng2 hneg
    obtain ⟨b, off, rfl, -⟩ := h2H.out.dat (fun e => by rw [e] at x0; simp at x0)
    have hcap := h2H.out.cap
    have hbd : Below w2.heap.size w2 w2.drew := Below.drew (.refl _ _)
    obtain ⟨v1, w3, v2, w4, hrun1, hrun2, ho, hb4⟩ := turn_made ((h2H.out.below hb2H.out).below hbd) (by have := hl100.out; omega) hk
    have hpm := turn_perm l k
    have hML : (l.drop k ++ l.take k).length = l.length := hpm.length_eq.symm
    obtain ⟨M, hM⟩ : ∃ M, l.drop k ++ l.take k = M := ⟨_, rfl⟩
    rw [hM] at ho hpm hML
    obtain ⟨g, cap, rfl, hg1, hg2⟩ := OwnL.form ho (fun e => by rw [e] at hML; simp at hML; omega)
    have hB4 := bcall hb2H.out (bcall hbd hb4)
    have hgB : w.heap.size ≤ g := Nat.le_trans hb2H.out.size hg1
    rw [hML] at hrun2
    have hrun1H := Lib.hid hrun1
    have hrun2H := Lib.hid hrun2
    have hoH := Lib.hid ho
    have hB4H := Lib.hid hB4
    have hpmH := Lib.hid hpm
    have hMLH := Lib.hid hML
    have hj3 : (k : Int) ≤ (l.length : Int) := by omega
    have hj4 : (k : Int) ≤ (lc : Int) := by omega
    have hj6 : 0 ≤ (k : Int) := by omega
    have hlc0 : ¬ lc = 0 := by omega
    have hlc1 : ¬ 0 = lc := by omega
    clear hrun1 hrun2 ho hB4 hpm hML hM hb4 hbd hg1 hg2
    go_wp2_with fail
    refine wp_region_held_drew (S := fun w' => True) (by kernel_rfl) trivial (fun hS => ?_)
    refine region_take 1 (some 41) (v := ?_) rfl rfl (by kernel_rfl) (by kernel_rfl) (by kernel_rfl) (fun _ _ _ h => h) rfl ?_ hS ?_
    rotate_left
    · (intro w9 hS9; go_simp; try (with_reducible rfl))
    simp only [Act.put, List.setIfInBounds_toArray, List.set_cons_zero, List.set_cons_succ]
    refine region_take 2 (some 42) (v := ?_) rfl rfl (by kernel_rfl) (by kernel_rfl) (by kernel_rfl) (fun _ _ _ h => h) rfl ?_ hS ?_
    rotate_left
    · (intro w9 hS9; go_simp; try (with_reducible rfl))
    simp only [Act.put, List.setIfInBounds_toArray, List.set_cons_zero, List.set_cons_succ]
    refine region_take 3 (some 43) (v := ?_) rfl rfl (by kernel_rfl) (by kernel_rfl) (by kernel_rfl) (fun _ _ _ h => h) rfl ?_ hS ?_
    rotate_left
    · (intro w9 hS9; go_simp; try (with_reducible rfl))
    simp only [Act.put, List.setIfInBounds_toArray, List.set_cons_zero, List.set_cons_succ]
    refine region_take 5 (some 45) (v := ?_) rfl rfl (by kernel_rfl) (by kernel_rfl) (by kernel_rfl) (fun _ _ _ h => h) rfl ?_ hS ?_
    rotate_left
    · (intro w9 hS9; go_simp; try (with_reducible rfl))
    simp only [Act.put, List.setIfInBounds_toArray, List.set_cons_zero, List.set_cons_succ]
    refine region_take 6 (some 46) (v := ?_) rfl rfl (by kernel_rfl) (by kernel_rfl) (by kernel_rfl) (fun _ _ _ h => h) rfl ?_ hS ?_
    rotate_left
    · (intro w9 hS9; go_simp; try (with_reducible rfl))
    simp only [Act.put, List.setIfInBounds_toArray, List.set_cons_zero, List.set_cons_succ]
    refine region_take 7 (some 47) (v := ?_) rfl rfl (by kernel_rfl) (by kernel_rfl) (by kernel_rfl) (fun _ _ _ h => h) rfl ?_ hS ?_
    rotate_left
    · (intro w9 hS9; go_simp; try (with_reducible rfl))
    simp only [Act.put, List.setIfInBounds_toArray, List.set_cons_zero, List.set_cons_succ]
    refine region_call 0 rfl (by kernel_rfl) (fun K hK => ?_)
    go_simp
    refine hK.out _ _ trivial ?_
    clear hK hS K
    intro hS
    try simp only [Act.put, List.setIfInBounds_toArray, List.set_cons_zero, List.set_cons_succ]
    refine region_call 4 rfl (by kernel_rfl) (fun K hK => ?_)
    rw [if_pos (by kernel_rfl)]
    refine oper_append_run (.tmp 40) (.tmp 43) _ rfl rfl rfl hrun1H.out ?_
    refine hK.out _ _ trivial ?_
    clear hK hS K
    intro hS
    try simp only [Act.put, List.setIfInBounds_toArray, List.set_cons_zero, List.set_cons_succ]
    refine region_call 8 rfl (by kernel_rfl) (fun K hK => ?_)
    rw [if_pos (by kernel_rfl)]
    refine oper_append_run (.tmp 44) (.tmp 47) _ rfl rfl rfl hrun2H.out ?_
    refine hK.out _ _ trivial ?_
    clear hK hS K
    intro hS
    try simp only [Act.put, List.setIfInBounds_toArray, List.set_cons_zero, List.set_cons_succ]
    refine region_take 9 (some 10) (v := ?_) rfl rfl (by kernel_rfl) (by kernel_rfl) (by kernel_rfl) (fun _ _ _ h => h) rfl ?_ hS ?_
    rotate_left
    · (intro w9 hS9; go_simp; try (with_reducible rfl))
    simp only [Act.put, List.setIfInBounds_toArray, List.set_cons_zero, List.set_cons_succ]
    refine wpAnyH_done (by kernel_rfl) ?_ _
    clear hS
    generalize (if lc = k then (some (⟨b, off, none⟩ : Addr)) else some ⟨b, off + k * 5, none⟩) = ad
    by_cases x3 : 2 < l.length
    · have y3 : ((2 : Int) < (l.length : Int)) = True := eq_true (by omega)
      have hM0 : 0 < M.length := by rw [hMLH.out]; omega
      have hM1 : 1 < M.length := by rw [hMLH.out]; omega
      obtain ⟨al, cl, e1, hlib⟩ := OwnL.sl hoH.out
      injection e1 with e1 _ e2
      subst e1 e2
      obtain ⟨b0, o0, A1, C1, A2, C2, A3, C3, i0, -, p0, p1, p2, p3, p4, -, -, -, -, -⟩ := hlib.ent 0 hM0
      injection i0 with i0
      injection i0 with i0 i1
      subst i0 i1
      obtain ⟨b1, o1, D1, F1, D2, F2, D3, F3, i0, -, q0, q1, q2, q3, q4, -, -, -, -, -⟩ := hlib.ent 1 hM1
      injection i0 with i0
      injection i0 with i0 i1
      subst i0 i1
      have hfro := OwnE.fro hoH.out
      have hsw := OwnE.swap hoH.out (by rw [hMLH.out]; omega) (x0 := [.string (eNm M[0]), .string (eBy M[0]), .slice A1 (eSays M[0]).length C1, .slice A2 (eUses M[0]).length C2, .slice A3 (ePf M[0]).length C3]) (x1 := [.string (eNm M[1]), .string (eBy M[1]), .slice D1 (eSays M[1]).length F1, .slice D2 (eUses M[1]).length F2, .slice D3 (ePf M[1]).length F3]) rfl rfl
        (fun j hj => match j, hj with | 0, _ => p0 | 1, _ => p1 | 2, _ => p2 | 3, _ => p3 | 4, _ => p4) (fun j hj => match j, hj with | 0, _ => q0 | 1, _ => q1 | 2, _ => q2 | 3, _ => q3 | 4, _ => q4)
      have hlt1 : 1 < l.length := by omega
      have hlt0 : 0 < l.length := by omega
      generalize eNm M[0] = s0 at *
      generalize eBy M[0] = s1 at *
      generalize (eSays M[0]).length = s2 at *
      generalize (eUses M[0]).length = s3 at *
      generalize (ePf M[0]).length = s4 at *
      generalize eNm M[1] = r0 at *
      generalize eBy M[1] = r1 at *
      generalize (eSays M[1]).length = r2 at *
      generalize (eUses M[1]).length = r3 at *
      generalize (ePf M[1]).length = r4 at *
      have p0 : w4.cell? ⟨g, 0, none⟩ = some (.string s0) := p0
      have p1 : w4.cell? ⟨g, 1, none⟩ = some (.string s1) := p1
      have p2 : w4.cell? ⟨g, 2, none⟩ = some (.slice A1 s2 C1) := p2
      have p3 : w4.cell? ⟨g, 3, none⟩ = some (.slice A2 s3 C2) := p3
      have p4 : w4.cell? ⟨g, 4, none⟩ = some (.slice A3 s4 C3) := p4
      have q0 : w4.cell? ⟨g, 5, none⟩ = some (.string r0) := q0
      have q1 : w4.cell? ⟨g, 6, none⟩ = some (.string r1) := q1
      have q2 : w4.cell? ⟨g, 7, none⟩ = some (.slice D1 r2 F1) := q2
      have q3 : w4.cell? ⟨g, 8, none⟩ = some (.slice D2 r3 F2) := q3
      have q4 : w4.cell? ⟨g, 9, none⟩ = some (.slice D3 r4 F3) := q4
      have hswH := Lib.hid hsw
      clear hsw hlib hM0 hM1
      have hB5 : Below w.heap.size w (w4.setCells g 0 ([.string r0, .string r1, .slice D1 r2 F1, .slice D2 r3 F2, .slice D3 r4 F3] ++ [.string s0, .string s1, .slice A1 s2 C1, .slice A2 s3 C2, .slice A3 s4 C3])).drew :=
        (hB4H.out.grown hswH.out.2 hB4H.out.size (fun k e => by injection e with e; omega)).trans ((Below.drew (.refl _ _)).mono (Nat.le_trans hB4H.out.size hswH.out.2.size))
      have ho5 := OwnL.call hswH.out.1 (Below.drew (.refl _ _))
      obtain ⟨al, cl, e1, hlib⟩ := OwnL.sl ho5
      rw [swp_len] at e1
      injection e1 with e1 _ e2
      subst e1 e2
      obtain ⟨w5, hw5⟩ : ∃ w5, (w4.setCells g 0 ([.string r0, .string r1, .slice D1 r2 F1, .slice D2 r3 F2, .slice D3 r4 F3] ++ [.string s0, .string s1, .slice A1 s2 C1, .slice A2 s3 C2, .slice A3 s4 C3])).drew = w5 := ⟨_, rfl⟩
      rw [hw5] at hlib hB5
      simp only [World.setCells, List.cons_append, List.nil_append, Nat.zero_add, Nat.reduceAdd] at hw5
      have hp2 := hpmH.out.trans (swp_perm M)
      have hMl : (swpL M).length = l.length := (swp_len M).trans hMLH.out
      obtain ⟨M2, hM2⟩ : ∃ M2, swpL M = M2 := ⟨_, rfl⟩
      rw [hM2] at hlib hp2 hMl
      clear hM2 ho5 hswH
      have hBW := hB5
      have hl1000 : l.length ≤ 1000 := by have := hl100.out; omega
      have hw5H := Lib.hid hw5
      clear hw5 hB5
      have vFailing1 := fun W (hb : Below w5.heap.size w5 W) => Failing_any sa (some ⟨b, off, none⟩) sc lc s l W ((h1H.out.below hBW).below hb) ((h2H.out.below hBW).below hb) hl1000
      have vFailing2 := fun W (hb : Below w5.heap.size w5 W) => Failing_any sa (some ⟨g, 0, none⟩) sc cap s M2 W ((h1H.out.below hBW).below hb) (hlib.below hb) (by rw [hMl]; exact hl1000)
      simp only [hMl] at vFailing2
      simp only [← fail_perm hp2] at vFailing2
      obtain ⟨⟨fFailing, gFailing⟩, hfFailing⟩ : ∃ r, failE s l = r := ⟨_, rfl⟩
      simp only [hfFailing] at vFailing1 vFailing2
      clear hfFailing
      have vFailing1H := Lib.hid vFailing1
      have vFailing2H := Lib.hid vFailing2
      clear vFailing1 vFailing2
      have vShaken1 := fun W (hb : Below w5.heap.size w5 W) => Shaken_any sa (some ⟨b, off, none⟩) sc lc s l W ((h1H.out.below hBW).below hb) ((h2H.out.below hBW).below hb) hl1000
      have vShaken2 := fun W (hb : Below w5.heap.size w5 W) => Shaken_any sa (some ⟨g, 0, none⟩) sc cap s M2 W ((h1H.out.below hBW).below hb) (hlib.below hb) (by rw [hMl]; exact hl1000)
      simp only [hMl] at vShaken2
      simp only [← shak_perm hp2] at vShaken2
      obtain ⟨⟨fShaken, gShaken⟩, hfShaken⟩ : ∃ r, shakE s l = r := ⟨_, rfl⟩
      simp only [hfShaken] at vShaken1 vShaken2
      clear hfShaken
      have vShaken1H := Lib.hid vShaken1
      have vShaken2H := Lib.hid vShaken2
      clear vShaken1 vShaken2
      have vCircle1 := fun W (hb : Below w5.heap.size w5 W) => Circle_any sa (some ⟨b, off, none⟩) sc lc s l W ((h1H.out.below hBW).below hb) ((h2H.out.below hBW).below hb) hl1000
      have vCircle2 := fun W (hb : Below w5.heap.size w5 W) => Circle_any sa (some ⟨g, 0, none⟩) sc cap s M2 W ((h1H.out.below hBW).below hb) (hlib.below hb) (by rw [hMl]; exact hl1000)
      simp only [hMl] at vCircle2
      have vCircle1H := Lib.hid vCircle1
      have vCircle2H := Lib.hid vCircle2
      clear vCircle1 vCircle2
      have vUsers1 := fun W (hb : Below w5.heap.size w5 W) => Users_any sa (some ⟨b, off, none⟩) sc lc s l n hnH.out W ((h1H.out.below hBW).below hb) ((h2H.out.below hBW).below hb) hl1000
      have vUsers2 := fun W (hb : Below w5.heap.size w5 W) => Users_any sa (some ⟨g, 0, none⟩) sc cap s M2 n hnH.out W ((h1H.out.below hBW).below hb) (hlib.below hb) (by rw [hMl]; exact hl1000)
      simp only [hMl] at vUsers2
      simp only [← users_perm hp2] at vUsers2
      obtain ⟨⟨fUsers, gUsers⟩, hfUsers⟩ : ∃ r, usersE s l n = r := ⟨_, rfl⟩
      simp only [hfUsers] at vUsers1 vUsers2
      clear hfUsers
      have vUsers1H := Lib.hid vUsers1
      have vUsers2H := Lib.hid vUsers2
      clear vUsers1 vUsers2
      have vLoses1 := fun W (hb : Below w5.heap.size w5 W) => Loses_any sa (some ⟨b, off, none⟩) sc lc s l n hnH.out W ((h1H.out.below hBW).below hb) ((h2H.out.below hBW).below hb) hl1000
      have vLoses2 := fun W (hb : Below w5.heap.size w5 W) => Loses_any sa (some ⟨g, 0, none⟩) sc cap s M2 n hnH.out W ((h1H.out.below hBW).below hb) (hlib.below hb) (by rw [hMl]; exact hl1000)
      simp only [hMl] at vLoses2
      simp only [← loses_perm hp2] at vLoses2
      obtain ⟨⟨fLoses, gLoses⟩, hfLoses⟩ : ∃ r, losesE s l n = r := ⟨_, rfl⟩
      simp only [hfLoses] at vLoses1 vLoses2
      clear hfLoses
      have vLoses1H := Lib.hid vLoses1
      have vLoses2H := Lib.hid vLoses2
      clear vLoses1 vLoses2
      have hBWH := Lib.hid hBW
      have hp2H := Lib.hid hp2
      clear hBW hp2 hMl hlib hl1000
      go_wp2_with fail
      go_region
      rw [hw5H.out]
      clear hw5H p0 p1 p2 p3 p4 q0 q1 q2 q3 q4 hfro
      have c0 := Lib.hid (vFailing1H.out w5 (.refl _ _))
      go_wp2_with fail
      refine c0.out.mono ?_
      rintro e x0a ⟨v, L0, rfl, hO, hA, hm, hb⟩
      obtain ⟨a0, d0, rfl, hS⟩ := OwnS.strs hO
      have mm0 := hS.le
      have hB0a := Lib.hid hb
      have hSH := Lib.hid hS
      have e0 := Lib.hid (vFailing2H.out x0a hB0a.out)
      have hAH := Lib.hid hA
      have hmH := Lib.hid hm
      clear hA hm
      clear hO hS hb c0
      go_wp2_with fail
      refine e0.out.mono ?_
      rintro e x0b ⟨v, L', rfl, hO, hA, hm, hb⟩
      obtain rfl := hA.uniq hAH.out (fun z => (hm z).trans (hmH.out z).symm)
      clear hA hm hAH hmH
      obtain ⟨a0', d0', rfl, hS⟩ := OwnS.strs hO
      have hB0b := Lib.hid (bcall hB0a.out hb)
      have t0 := Lib.hid (SameTexts_any a0 a0' d0 d0' L' L' x0b (hSH.out.below hb) hS)
      have hLL : decide (L' = L') = true := by simp
      clear hO hS hb hSH e0
      go_wp2_with fail
      refine t0.out.mono ?_
      rintro e x0c ⟨rfl, hd⟩
      have hB0c := Lib.hid (bcall hB0b.out (hd.below _))
      clear hd t0 hB0b hB0a
      have c1 := Lib.hid (vShaken1H.out x0c hB0c.out)
      go_wp2_with fail
      refine c1.out.mono ?_
      rintro e x1a ⟨v, L1, rfl, hO, hA, hm, hb⟩
      obtain ⟨a1, d1, rfl, hS⟩ := OwnS.strs hO
      have mm1 := hS.le
      have hB1a := Lib.hid (bcall hB0c.out hb)
      have hSH := Lib.hid hS
      have e1 := Lib.hid (vShaken2H.out x1a hB1a.out)
      have hAH := Lib.hid hA
      have hmH := Lib.hid hm
      clear hA hm
      clear hO hS hb c1
      go_wp2_with fail
      refine e1.out.mono ?_
      rintro e x1b ⟨v, L', rfl, hO, hA, hm, hb⟩
      obtain rfl := hA.uniq hAH.out (fun z => (hm z).trans (hmH.out z).symm)
      clear hA hm hAH hmH
      obtain ⟨a1', d1', rfl, hS⟩ := OwnS.strs hO
      have hB1b := Lib.hid (bcall hB1a.out hb)
      have t1 := Lib.hid (SameTexts_any a1 a1' d1 d1' L' L' x1b (hSH.out.below hb) hS)
      have hLL : decide (L' = L') = true := by simp
      clear hO hS hb hSH e1
      go_wp2_with fail
      refine t1.out.mono ?_
      rintro e x1c ⟨rfl, hd⟩
      have hB1c := Lib.hid (bcall hB1b.out (hd.below _))
      clear hd t1 hB1b hB1a
      have c2 := Lib.hid (vCircle1H.out x1c hB1c.out)
      go_wp2_with fail
      refine c2.out.mono ?_
      rintro e x2a ⟨v, L2, er, hE, rfl, hO, hb⟩
      obtain ⟨a2, d2, rfl, hS⟩ := OwnS.strs hO
      have mm2 := hS.le
      have hB2a := Lib.hid (bcall hB1c.out hb)
      have hSH := Lib.hid hS
      have e2 := Lib.hid (vCircle2H.out x2a hB2a.out)
      have hEH := Lib.hid hE
      clear hE
      clear hO hS hb c2
      go_wp2_with fail
      refine e2.out.mono ?_
      rintro e x2b ⟨v, L', er', hE, rfl, hO, hb⟩
      obtain ⟨rfl, rfl⟩ := circ_perm hp2H.out hEH.out hE
      clear hE hEH
      obtain ⟨a2', d2', rfl, hS⟩ := OwnS.strs hO
      have hB2b := Lib.hid (bcall hB2a.out hb)
      have t2 := Lib.hid (SameTexts_any a2 a2' d2 d2' L2 L2 x2b (hSH.out.below hb) hS)
      have hLL : decide (L2 = L2) = true := by simp
      clear hO hS hb hSH e2
      go_wp2_with fail
      refine t2.out.mono ?_
      rintro e x2c ⟨rfl, hd⟩
      have hB2c := Lib.hid (bcall hB2b.out (hd.below _))
      clear hd t2 hB2b hB2a
      have c3 := Lib.hid (vUsers1H.out x2c hB2c.out)
      go_wp2_with fail
      refine c3.out.mono ?_
      rintro e x3a ⟨v, L3, rfl, hO, hA, hm, hb⟩
      obtain ⟨a3, d3, rfl, hS⟩ := OwnS.strs hO
      have mm3 := hS.le
      have hB3a := Lib.hid (bcall hB2c.out hb)
      have hSH := Lib.hid hS
      have e3 := Lib.hid (vUsers2H.out x3a hB3a.out)
      have hAH := Lib.hid hA
      have hmH := Lib.hid hm
      clear hA hm
      clear hO hS hb c3
      go_wp2_with fail
      refine e3.out.mono ?_
      rintro e x3b ⟨v, L', rfl, hO, hA, hm, hb⟩
      obtain rfl := hA.uniq hAH.out (fun z => (hm z).trans (hmH.out z).symm)
      clear hA hm hAH hmH
      obtain ⟨a3', d3', rfl, hS⟩ := OwnS.strs hO
      have hB3b := Lib.hid (bcall hB3a.out hb)
      have t3 := Lib.hid (SameTexts_any a3 a3' d3 d3' L' L' x3b (hSH.out.below hb) hS)
      have hLL : decide (L' = L') = true := by simp
      clear hO hS hb hSH e3
      go_wp2_with fail
      refine t3.out.mono ?_
      rintro e x3c ⟨rfl, hd⟩
      have hB3c := Lib.hid (bcall hB3b.out (hd.below _))
      clear hd t3 hB3b hB3a
      have c4 := Lib.hid (vLoses1H.out x3c hB3c.out)
      go_wp2_with fail
      refine c4.out.mono ?_
      rintro e x4a ⟨v, L4, rfl, hO, hA, hm, hb⟩
      obtain ⟨a4, d4, rfl, hS⟩ := OwnS.strs hO
      have mm4 := hS.le
      have hB4a := Lib.hid (bcall hB3c.out hb)
      have hSH := Lib.hid hS
      have e4 := Lib.hid (vLoses2H.out x4a hB4a.out)
      have hAH := Lib.hid hA
      have hmH := Lib.hid hm
      clear hA hm
      clear hO hS hb c4
      go_wp2_with fail
      refine e4.out.mono ?_
      rintro e x4b ⟨v, L', rfl, hO, hA, hm, hb⟩
      obtain rfl := hA.uniq hAH.out (fun z => (hm z).trans (hmH.out z).symm)
      clear hA hm hAH hmH
      obtain ⟨a4', d4', rfl, hS⟩ := OwnS.strs hO
      have hB4b := Lib.hid (bcall hB4a.out hb)
      have t4 := Lib.hid (SameTexts_any a4 a4' d4 d4' L' L' x4b (hSH.out.below hb) hS)
      have hLL : decide (L' = L') = true := by simp
      clear hO hS hb hSH e4
      go_wp2_with fail
      refine t4.out.mono ?_
      rintro e x4c ⟨rfl, hd⟩
      have hB4c := Lib.hid (bcall hB4b.out (hd.below _))
      clear hd t4 hB4b hB4a
      have hfin := Lib.hid (bcall hBWH.out hB4c.out)
      go_wp2_with fail
      go_ret
      exact ⟨ret_bool (by simp), hfin.out⟩
    · have y3 : ((2 : Int) < (l.length : Int)) = False := eq_false (by omega)
      obtain ⟨al, cl, e1, hlib⟩ := OwnL.sl hoH.out
      injection e1 with e1 _ e2
      subst e1 e2
      have hBW := hB4H.out
      have hp2 := hpmH.out
      have hMl := hMLH.out
      have hl1000 : l.length ≤ 1000 := by have := hl100.out; omega
      have vFailing1 := fun W (hb : Below w4.heap.size w4 W) => Failing_any sa (some ⟨b, off, none⟩) sc lc s l W ((h1H.out.below hBW).below hb) ((h2H.out.below hBW).below hb) hl1000
      have vFailing2 := fun W (hb : Below w4.heap.size w4 W) => Failing_any sa (some ⟨g, 0, none⟩) sc cap s M W ((h1H.out.below hBW).below hb) (hlib.below hb) (by rw [hMl]; exact hl1000)
      simp only [hMl] at vFailing2
      simp only [← fail_perm hp2] at vFailing2
      obtain ⟨⟨fFailing, gFailing⟩, hfFailing⟩ : ∃ r, failE s l = r := ⟨_, rfl⟩
      simp only [hfFailing] at vFailing1 vFailing2
      clear hfFailing
      have vFailing1H := Lib.hid vFailing1
      have vFailing2H := Lib.hid vFailing2
      clear vFailing1 vFailing2
      have vShaken1 := fun W (hb : Below w4.heap.size w4 W) => Shaken_any sa (some ⟨b, off, none⟩) sc lc s l W ((h1H.out.below hBW).below hb) ((h2H.out.below hBW).below hb) hl1000
      have vShaken2 := fun W (hb : Below w4.heap.size w4 W) => Shaken_any sa (some ⟨g, 0, none⟩) sc cap s M W ((h1H.out.below hBW).below hb) (hlib.below hb) (by rw [hMl]; exact hl1000)
      simp only [hMl] at vShaken2
      simp only [← shak_perm hp2] at vShaken2
      obtain ⟨⟨fShaken, gShaken⟩, hfShaken⟩ : ∃ r, shakE s l = r := ⟨_, rfl⟩
      simp only [hfShaken] at vShaken1 vShaken2
      clear hfShaken
      have vShaken1H := Lib.hid vShaken1
      have vShaken2H := Lib.hid vShaken2
      clear vShaken1 vShaken2
      have vCircle1 := fun W (hb : Below w4.heap.size w4 W) => Circle_any sa (some ⟨b, off, none⟩) sc lc s l W ((h1H.out.below hBW).below hb) ((h2H.out.below hBW).below hb) hl1000
      have vCircle2 := fun W (hb : Below w4.heap.size w4 W) => Circle_any sa (some ⟨g, 0, none⟩) sc cap s M W ((h1H.out.below hBW).below hb) (hlib.below hb) (by rw [hMl]; exact hl1000)
      simp only [hMl] at vCircle2
      have vCircle1H := Lib.hid vCircle1
      have vCircle2H := Lib.hid vCircle2
      clear vCircle1 vCircle2
      have vUsers1 := fun W (hb : Below w4.heap.size w4 W) => Users_any sa (some ⟨b, off, none⟩) sc lc s l n hnH.out W ((h1H.out.below hBW).below hb) ((h2H.out.below hBW).below hb) hl1000
      have vUsers2 := fun W (hb : Below w4.heap.size w4 W) => Users_any sa (some ⟨g, 0, none⟩) sc cap s M n hnH.out W ((h1H.out.below hBW).below hb) (hlib.below hb) (by rw [hMl]; exact hl1000)
      simp only [hMl] at vUsers2
      simp only [← users_perm hp2] at vUsers2
      obtain ⟨⟨fUsers, gUsers⟩, hfUsers⟩ : ∃ r, usersE s l n = r := ⟨_, rfl⟩
      simp only [hfUsers] at vUsers1 vUsers2
      clear hfUsers
      have vUsers1H := Lib.hid vUsers1
      have vUsers2H := Lib.hid vUsers2
      clear vUsers1 vUsers2
      have vLoses1 := fun W (hb : Below w4.heap.size w4 W) => Loses_any sa (some ⟨b, off, none⟩) sc lc s l n hnH.out W ((h1H.out.below hBW).below hb) ((h2H.out.below hBW).below hb) hl1000
      have vLoses2 := fun W (hb : Below w4.heap.size w4 W) => Loses_any sa (some ⟨g, 0, none⟩) sc cap s M n hnH.out W ((h1H.out.below hBW).below hb) (hlib.below hb) (by rw [hMl]; exact hl1000)
      simp only [hMl] at vLoses2
      simp only [← loses_perm hp2] at vLoses2
      obtain ⟨⟨fLoses, gLoses⟩, hfLoses⟩ : ∃ r, losesE s l n = r := ⟨_, rfl⟩
      simp only [hfLoses] at vLoses1 vLoses2
      clear hfLoses
      have vLoses1H := Lib.hid vLoses1
      have vLoses2H := Lib.hid vLoses2
      clear vLoses1 vLoses2
      have hBWH := Lib.hid hBW
      have hp2H := Lib.hid hp2
      clear hBW hp2 hMl hlib hl1000
      have c0 := Lib.hid (vFailing1H.out w4 (.refl _ _))
      go_wp2_with fail
      refine c0.out.mono ?_
      rintro e x0a ⟨v, L0, rfl, hO, hA, hm, hb⟩
      obtain ⟨a0, d0, rfl, hS⟩ := OwnS.strs hO
      have mm0 := hS.le
      have hB0a := Lib.hid hb
      have hSH := Lib.hid hS
      have e0 := Lib.hid (vFailing2H.out x0a hB0a.out)
      have hAH := Lib.hid hA
      have hmH := Lib.hid hm
      clear hA hm
      clear hO hS hb c0
      go_wp2_with fail
      refine e0.out.mono ?_
      rintro e x0b ⟨v, L', rfl, hO, hA, hm, hb⟩
      obtain rfl := hA.uniq hAH.out (fun z => (hm z).trans (hmH.out z).symm)
      clear hA hm hAH hmH
      obtain ⟨a0', d0', rfl, hS⟩ := OwnS.strs hO
      have hB0b := Lib.hid (bcall hB0a.out hb)
      have t0 := Lib.hid (SameTexts_any a0 a0' d0 d0' L' L' x0b (hSH.out.below hb) hS)
      have hLL : decide (L' = L') = true := by simp
      clear hO hS hb hSH e0
      go_wp2_with fail
      refine t0.out.mono ?_
      rintro e x0c ⟨rfl, hd⟩
      have hB0c := Lib.hid (bcall hB0b.out (hd.below _))
      clear hd t0 hB0b hB0a
      have c1 := Lib.hid (vShaken1H.out x0c hB0c.out)
      go_wp2_with fail
      refine c1.out.mono ?_
      rintro e x1a ⟨v, L1, rfl, hO, hA, hm, hb⟩
      obtain ⟨a1, d1, rfl, hS⟩ := OwnS.strs hO
      have mm1 := hS.le
      have hB1a := Lib.hid (bcall hB0c.out hb)
      have hSH := Lib.hid hS
      have e1 := Lib.hid (vShaken2H.out x1a hB1a.out)
      have hAH := Lib.hid hA
      have hmH := Lib.hid hm
      clear hA hm
      clear hO hS hb c1
      go_wp2_with fail
      refine e1.out.mono ?_
      rintro e x1b ⟨v, L', rfl, hO, hA, hm, hb⟩
      obtain rfl := hA.uniq hAH.out (fun z => (hm z).trans (hmH.out z).symm)
      clear hA hm hAH hmH
      obtain ⟨a1', d1', rfl, hS⟩ := OwnS.strs hO
      have hB1b := Lib.hid (bcall hB1a.out hb)
      have t1 := Lib.hid (SameTexts_any a1 a1' d1 d1' L' L' x1b (hSH.out.below hb) hS)
      have hLL : decide (L' = L') = true := by simp
      clear hO hS hb hSH e1
      go_wp2_with fail
      refine t1.out.mono ?_
      rintro e x1c ⟨rfl, hd⟩
      have hB1c := Lib.hid (bcall hB1b.out (hd.below _))
      clear hd t1 hB1b hB1a
      have c2 := Lib.hid (vCircle1H.out x1c hB1c.out)
      go_wp2_with fail
      refine c2.out.mono ?_
      rintro e x2a ⟨v, L2, er, hE, rfl, hO, hb⟩
      obtain ⟨a2, d2, rfl, hS⟩ := OwnS.strs hO
      have mm2 := hS.le
      have hB2a := Lib.hid (bcall hB1c.out hb)
      have hSH := Lib.hid hS
      have e2 := Lib.hid (vCircle2H.out x2a hB2a.out)
      have hEH := Lib.hid hE
      clear hE
      clear hO hS hb c2
      go_wp2_with fail
      refine e2.out.mono ?_
      rintro e x2b ⟨v, L', er', hE, rfl, hO, hb⟩
      obtain ⟨rfl, rfl⟩ := circ_perm hp2H.out hEH.out hE
      clear hE hEH
      obtain ⟨a2', d2', rfl, hS⟩ := OwnS.strs hO
      have hB2b := Lib.hid (bcall hB2a.out hb)
      have t2 := Lib.hid (SameTexts_any a2 a2' d2 d2' L2 L2 x2b (hSH.out.below hb) hS)
      have hLL : decide (L2 = L2) = true := by simp
      clear hO hS hb hSH e2
      go_wp2_with fail
      refine t2.out.mono ?_
      rintro e x2c ⟨rfl, hd⟩
      have hB2c := Lib.hid (bcall hB2b.out (hd.below _))
      clear hd t2 hB2b hB2a
      have c3 := Lib.hid (vUsers1H.out x2c hB2c.out)
      go_wp2_with fail
      refine c3.out.mono ?_
      rintro e x3a ⟨v, L3, rfl, hO, hA, hm, hb⟩
      obtain ⟨a3, d3, rfl, hS⟩ := OwnS.strs hO
      have mm3 := hS.le
      have hB3a := Lib.hid (bcall hB2c.out hb)
      have hSH := Lib.hid hS
      have e3 := Lib.hid (vUsers2H.out x3a hB3a.out)
      have hAH := Lib.hid hA
      have hmH := Lib.hid hm
      clear hA hm
      clear hO hS hb c3
      go_wp2_with fail
      refine e3.out.mono ?_
      rintro e x3b ⟨v, L', rfl, hO, hA, hm, hb⟩
      obtain rfl := hA.uniq hAH.out (fun z => (hm z).trans (hmH.out z).symm)
      clear hA hm hAH hmH
      obtain ⟨a3', d3', rfl, hS⟩ := OwnS.strs hO
      have hB3b := Lib.hid (bcall hB3a.out hb)
      have t3 := Lib.hid (SameTexts_any a3 a3' d3 d3' L' L' x3b (hSH.out.below hb) hS)
      have hLL : decide (L' = L') = true := by simp
      clear hO hS hb hSH e3
      go_wp2_with fail
      refine t3.out.mono ?_
      rintro e x3c ⟨rfl, hd⟩
      have hB3c := Lib.hid (bcall hB3b.out (hd.below _))
      clear hd t3 hB3b hB3a
      have c4 := Lib.hid (vLoses1H.out x3c hB3c.out)
      go_wp2_with fail
      refine c4.out.mono ?_
      rintro e x4a ⟨v, L4, rfl, hO, hA, hm, hb⟩
      obtain ⟨a4, d4, rfl, hS⟩ := OwnS.strs hO
      have mm4 := hS.le
      have hB4a := Lib.hid (bcall hB3c.out hb)
      have hSH := Lib.hid hS
      have e4 := Lib.hid (vLoses2H.out x4a hB4a.out)
      have hAH := Lib.hid hA
      have hmH := Lib.hid hm
      clear hA hm
      clear hO hS hb c4
      go_wp2_with fail
      refine e4.out.mono ?_
      rintro e x4b ⟨v, L', rfl, hO, hA, hm, hb⟩
      obtain rfl := hA.uniq hAH.out (fun z => (hm z).trans (hmH.out z).symm)
      clear hA hm hAH hmH
      obtain ⟨a4', d4', rfl, hS⟩ := OwnS.strs hO
      have hB4b := Lib.hid (bcall hB4a.out hb)
      have t4 := Lib.hid (SameTexts_any a4 a4' d4 d4' L' L' x4b (hSH.out.below hb) hS)
      have hLL : decide (L' = L') = true := by simp
      clear hO hS hb hSH e4
      go_wp2_with fail
      refine t4.out.mono ?_
      rintro e x4c ⟨rfl, hd⟩
      have hB4c := Lib.hid (bcall hB4b.out (hd.below _))
      clear hd t4 hB4b hB4a
      have hfin := Lib.hid (bcall hBWH.out hB4c.out)
      go_wp2_with fail
      go_ret
      exact ⟨ret_bool (by simp), hfin.out⟩
end Go.Proofs.YtpmnnoopoblpgaaGreat

/- The statement DepsOrdersSaid: for every input DepsOrders returns true and leaves its arguments as they were. No condition. -/
namespace Go.Proofs.YtpmnnoopoblpgaaGreat
open Go Go.RowKit Go.ChangeShapes Go.WideShapes Go.ChangeAt

set_option maxRecDepth 100000 in
theorem depsOrders_lifted (os : Os) (started : os.Started) (H : Type) (enc : TypeId × Value → H) :
    ReturnsInHanded {} Tryz.checked os 8 .any (Rows.depsOrdersSpec.pre6 enc Tryz.prog Tryz.f8 Rows.depsOrdersRow.domain false) (Rows.depsOrdersSpec.post enc Tryz.prog Tryz.f8 false true false false) := by
  refine returnsInHanded_of_change (C := Tryz.checked) Tryz.own started (by kernel_rfl) Tryz.func8
    (ChangeSpec.witness6 (enc := enc) (C := Tryz.checked) false ⟨#[], #[.slice none 0 0, .slice none 0 0, .int .i64 0, .string ByteArray.empty], []⟩ 8 (by kernel_rfl) (by kernel_rfl) (by kernel_rfl) (by kernel_rfl)) ?_
  intro W base args ds gs before hval0 hW hcnd _
  have hval : ∀ (j : Nat) t v, Tryz.f8.params[j]? = some t → args[j]? = some v → Value.okWide Tryz.prog W .any base t v := hval0
  have hW' := hW
  obtain ⟨p, q, hA0, hV, rfl, hfz, hnd⟩ := hW
  have hA : DataW.TrodAll enc Tryz.prog W 0 (fun _ => true) true Tryz.f8.params.toList args.toList ds p := hA0
  rw [Tryz.params8] at hA hval
  obtain ⟨v0, v1, v2, v3, d0, d1, d2, d3, p0, p1, p2, p3, rfl, rfl, rfl, h0, h1, h2, h3⟩ := trodAll_four hA
  obtain ⟨rfl, rfl⟩ := trodVars_none hV
  clear hA0 hval0
  simp only [List.append_nil] at hW'
  have hlt : ∀ x ∈ p0 ++ (p1 ++ (p2 ++ p3)), x.block < W.heap.size := fun x hx => hW'.lt x (by simpa using hx)
  have keep0 := fun (W' : World) (hn : Below W.heap.size W W') => Below.trod Tryz.laidOut (by kernel_rfl) (of_decide_eq_true (by kernel_rfl)) h0 hn (fun x hx => hlt x (by simp [hx]))
  have keep1 := fun (W' : World) (hn : Below W.heap.size W W') => Below.trod Tryz.laidOut (by kernel_rfl) (of_decide_eq_true (by kernel_rfl)) h1 hn (fun x hx => hlt x (by simp [hx]))
  have keep2 := fun (W' : World) (hn : Below W.heap.size W W') => Below.trod Tryz.laidOut (by kernel_rfl) (of_decide_eq_true (by kernel_rfl)) h2 hn (fun x hx => hlt x (by simp [hx]))
  have keep3 := fun (W' : World) (hn : Below W.heap.size W W') => Below.trod Tryz.laidOut (by kernel_rfl) (of_decide_eq_true (by kernel_rfl)) h3 hn (fun x hx => hlt x (by simp [hx]))
  obtain ⟨l0, a0, c0, rfl, r0⟩ := gSign.arg h0 (okWide_slice Tryz.underlying23 (hval 0 23 v0 rfl rfl))
  obtain ⟨l1, a1, c1, rfl, r1⟩ := gLib.arg h1 (okWide_slice Tryz.underlying24 (hval 1 24 v1 rfl rfl))
  obtain ⟨x2, rfl, rfl, rfl, wx2⟩ := open_int Tryz.underlying3 (hval 2 3 v2 rfl rfl) h2
  obtain ⟨s3, rfl, rfl, rfl, ws3⟩ := ChangeMaps.open_string Tryz.underlying9 (hval 3 9 v3 rfl rfl) h3
  refine (DepsOrders_walk _ _ _ _ _ _ _ _ W r0 r1 (range_of_wf wx2) (by unfold big; unfold maxLen at ws3; omega)).mono fun e W' ⟨he, hB⟩ => ?_
  subst he
  exact ⟨_, rfl, _, _, _, [], _, [], hW', trodAll_mk1 (shut_bool Tryz.underlying4 true), trodAll_mk4 (keep0 _ hB) (keep1 _ hB) (keep2 _ hB) (keep3 _ hB), rfl, hB.frame _, fun h => by cases h⟩

/-- DepsOrders: for every input it returns true, and each argument reads as it did. -/
theorem depsOrders_holds : Rows.DepsOrdersSaid :=
  OpenClaim.holds_of_wide 8 Tryz.f8 rfl rfl rfl rfl rfl rfl rfl ⟨rfl, rfl, rfl, rfl, rfl⟩ rfl rfl rfl rfl rfl (by kernel_rfl) Tryz.func8 (by kernel_rfl)
    (of_decide_eq_true (by kernel_rfl)) (by unfold Func.isWrapper; rw [if_neg (of_decide_eq_false (by kernel_rfl))]; exact ⟨rfl, rfl⟩)
    (fun os started H enc _ => depsOrders_lifted os started H enc)
end Go.Proofs.YtpmnnoopoblpgaaGreat
