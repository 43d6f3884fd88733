/- The statement DepsGeneralSaid: for every input DepsGeneral returns true and leaves its arguments as they were. No condition. -/
import Derived.Test.YtpmnnoopoblpgaaGreatMsE
import Derived.Test.YtpmnnoopoblpgaaGreatMsA
import Derived.Test.YtpmnnoopoblpgaaGreatBase
import Derived.ProofKit
import Derived.LaidMore
import Derived.OpenShut
import Derived.Stop.Joined
import Derived.ChangeMaps5
import Derived.Test.YtpmnnoopoblpgaaGreatMsD
import Derived.Test.YtpmnnoopoblpgaaGreatMsW
import Derived.Test.YtpmnnoopoblpgaaGreatMsV
/- If entries say something more general, what holds goes on holding, where no step becomes too great or has no "if". No program is named. -/
namespace Go.Proofs.YtpmnnoopoblpgaaGreat

/-- a step of the proof of entry i becomes too great, or has no "if" -/
def BlockP (s : Sg) (l : List Ent) (i : Nat) : Prop := inAll l (eUses (l.getD i default)) = true ∧ ePf (l.getD i default) ≠ [] ∧ ((runR s (givF l (eUses (l.getD i default))) (ePf (l.getD i default))).2.2 = 4 ∨ (runR s (givF l (eUses (l.getD i default))) (ePf (l.getD i default))).2.2 = 10)
theorem insTrans {s : Sg} {a b c : List Int} (h : Ins s a b) (k : Ins s b c) : Ins s a c := by
  obtain ⟨η, h1, h2⟩ := h
  obtain ⟨ζ, k1, k2⟩ := k
  exact ⟨fun n => ap ζ (η n), fun n hn => (h1 n hn).ap k1, by rw [← ap_ap, h2, k2]⟩
theorem insSelf {s : Sg} (a : List Int) : Ins s a a := ⟨fun n => [n], fun _ hn => W1.var hn, ap_id (fun _ _ _ => rfl)⟩
theorem lstD_getD {L : List (List Int)} : L.getLastD [] = L.getD (L.length - 1) [] := by
  rw [List.getLastD_eq_getLast?, List.getLast?_eq_getElem?, List.getD_eq_getElem?_getD]
theorem okEnt_says' {s : Sg} {x : Ent} (h : okEnt s x = true) : okT s (eSays x) = true := by
  unfold okEnt at h
  simp only [Bool.and_eq_true] at h
  have h2 := h.1.2.2
  unfold isCanonT at h2
  rw [Bool.and_eq_true] at h2
  exact h2.1
theorem atN_map {l l' : List Ent} (h : l.map eNm = l'.map eNm) (n : ByteArray) : atN l n = atN l' n := by
  unfold atN
  have e : ∀ m : List Ent, m.findIdx? (fun x => decide (eNm x = n)) = (m.map eNm).findIdx? (fun y => decide (y = n)) := fun m => by
    rw [List.findIdx?_map]; rfl
  rw [e l, e l', h]
theorem inAll_map {l l' : List Ent} (h : l.map eNm = l'.map eNm) (us : List ByteArray) : inAll l us = inAll l' us := by
  unfold inAll
  congr 1
  funext u
  rw [atN_map h]
theorem inAll_lt {l : List Ent} {us : List ByteArray} (h : inAll l us = true) {u : ByteArray} (hu : u ∈ us) : (atN l u).getD 0 < l.length := by
  unfold inAll at h
  rw [List.all_eq_true] at h
  have := h u hu
  cases hat : atN l u with
  | none => rw [hat] at this; cases this
  | some i => exact (atN_some hat).1
theorem givF_okT {s : Sg} {l : List Ent} {us : List ByteArray} (hok : ∀ x ∈ l, okEnt s x = true) (hin : inAll l us = true) : ∀ t ∈ givF l us, okT s t = true := by
  intro t ht
  unfold givF at ht
  obtain ⟨u, hu, rfl⟩ := List.mem_map.1 ht
  have := inAll_lt hin hu
  rw [getD_at this]
  exact okEnt_says' (hok _ (List.getElem_mem this))
/-- what holds goes on holding -/
theorem hold_mono {s : Sg} {l l' : List Ent} (hnm : l.map eNm = l'.map eNm) (hok : ∀ x ∈ l', okEnt s x = true)
    (hI : ∀ i, i < l.length → Ins s (eSays (l'.getD i default)) (eSays (l.getD i default))) {k : Nat} (_ : k < l.length) (hU : eUses (l'.getD k default) = eUses (l.getD k default)) (hP : ePf (l'.getD k default) = ePf (l.getD k default))
    (hS : eSays (l'.getD k default) = eSays (l.getD k default)) (hnb : ¬ BlockP s l' k) (h : holdX s l k = true) : holdX s l' k = true := by
  obtain ⟨us, hus⟩ : ∃ us, eUses (l.getD k default) = us := ⟨_, rfl⟩
  obtain ⟨p, hp⟩ : ∃ p, ePf (l.getD k default) = p := ⟨_, rfl⟩
  obtain ⟨t, ht⟩ : ∃ t, eSays (l.getD k default) = t := ⟨_, rfl⟩
  unfold BlockP at hnb
  unfold holdX strX at h ⊢
  rw [hU, hP, hus, hp] at hnb
  rw [hS, hU, hP, hus, hp, ht]
  rw [hus, hp, ht] at h
  by_cases e0 : p = []
  · rw [if_pos e0] at h ⊢; exact h
  · rw [if_neg e0] at h ⊢
    by_cases hin : inAll l us = true
    · rw [if_pos hin] at h
      rw [← inAll_map hnm, if_pos hin]
      rw [← inAll_map hnm] at hnb
      have hin' : inAll l' us = true := by rw [← inAll_map hnm]; exact hin
      by_cases hz : (saysE s (givF l us) p).2 = 0
      · rw [if_pos hz] at h
        simp only [Bool.and_eq_true] at h
        obtain ⟨⟨h1, h2⟩, h3⟩ := h
        unfold saysE at hz h1 h3
        by_cases ha : askedB s (givF l us) p = true
        · rw [if_pos ha] at hz h1 h3
          by_cases hr : (runL s (givF l us) p []).2 = 0
          · rw [if_pos hr] at h1 h3
            obtain ⟨hg, hv⟩ := askedB_parts ha
            obtain ⟨g1, g2, g3⟩ := givensB_parts hg
            rw [givF_len] at g2 hv
            have hl' : (givF l' us).length = (givF l us).length := by rw [givF_len, givF_len]
            have g3' := givF_okT hok hin'
            have ha' : askedB s (givF l' us) p = true := by
              unfold askedB givensB
              rw [g1, givF_len, decide_eq_true g2, hv, List.all_eq_true.2 g3']; rfl
            obtain ⟨ok, p1, p2⟩ := validP_parts hv
            have hm := run_mono (s := s) (g := givF l' us) (g' := givF l us) g3' g3 hl' (fun i hi => by
              rw [givF_len] at hi
              rw [List.getD_eq_getElem?_getD, List.getElem?_eq_getElem (by rw [givF_len]; exact hi), List.getD_eq_getElem?_getD, List.getElem?_eq_getElem (by rw [givF_len]; exact hi), Option.getD_some, Option.getD_some]
              unfold givF
              rw [List.getElem_map, List.getElem_map, ← atN_map hnm]
              exact hI _ (inAll_lt hin (List.getElem_mem hi))) p [] [] (fun t h => by cases h) (fun t h => by cases h) rfl (fun i h => by cases h) (by rw [givF_len]; exact ok) hr
            have hro := runL_okT g3' p [] (fun t h => by cases h) (by rw [givF_len]; exact ok)
            unfold saysE
            rw [if_pos ha']
            unfold runR at hnb
            rw [if_pos ha'] at hnb
            rcases hm with hm | hm | ⟨m1, m2, m3⟩
            · rw [if_neg (by omega)] at hnb; exact (hnb ⟨hin, e0, .inl hm⟩).elim
            · rw [if_neg (by omega)] at hnb; exact (hnb ⟨hin, e0, .inr hm⟩).elim
            · have hlen := hro.2.1 m1
              rw [if_pos m1, if_pos rfl]
              simp only [List.length_nil] at hlen
              have h4 : okT s ((runL s (givF l' us) p []).1.getLastD []) = true := by
                rw [lstD_getD]
                exact hro.1 _ (getD_mem [] (by omega))
              simp only [Bool.and_eq_true]
              refine ⟨⟨h4, h2⟩, instB_iff.2 (insTrans (b := (runL s (givF l us) p []).1.getLastD []) ?_ (instB_iff.1 h3))⟩
              rw [lstD_getD, lstD_getD, ← m2]
              exact m3 _ (by omega)
          · rw [if_neg hr] at hz; exact (hr hz).elim
        · rw [if_neg ha] at hz; cases hz
      · rw [if_neg hz] at h; cases h
    · rw [if_neg hin] at h; cases h
end Go.Proofs.YtpmnnoopoblpgaaGreat

/- Facts of the program's types that the rows over the kernel want; the start of a row that lists variables. -/
namespace Go.Proofs.YtpmnnoopoblpgaaGreat
open Go Go.RowKit Go.ChangeShapes Go.WideShapes Go.ChangeAt Go.Deep

theorem gives3 {P : Program} {t : TypeId} {α β γ : Type} {E : Enc α} {F : Enc β} {G : Enc γ} {f0 f1 f2 : Field} (ht : P.underlying t = some (.struct #[f0, f1, f2])) (h0 : f0.offset = 0) (h1 : f1.offset = E.size) (h2 : f2.offset = E.size + F.size) (hc : P.cellsOf t = E.size + (F.size + G.size))
    (hc0 : P.cellsOf f0.type = E.size) (hc1 : P.cellsOf f1.type = F.size) (hc2 : P.cellsOf f2.type = G.size) (g0 : Gives P f0.type E) (g1 : Gives P f1.type F) (g2 : Gives P f2.type G) : Gives P t (pairE E (pairE F G)) := by
  intro H enc w base spare held n cs x h
  obtain ⟨y0, y1, y2, n', _, hl, r0, r1, r2⟩ := trod_struct3 ht h
  obtain ⟨a, ha⟩ := g0 H enc w base spare held n' _ _ r0
  obtain ⟨b, hb⟩ := g1 H enc w base spare held n' _ _ r1
  obtain ⟨c, hcc⟩ := g2 H enc w base spare held n' _ _ r2
  refine ⟨(a, b, c), _, _, ?_, ha, _, _, rfl, hb, hcc⟩
  rw [h0, h1, h2, hc0, hc1, hc2, List.drop_zero]
  have e1 : (cs.drop (E.size + F.size)).take G.size = cs.drop (E.size + F.size) := List.take_of_length_le (by simp; omega)
  rw [e1, ← List.drop_drop, List.take_append_drop, List.take_append_drop]
theorem gStp : Gives Tryz.prog 117 stpE := gives3 Tryz.underlying117 rfl rfl rfl (by kernel_rfl) (by kernel_rfl) (by kernel_rfl) (by kernel_rfl) gInt gInt gInt
theorem gSteps : Gives Tryz.prog 35 (slE stpE) := gives_slice Tryz.underlying35 (by kernel_rfl) gStp
theorem gives_array2 {P : Program} {t e : TypeId} {α : Type} {E : Enc α} (ht : P.underlying t = some (.array 2 e)) (hc : P.cellsOf t = E.size + E.size) (he : P.cellsOf e = E.size) (g : Gives P e E) : Gives P t (pairE E E) := by
  intro H enc w base spare held n cs x h
  obtain ⟨xs, m, _, _, hl, hx, hf⟩ := DataW.trod_array ht h
  match xs, hx with
  | [x0, x1], _ =>
    obtain ⟨a, ha⟩ := g H enc w base spare held m _ _ (hf 0 (by omega))
    obtain ⟨b, hb⟩ := g H enc w base spare held m _ _ (hf 1 (by omega))
    refine ⟨(a, b), _, _, ?_, ha, hb⟩
    rw [he, Nat.zero_mul, Nat.one_mul, List.drop_zero]
    have e1 : (cs.drop E.size).take E.size = cs.drop E.size := List.take_of_length_le (by simp; omega)
    rw [e1, List.take_append_drop]
end Go.Proofs.YtpmnnoopoblpgaaGreat

/- Facts of the program's types that the rows over libraries want. -/
namespace Go.Proofs.YtpmnnoopoblpgaaGreat
open Go Go.RowKit Go.ChangeShapes Go.WideShapes Go.ChangeAt Go.Deep

theorem gives5 {P : Program} {t : TypeId} {α β γ δ ε : Type} {E : Enc α} {F : Enc β} {G : Enc γ} {J : Enc δ} {K : Enc ε} {f0 f1 f2 f3 f4 : Field} (ht : P.underlying t = some (.struct #[f0, f1, f2, f3, f4])) (h0 : f0.offset = 0) (h1 : f1.offset = E.size) (h2 : f2.offset = E.size + F.size) (h3 : f3.offset = E.size + F.size + G.size) (h4 : f4.offset = E.size + F.size + G.size + J.size)
    (hc : P.cellsOf t = E.size + (F.size + (G.size + (J.size + K.size)))) (hc0 : P.cellsOf f0.type = E.size) (hc1 : P.cellsOf f1.type = F.size) (hc2 : P.cellsOf f2.type = G.size) (hc3 : P.cellsOf f3.type = J.size) (hc4 : P.cellsOf f4.type = K.size)
    (g0 : Gives P f0.type E) (g1 : Gives P f1.type F) (g2 : Gives P f2.type G) (g3 : Gives P f3.type J) (g4 : Gives P f4.type K) : Gives P t (pairE E (pairE F (pairE G (pairE J K)))) := by
  intro H enc w base spare held n cs x h
  obtain ⟨xs, n', _, rfl, hl, hlen, hf⟩ := DataW.trod_struct ht h
  match xs, hlen with
  | [y0, y1, y2, y3, y4], _ =>
    have r0 := hf 0 f0 rfl
    have r1 := hf 1 f1 rfl
    have r2 := hf 2 f2 rfl
    have r3 := hf 3 f3 rfl
    have r4 := hf 4 f4 rfl
    simp only [List.getElem?_cons_zero, List.getElem?_cons_succ] at r0 r1 r2 r3 r4
    obtain ⟨a, ha⟩ := g0 H enc w base spare held n' _ _ r0
    obtain ⟨b, hb⟩ := g1 H enc w base spare held n' _ _ r1
    obtain ⟨c, hcc⟩ := g2 H enc w base spare held n' _ _ r2
    obtain ⟨d, hd⟩ := g3 H enc w base spare held n' _ _ r3
    obtain ⟨e, he⟩ := g4 H enc w base spare held n' _ _ r4
    refine ⟨(a, b, c, d, e), _, _, ?_, ha, _, _, rfl, hb, _, _, rfl, hcc, _, _, rfl, hd, he⟩
    rw [h0, h1, h2, h3, h4, hc0, hc1, hc2, hc3, hc4, List.drop_zero]
    have e1 : (cs.drop (E.size + F.size + G.size + J.size)).take K.size = cs.drop (E.size + F.size + G.size + J.size) := List.take_of_length_le (by simp; omega)
    have e2 : cs.drop (E.size + F.size + G.size + J.size) = (cs.drop (E.size + F.size + G.size)).drop J.size := by rw [List.drop_drop]
    have e3 : cs.drop (E.size + F.size + G.size) = (cs.drop (E.size + F.size)).drop G.size := by rw [List.drop_drop]
    have e4 : cs.drop (E.size + F.size) = (cs.drop E.size).drop F.size := by rw [List.drop_drop]
    rw [e1, e2, List.take_append_drop, e3, List.take_append_drop, e4, List.take_append_drop, List.take_append_drop]
theorem gStrs : Gives Tryz.prog 29 (slE strE) := gives_slice Tryz.underlying29 (by kernel_rfl) gStr
theorem gEnt : Gives Tryz.prog 37 entE := gives5 Tryz.underlying37 rfl rfl rfl rfl rfl (by kernel_rfl) (by kernel_rfl) (by kernel_rfl) (by kernel_rfl) (by kernel_rfl) (by kernel_rfl) gStr gStr gTerm gStrs gSteps
theorem gLib : Gives Tryz.prog 24 (slE entE) := gives_slice Tryz.underlying24 (by kernel_rfl) gEnt
end Go.Proofs.YtpmnnoopoblpgaaGreat

/- Walks: heavy. -/
namespace Go.Proofs.YtpmnnoopoblpgaaGreat
open Go Go.RowKit Go.Maps

def hvRel (l : List Ent) (w : World) (i : Value) (wr : World) : Prop := ∃ k : Nat, i = .int .i64 k ∧ k ≤ l.length ∧ Below w.heap.size w wr
def hvRel2 (N : Nat) (w : World) (i : Value) (wr : World) : Prop := ∃ j : Nat, i = .int .i64 j ∧ j ≤ N ∧ Below w.heap.size w wr
def HvRet (l : List Ent) (w : World) (e : Ending) (w' : World) : Prop := ∃ r : Bool, e = .returned (.bool r) ∧ (r = false → l.length ≤ 100) ∧ Below w.heap.size w w'
theorem HvRet.t {l : List Ent} {w w' : World} (hb : Below w.heap.size w w') : HvRet l w (.returned (.bool true)) w' := ⟨true, rfl, (fun h => by cases h), hb⟩
set_option maxRecDepth 100000 in
set_option maxHeartbeats 8000000 in
theorem heavy_any {S1 S2 : Nat → Prop} (sa la : Option Addr) (sc lc : Nat) (s : Sg) (l : List Ent) (w : World) (h1 : Sign S1 w sa sc s) (h2 : LibL S2 w la lc l) :
    Calls Tryz.prog 12 #[.slice sa s.length sc, .slice la l.length lc] w (HvRet l w) := by
  have m := h2.le
  have m1 := h1.le
  have h2H := Lib.hid h2
  clear h1 h2
  generalize hns : s.length = ns at *
  clear hns
  by_cases a1 : 20 < ns
  · have b1 : ((20 : Int) < (ns : Int)) = True := eq_true (by omega)
    go_enter Tryz.func12, Tryz.ntmps12
    go_wp2_with fail
    go_ret
    exact HvRet.t (.refl _ _)
  · have b1 : ((20 : Int) < (ns : Int)) = False := eq_false (by omega)
    by_cases a2 : 10 < l.length
    · have b2 : ((10 : Int) < (l.length : Int)) = True := eq_true (by omega)
      by_cases a3 : l.length ≤ 60
      · have b3 : ((l.length : Int) ≤ 60) = True := eq_true (by omega)
        go_enter Tryz.func12, Tryz.ntmps12
        go_wp2_with fail
        go_ret
        exact HvRet.t (.refl _ _)
      · have b3 : ((l.length : Int) ≤ 60) = False := eq_false (by omega)
        by_cases a4 : 100 < l.length
        · have b4 : ((100 : Int) < (l.length : Int)) = True := eq_true (by omega)
          go_enter Tryz.func12, Tryz.ntmps12
          go_wp2_with fail
          go_ret
          exact HvRet.t (.refl _ _)
        · have b4 : ((100 : Int) < (l.length : Int)) = False := eq_false (by omega)
          go_enter Tryz.func12, Tryz.ntmps12
          have hl100 := Lib.hid (show l.length ≤ 100 by omega)
          go_wp2_with fail
          go_loopw [5] (fun i wr => hvRel l w i wr) (fun i _ => l.length - (intOf i).toNat)
          case atStart => exact ⟨0, rfl, Nat.zero_le _, .refl _ _⟩
          case round =>
            obtain ⟨k, rfl, hk, hB⟩ := hrel
            by_cases hlt : k < l.length
            · obtain ⟨b, off, a1, c1, a2, c2, a3, c3, rfl, -, s0, s1, s2, s3, s4, z1, z2, hI, hU, hP⟩ := (h2H.out.below hB).ent k hlt
              obtain ⟨W, hW⟩ : ∃ W, wr.alloc (.cells #[.string (eNm l[k]), .string (eBy l[k]), .slice a1 (eSays l[k]).length c1, .slice a2 (eUses l[k]).length c2, .slice a3 (ePf l[k]).length c3] 37) = W := ⟨_, rfl⟩
              have hBW : Below wr.heap.size wr W := by rw [← hW]; exact below1 wr _
              have p0 : W.cell? ⟨wr.heap.size, 0, none⟩ = some (.string (eNm l[k])) := by rw [← hW]; clear hW; go_simp
              have p1 : W.cell? ⟨wr.heap.size, 1, none⟩ = some (.string (eBy l[k])) := by rw [← hW]; clear hW; go_simp
              have p2 : W.cell? ⟨wr.heap.size, 2, none⟩ = some (.slice a1 (eSays l[k]).length c1) := by rw [← hW]; clear hW; go_simp
              have q3 : W.cell? ⟨wr.heap.size, 3, none⟩ = some (.slice a2 (eUses l[k]).length c2) := by rw [← hW]; clear hW; go_simp
              have p4 : W.cell? ⟨wr.heap.size, 4, none⟩ = some (.slice a3 (ePf l[k]).length c3) := by rw [← hW]; clear hW; go_simp
              have hUW := hU.below hBW
              obtain ⟨us, hus⟩ : ∃ us, eUses l[k] = us := ⟨_, rfl⟩
              rw [hus] at hUW s3 q3 hW
              obtain ⟨n2, hn2⟩ : ∃ n2, us.length = n2 := ⟨_, rfl⟩
              have hm2 := hUW.le
              rw [hn2] at s3 q3 hW hm2
              have hUH := Lib.hid hUW
              have husH := Lib.hid hn2
              have hB2H := Lib.hid (bcall hB hBW)
              have m3 := hI.le
              have m4 := hP.le
              clear hI hU hP hUW hB hBW hus hn2
              generalize eNm l[k] = nm at *
              generalize eBy l[k] = bn at *
              generalize (eSays l[k]).length = n1 at *
              generalize (ePf l[k]).length = n3 at *
              unfold big at z1 z2
              by_cases x0 : 100 < nm.size
              · have y0 : ((100 : Int) < (nm.size : Int)) = True := eq_true (by omega)
                go_wp2_with fail
                go_ret
                exact HvRet.t hB2H.out
              · have y0 : ((100 : Int) < (nm.size : Int)) = False := eq_false (by omega)
                by_cases x1 : 100 < bn.size
                · have y1 : ((100 : Int) < (bn.size : Int)) = True := eq_true (by omega)
                  go_wp2_with fail
                  go_ret
                  exact HvRet.t hB2H.out
                · have y1 : ((100 : Int) < (bn.size : Int)) = False := eq_false (by omega)
                  by_cases x2 : 100 < n1
                  · have y2 : ((100 : Int) < (n1 : Int)) = True := eq_true (by omega)
                    go_wp2_with fail
                    go_ret
                    exact HvRet.t hB2H.out
                  · have y2 : ((100 : Int) < (n1 : Int)) = False := eq_false (by omega)
                    by_cases x3 : 20 < n2
                    · have y3 : ((20 : Int) < (n2 : Int)) = True := eq_true (by omega)
                      go_wp2_with fail
                      go_ret
                      exact HvRet.t hB2H.out
                    · have y3 : ((20 : Int) < (n2 : Int)) = False := eq_false (by omega)
                      by_cases x5 : 12 < n3
                      · have y5 : ((12 : Int) < (n3 : Int)) = True := eq_true (by omega)
                        by_cases x6 : n3 ≤ 60
                        · have y6 : ((n3 : Int) ≤ 60) = True := eq_true (by omega)
                          go_wp2_with fail
                          go_ret
                          exact HvRet.t hB2H.out
                        · have y6 : ((n3 : Int) ≤ 60) = False := eq_false (by omega)
                          by_cases x7 : 100 < n3
                          · have y7 : ((100 : Int) < (n3 : Int)) = True := eq_true (by omega)
                            go_wp2_with fail
                            go_ret
                            exact HvRet.t hB2H.out
                          · have y7 : ((100 : Int) < (n3 : Int)) = False := eq_false (by omega)
                            go_wp2_with fail
                            clear p0 p1 p2 p4
                            go_loopw [7] (fun i wr => hvRel2 n2 W i wr) (fun i _ => n2 - (intOf i).toNat)
                            case atStart => exact ⟨0, rfl, Nat.zero_le _, .refl _ _⟩
                            case round =>
                              obtain ⟨j, rfl, hj, hBj⟩ := hrel
                              have r3 := cell_later hBj q3
                              by_cases hjl : j < n2
                              · obtain ⟨b2, o2, rfl, -, qu, hzu⟩ := (hUH.out.below hBj).str j (by have := husH.out; omega)
                                generalize us[j]'(by have := husH.out; omega) = u at qu hzu
                                by_cases hu : 100 < u.size
                                · have hui : ((100 : Int) < (u.size : Int)) = True := eq_true (by omega)
                                  have hBH := Lib.hid (bcall hB2H.out hBj)
                                  clear hBj
                                  go_wp2_with fail
                                  go_ret
                                  exact HvRet.t hBH.out
                                · have hui : ((100 : Int) < (u.size : Int)) = False := eq_false (by omega)
                                  have hfin := Lib.hid (show hvRel2 n2 W (.int .i64 ((j : Int) + 1)) wr from ⟨j + 1, by simp, hjl, hBj⟩)
                                  clear hBj
                                  go_wp2_with fail
                                  go_roundw
                                  case rel => exact hfin.out
                                  case measure => simp [intOf]; omega
                              · have hjj : ((j : Int) < (n2 : Int)) = False := eq_false (by omega)
                                have hfin := Lib.hid (show hvRel l w (.int .i64 ((k : Int) + 1)) wr from ⟨k + 1, by simp, hlt, bcall hB2H.out hBj⟩)
                                clear hBj hjl hj
                                go_wp2_with fail
                                go_roundw
                                case rel => exact hfin.out
                                case measure => simp [intOf]; omega
                      · have y5 : ((12 : Int) < (n3 : Int)) = False := eq_false (by omega)
                        have y7 : ((100 : Int) < (n3 : Int)) = False := eq_false (by omega)
                        go_wp2_with fail
                        clear p0 p1 p2 p4
                        go_loopw [7] (fun i wr => hvRel2 n2 W i wr) (fun i _ => n2 - (intOf i).toNat)
                        case atStart => exact ⟨0, rfl, Nat.zero_le _, .refl _ _⟩
                        case round =>
                          obtain ⟨j, rfl, hj, hBj⟩ := hrel
                          have r3 := cell_later hBj q3
                          by_cases hjl : j < n2
                          · obtain ⟨b2, o2, rfl, -, qu, hzu⟩ := (hUH.out.below hBj).str j (by have := husH.out; omega)
                            generalize us[j]'(by have := husH.out; omega) = u at qu hzu
                            by_cases hu : 100 < u.size
                            · have hui : ((100 : Int) < (u.size : Int)) = True := eq_true (by omega)
                              have hBH := Lib.hid (bcall hB2H.out hBj)
                              clear hBj
                              go_wp2_with fail
                              go_ret
                              exact HvRet.t hBH.out
                            · have hui : ((100 : Int) < (u.size : Int)) = False := eq_false (by omega)
                              have hfin := Lib.hid (show hvRel2 n2 W (.int .i64 ((j : Int) + 1)) wr from ⟨j + 1, by simp, hjl, hBj⟩)
                              clear hBj
                              go_wp2_with fail
                              go_roundw
                              case rel => exact hfin.out
                              case measure => simp [intOf]; omega
                          · have hjj : ((j : Int) < (n2 : Int)) = False := eq_false (by omega)
                            have hfin := Lib.hid (show hvRel l w (.int .i64 ((k : Int) + 1)) wr from ⟨k + 1, by simp, hlt, bcall hB2H.out hBj⟩)
                            clear hBj hjl hj
                            go_wp2_with fail
                            go_roundw
                            case rel => exact hfin.out
                            case measure => simp [intOf]; omega
            · have hkk : ((k : Int) < (l.length : Int)) = False := eq_false (by omega)
              have hBH := Lib.hid hB
              clear hB hlt hk
              go_wp2_with fail
              go_ret
              exact ⟨false, rfl, fun _ => hl100.out, hBH.out⟩
    · have b2 : ((10 : Int) < (l.length : Int)) = False := eq_false (by omega)
      have b4 : ((100 : Int) < (l.length : Int)) = False := eq_false (by omega)
      go_enter Tryz.func12, Tryz.ntmps12
      have hl100 := Lib.hid (show l.length ≤ 100 by omega)
      go_wp2_with fail
      go_loopw [5] (fun i wr => hvRel l w i wr) (fun i _ => l.length - (intOf i).toNat)
      case atStart => exact ⟨0, rfl, Nat.zero_le _, .refl _ _⟩
      case round =>
        obtain ⟨k, rfl, hk, hB⟩ := hrel
        by_cases hlt : k < l.length
        · obtain ⟨b, off, a1, c1, a2, c2, a3, c3, rfl, -, s0, s1, s2, s3, s4, z1, z2, hI, hU, hP⟩ := (h2H.out.below hB).ent k hlt
          obtain ⟨W, hW⟩ : ∃ W, wr.alloc (.cells #[.string (eNm l[k]), .string (eBy l[k]), .slice a1 (eSays l[k]).length c1, .slice a2 (eUses l[k]).length c2, .slice a3 (ePf l[k]).length c3] 37) = W := ⟨_, rfl⟩
          have hBW : Below wr.heap.size wr W := by rw [← hW]; exact below1 wr _
          have p0 : W.cell? ⟨wr.heap.size, 0, none⟩ = some (.string (eNm l[k])) := by rw [← hW]; clear hW; go_simp
          have p1 : W.cell? ⟨wr.heap.size, 1, none⟩ = some (.string (eBy l[k])) := by rw [← hW]; clear hW; go_simp
          have p2 : W.cell? ⟨wr.heap.size, 2, none⟩ = some (.slice a1 (eSays l[k]).length c1) := by rw [← hW]; clear hW; go_simp
          have q3 : W.cell? ⟨wr.heap.size, 3, none⟩ = some (.slice a2 (eUses l[k]).length c2) := by rw [← hW]; clear hW; go_simp
          have p4 : W.cell? ⟨wr.heap.size, 4, none⟩ = some (.slice a3 (ePf l[k]).length c3) := by rw [← hW]; clear hW; go_simp
          have hUW := hU.below hBW
          obtain ⟨us, hus⟩ : ∃ us, eUses l[k] = us := ⟨_, rfl⟩
          rw [hus] at hUW s3 q3 hW
          obtain ⟨n2, hn2⟩ : ∃ n2, us.length = n2 := ⟨_, rfl⟩
          have hm2 := hUW.le
          rw [hn2] at s3 q3 hW hm2
          have hUH := Lib.hid hUW
          have husH := Lib.hid hn2
          have hB2H := Lib.hid (bcall hB hBW)
          have m3 := hI.le
          have m4 := hP.le
          clear hI hU hP hUW hB hBW hus hn2
          generalize eNm l[k] = nm at *
          generalize eBy l[k] = bn at *
          generalize (eSays l[k]).length = n1 at *
          generalize (ePf l[k]).length = n3 at *
          unfold big at z1 z2
          by_cases x0 : 100 < nm.size
          · have y0 : ((100 : Int) < (nm.size : Int)) = True := eq_true (by omega)
            go_wp2_with fail
            go_ret
            exact HvRet.t hB2H.out
          · have y0 : ((100 : Int) < (nm.size : Int)) = False := eq_false (by omega)
            by_cases x1 : 100 < bn.size
            · have y1 : ((100 : Int) < (bn.size : Int)) = True := eq_true (by omega)
              go_wp2_with fail
              go_ret
              exact HvRet.t hB2H.out
            · have y1 : ((100 : Int) < (bn.size : Int)) = False := eq_false (by omega)
              by_cases x2 : 100 < n1
              · have y2 : ((100 : Int) < (n1 : Int)) = True := eq_true (by omega)
                go_wp2_with fail
                go_ret
                exact HvRet.t hB2H.out
              · have y2 : ((100 : Int) < (n1 : Int)) = False := eq_false (by omega)
                by_cases x3 : 20 < n2
                · have y3 : ((20 : Int) < (n2 : Int)) = True := eq_true (by omega)
                  go_wp2_with fail
                  go_ret
                  exact HvRet.t hB2H.out
                · have y3 : ((20 : Int) < (n2 : Int)) = False := eq_false (by omega)
                  by_cases x5 : 12 < n3
                  · have y5 : ((12 : Int) < (n3 : Int)) = True := eq_true (by omega)
                    by_cases x6 : n3 ≤ 60
                    · have y6 : ((n3 : Int) ≤ 60) = True := eq_true (by omega)
                      go_wp2_with fail
                      go_ret
                      exact HvRet.t hB2H.out
                    · have y6 : ((n3 : Int) ≤ 60) = False := eq_false (by omega)
                      by_cases x7 : 100 < n3
                      · have y7 : ((100 : Int) < (n3 : Int)) = True := eq_true (by omega)
                        go_wp2_with fail
                        go_ret
                        exact HvRet.t hB2H.out
                      · have y7 : ((100 : Int) < (n3 : Int)) = False := eq_false (by omega)
                        go_wp2_with fail
                        clear p0 p1 p2 p4
                        go_loopw [7] (fun i wr => hvRel2 n2 W i wr) (fun i _ => n2 - (intOf i).toNat)
                        case atStart => exact ⟨0, rfl, Nat.zero_le _, .refl _ _⟩
                        case round =>
                          obtain ⟨j, rfl, hj, hBj⟩ := hrel
                          have r3 := cell_later hBj q3
                          by_cases hjl : j < n2
                          · obtain ⟨b2, o2, rfl, -, qu, hzu⟩ := (hUH.out.below hBj).str j (by have := husH.out; omega)
                            generalize us[j]'(by have := husH.out; omega) = u at qu hzu
                            by_cases hu : 100 < u.size
                            · have hui : ((100 : Int) < (u.size : Int)) = True := eq_true (by omega)
                              have hBH := Lib.hid (bcall hB2H.out hBj)
                              clear hBj
                              go_wp2_with fail
                              go_ret
                              exact HvRet.t hBH.out
                            · have hui : ((100 : Int) < (u.size : Int)) = False := eq_false (by omega)
                              have hfin := Lib.hid (show hvRel2 n2 W (.int .i64 ((j : Int) + 1)) wr from ⟨j + 1, by simp, hjl, hBj⟩)
                              clear hBj
                              go_wp2_with fail
                              go_roundw
                              case rel => exact hfin.out
                              case measure => simp [intOf]; omega
                          · have hjj : ((j : Int) < (n2 : Int)) = False := eq_false (by omega)
                            have hfin := Lib.hid (show hvRel l w (.int .i64 ((k : Int) + 1)) wr from ⟨k + 1, by simp, hlt, bcall hB2H.out hBj⟩)
                            clear hBj hjl hj
                            go_wp2_with fail
                            go_roundw
                            case rel => exact hfin.out
                            case measure => simp [intOf]; omega
                  · have y5 : ((12 : Int) < (n3 : Int)) = False := eq_false (by omega)
                    have y7 : ((100 : Int) < (n3 : Int)) = False := eq_false (by omega)
                    go_wp2_with fail
                    clear p0 p1 p2 p4
                    go_loopw [7] (fun i wr => hvRel2 n2 W i wr) (fun i _ => n2 - (intOf i).toNat)
                    case atStart => exact ⟨0, rfl, Nat.zero_le _, .refl _ _⟩
                    case round =>
                      obtain ⟨j, rfl, hj, hBj⟩ := hrel
                      have r3 := cell_later hBj q3
                      by_cases hjl : j < n2
                      · obtain ⟨b2, o2, rfl, -, qu, hzu⟩ := (hUH.out.below hBj).str j (by have := husH.out; omega)
                        generalize us[j]'(by have := husH.out; omega) = u at qu hzu
                        by_cases hu : 100 < u.size
                        · have hui : ((100 : Int) < (u.size : Int)) = True := eq_true (by omega)
                          have hBH := Lib.hid (bcall hB2H.out hBj)
                          clear hBj
                          go_wp2_with fail
                          go_ret
                          exact HvRet.t hBH.out
                        · have hui : ((100 : Int) < (u.size : Int)) = False := eq_false (by omega)
                          have hfin := Lib.hid (show hvRel2 n2 W (.int .i64 ((j : Int) + 1)) wr from ⟨j + 1, by simp, hjl, hBj⟩)
                          clear hBj
                          go_wp2_with fail
                          go_roundw
                          case rel => exact hfin.out
                          case measure => simp [intOf]; omega
                      · have hjj : ((j : Int) < (n2 : Int)) = False := eq_false (by omega)
                        have hfin := Lib.hid (show hvRel l w (.int .i64 ((k : Int) + 1)) wr from ⟨k + 1, by simp, hlt, bcall hB2H.out hBj⟩)
                        clear hBj hjl hj
                        go_wp2_with fail
                        go_roundw
                        case rel => exact hfin.out
                        case measure => simp [intOf]; omega
        · have hkk : ((k : Int) < (l.length : Int)) = False := eq_false (by omega)
          have hBH := Lib.hid hB
          clear hB hlt hk
          go_wp2_with fail
          go_ret
          exact ⟨false, rfl, fun _ => hl100.out, hBH.out⟩
end Go.Proofs.YtpmnnoopoblpgaaGreat

/- Walks: Index, Givens of the reference; blocked. -/
namespace Go.Proofs.YtpmnnoopoblpgaaGreat
open Go Go.RowKit Go.Maps

/-- where a name stands, -1 if it is not there -/
def ixN (l : List Ent) (n : ByteArray) : Int := match atN l n with | some i => (i : Int) | none => -1
theorem ixN_some' {l : List Ent} {n : ByteArray} {j : Nat} (h : atN l n = some j) : ixN l n = j := by unfold ixN; rw [h]
theorem ixN_none' {l : List Ent} {n : ByteArray} (h : atN l n = none) : ixN l n = -1 := by unfold ixN; rw [h]
theorem ixN_idx (l : List Ent) (n : ByteArray) : ixN l n = idxE l (fun x => decide (eNm x = n)) := rfl
def rixRel (l : List Ent) (n : ByteArray) (w : World) (i : Value) (wr : World) : Prop := ∃ k : Nat, i = .int .i64 k ∧ k ≤ l.length ∧ (∀ j (hj : j < k) (hl : j < l.length), eNm l[j] ≠ n) ∧ w = wr
set_option maxHeartbeats 1000000 in
theorem rIndex_any {S : Nat → Prop} (a : Option Addr) (c : Nat) (l : List Ent) (n : ByteArray) (w : World) (h : LibL S w a c l) :
    Calls Tryz.prog 14 #[.slice a l.length c, .string n] w fun e w' => e = .returned (.int .i64 (ixN l n)) ∧ w = w' := by
  have m := h.le
  have hH := Lib.hid h
  clear h
  go_enter Tryz.func14, Tryz.ntmps14
  go_wp2_with fail
  go_loopw [5] (fun i wr => rixRel l n w i wr) (fun i _ => l.length - (intOf i).toNat)
  case atStart => exact ⟨0, rfl, Nat.zero_le _, fun j hj => by omega, rfl⟩
  case round =>
    obtain ⟨k, rfl, hk, hno, rfl⟩ := hrel
    by_cases hlt : k < l.length
    · obtain ⟨b, off, a1, c1, a2, c2, a3, c3, rfl, hbB, p0, p1, p2, p3, p4, z1, z2, hI, hU, hP⟩ := hH.out.ent k hlt
      clear p1 p2 p3 p4 hI hU hP z2
      obtain ⟨x, hx⟩ : ∃ x, eNm l[k] = x := ⟨_, rfl⟩
      rw [hx] at p0 z1
      by_cases he : x = n
      · have hq := str_eq he
        have hfin := Lib.hid (show ixN l n = k by rw [ixN_idx]; exact idxE_some hlt (fun j hj => decide_eq_false (hno j hj (by omega))) (decide_eq_true (hx.trans he)))
        clear hno hx he
        go_wp2_with fail
        go_ret
        first | exact ⟨ret_int hfin.out.symm, rfl⟩ | exact ⟨ret_int hfin.out.symm, trivial⟩
      · have hq := str_neq he
        have hfin := Lib.hid (show rixRel l n w (.int .i64 ((k : Int) + 1)) w from ⟨k + 1, by simp, hlt, fun j hj hl => by
          by_cases e : j = k
          · subst e; rw [hx]; exact he
          · exact hno j (by omega) hl, rfl⟩)
        clear hno hx he
        go_wp2_with fail
        go_roundw
        case rel => exact hfin.out
        case measure => simp [intOf]; omega
    · have hkk : ((k : Int) < (l.length : Int)) = False := eq_false (by omega)
      have hfin := Lib.hid (show ixN l n = -1 by rw [ixN_idx]; exact idxE_none (fun j hj => decide_eq_false (hno j (by omega) hj)))
      clear hno hlt hk
      go_wp2_with fail
      go_ret
      first | exact ⟨ret_int hfin.out.symm, rfl⟩ | exact ⟨ret_int hfin.out.symm, trivial⟩
end Go.Proofs.YtpmnnoopoblpgaaGreat

/- If an entry says something more general, nothing breaks but itself. No program is named. -/
namespace Go.Proofs.YtpmnnoopoblpgaaGreat

theorem setSays_getD {l : List Ent} {i k : Nat} {t : List Int} (hk : k < l.length) : (i = k → (setSays l i t).getD k default = (eNm l[k], eBy l[k], t, (eUses l[k], ePf l[k]))) ∧ (i ≠ k → (setSays l i t).getD k default = l[k]) := by
  have hk' : k < (setSays l i t).length := by rw [setSays_len]; exact hk
  rw [getD_at hk']
  exact ⟨fun e => by subst e; exact setSays_self hk hk', fun e => setSays_ne hk e hk'⟩
theorem gen_names {s : Sg} {l : List Ent} {n : ByteArray} {t : List Int} {i : Nat} (hat : atN l n = some i) (hok : okLib s l = true) (hcan : isCanonT s t = true) (hins : Ins s t (eSays (l.getD i default)))
    (hnb : ∀ k, k < l.length → ¬ BlockP s (setSays l i t) k) (x : ByteArray) (hx : chB l (fun k => holdX s l k && !holdX s (setSays l i t) k) x = true) : x = n := by
  obtain ⟨hi, hin⟩ := atN_some hat
  obtain ⟨k, hk, h, e⟩ := chB_iff.1 hx
  rw [Bool.and_eq_true] at h
  by_cases hik : i = k
  · subst hik; rw [← e, hin]
  · exfalso
    have hok2 := (okLib_parts (setSays_ok hok hi hcan)).2.2.1
    have hs := setSays_getD (l := l) (t := t) hk (i := i)
    have := hold_mono (s := s) (l := l) (l' := setSays l i t) setSays_nms.symm hok2 (fun j hj => by
      by_cases e2 : i = j
      · subst e2
        rw [(setSays_getD (l := l) (t := t) hj (i := i)).1 rfl]
        exact hins
      · rw [(setSays_getD (l := l) (t := t) hj (i := i)).2 e2, getD_at hj]
        exact insSelf _) hk (by rw [hs.2 hik, getD_at hk]) (by rw [hs.2 hik, getD_at hk]) (by rw [hs.2 hik, getD_at hk]) (hnb k hk) h.1
    rw [this] at h
    simp at h
theorem asc_one {L : List ByteArray} {n : ByteArray} (hA : AscN L) (h : ∀ x ∈ L, x = n) : L = [] ∨ L = [n] := by
  match L, hA, h with
  | [], _, _ => exact .inl rfl
  | [a], _, h => exact .inr (by rw [h a (by simp)])
  | a :: b :: r, hA, h =>
    have h1 := h a (by simp)
    have h2 := h b (by simp)
    unfold AscN at hA
    rw [List.pairwise_cons] at hA
    have := hA.1 b (by simp)
    rw [h1, h2] at this
    exact (ltN_irr _ this).elim
end Go.Proofs.YtpmnnoopoblpgaaGreat

/- Walks: Givens of the reference; blocked. -/
namespace Go.Proofs.YtpmnnoopoblpgaaGreat
open Go Go.RowKit Go.Maps

def rGivRet (l : List Ent) (us : List ByteArray) (w : World) (e : Ending) (w' : World) : Prop :=
  Below w.heap.size w w' ∧ ((inAll l us = false ∧ e = .returned (.tuple #[.slice none 0 0, .bool false])) ∨ (inAll l us = true ∧ ∃ v, e = .returned (.tuple #[v, .bool true]) ∧ OwnG w.heap.size w' w.heap.size v (givF l us)))
def rgRel (B : Nat) (l : List Ent) (us : List ByteArray) (W0 : World) (i v : Value) (wr : World) : Prop :=
  ∃ k : Nat, i = .int .i64 k ∧ k ≤ us.length ∧ inAll l (us.take k) = true ∧ OwnG B wr W0.heap.size v (givF l (us.take k)) ∧ Below W0.heap.size W0 wr
set_option maxHeartbeats 4000000 in
theorem rGivens_any {S S2 : Nat → Prop} (a : Option Addr) (c : Nat) (l : List Ent) (us : List ByteArray) (nm bn : ByteArray) (n1 n3 : Nat) (a1 a2 a3 : Option Addr) (c1 c2 c3 : Nat) (w : World) (h : LibL S w a c l) (hU : Sl strE S2 w a2 c2 us) (hl : us.length ≤ 60) :
    Calls Tryz.prog 72 #[.slice a l.length c, entV nm bn n1 us.length n3 a1 a2 a3 c1 c2 c3] w (rGivRet l us w) := by
  have m := h.le
  have mu := hU.le
  obtain ⟨W0, hW0⟩ : ∃ W0, w.alloc (.cells #[.string nm, .string bn, .slice a1 n1 c1, .slice a2 us.length c2, .slice a3 n3 c3] 37) = W0 := ⟨_, rfl⟩
  have hB0 : Below w.heap.size w W0 := by rw [← hW0]; exact below1 w _
  have q3 : W0.cell? ⟨w.heap.size, 3, none⟩ = some (.slice a2 us.length c2) := by rw [← hW0]; clear hW0; go_simp
  have hH := Lib.hid (h.lt.below hB0)
  have hUH := Lib.hid (hU.below hB0)
  have hBH := Lib.hid hB0
  clear h hU hB0
  go_enter Tryz.func72, Tryz.ntmps72
  go_wp2_with fail
  try rw [hW0]
  clear hW0
  go_loopw [7, 6] (fun i v wr => rgRel w.heap.size l us W0 i v wr) (fun i _ _ => us.length - (intOf i).toNat)
  case atStart => exact ⟨0, rfl, Nat.zero_le _, rfl, OwnL.nil _ _ _ _ _, .refl _ _⟩
  case round =>
    obtain ⟨k, rfl, hk, hin, ho, hB⟩ := hrel
    have r3 := cell_later hB q3
    by_cases hlt : k < us.length
    · obtain ⟨b2, o2, rfl, -, qu, hzu⟩ := (hUH.out.below hB).str k hlt
      have vi := rIndex_any a c l us[k] wr (hH.out.below hB)
      cases hat : atN l us[k] with
      | none =>
        rw [ixN_none' hat] at vi
        have viH := Lib.hid vi
        have hfin := Lib.hid (show rGivRet l us w (.returned (.tuple #[.slice none 0 0, .bool false])) wr from ⟨bcall hBH.out hB, .inl ⟨inAll_bad hlt hat, rfl⟩⟩)
        clear hin ho hB hat vi
        generalize us[k] = u at *
        go_wp2_with fail
        refine viH.out.mono ?_
        rintro e w1 ⟨rfl, rfl⟩
        go_wp2_with fail
        go_ret2
        exact hfin.out
      | some j =>
        rw [ixN_some' hat] at vi
        have viH := Lib.hid vi
        obtain ⟨hj, -⟩ := atN_some hat
        obtain ⟨b, off, d1, e1, d2, e2, d3, e3, rfl, hbB', s0, s1, s2, s3, s4, -, -, hI, -, -⟩ := (hH.out.below hB).ent j hj
        have hjj : (j : Int) < (l.length : Int) := by omega
        have hj0 : ((j : Int) < 0) = False := eq_false (by omega)
        have hg := givF_take hlt hat hj
        have hin2 : inAll l (us.take (k + 1)) = true := by rw [inAll_take hlt, hin, hat]; rfl
        have hgl : (givF l (us.take k)).length ≤ 60 := by rw [givF_len, List.length_take]; omega
        have hszB := hBH.out.size
        obtain ⟨v', W', hrun, ho', hg2, -⟩ := OwnL.push (P := Tryz.prog) (t := 77) (ty := 77) ho Tryz.underlying77 infoTerm rfl (vs := [.slice d1 (eSays l[j]).length e1]) (x := eSays l[j])
          ⟨d1, e1, rfl, hI.weak (fun b hb => ⟨hb.2, fun e => by have := (OwnL.lt ho b e.symm).1; have := hb.2; omega⟩)⟩ (by omega) (by unfold big; omega) hB.size
        rw [← hg] at ho'
        have hfin := Lib.hid (show rgRel w.heap.size l us W0 (.int .i64 ((k : Int) + 1)) v' W' from ⟨k + 1, by simp, hlt, hin2, ho', hB.grown hg2 hB.size (fun j e => (OwnL.lt ho j e).1)⟩)
        clear hin ho hB hat hg hin2 ho' hg2 hI s0 s1 s3 s4 hgl vi hszB
        generalize us[k] = u at *
        generalize (eSays l[j]).length = n1 at *
        go_wp2_with fail
        refine viH.out.mono ?_
        rintro e w1 ⟨rfl, rfl⟩
        go_wp2_with (at_builtin; refine wpList_append_run rfl _ _ _ rfl rfl rfl hrun ?_)
        go_roundw
        case rel => exact hfin.out
        case measure => simp [intOf]; omega
    · have hkk : ((k : Int) < (us.length : Int)) = False := eq_false (by omega)
      have hkl : k = us.length := by omega
      rw [hkl, List.take_length] at hin ho
      have hfin := Lib.hid (show ∀ v, OwnG w.heap.size wr W0.heap.size v (givF l us) → rGivRet l us w (.returned (.tuple #[v, .bool true])) wr from fun v hv => ⟨bcall hBH.out hB, .inr ⟨hin, v, rfl, OwnL.baseMono hv hBH.out.size⟩⟩)
      have hoH := Lib.hid ho
      clear hin ho hB hlt hk hkl
      go_wp2_with fail
      go_ret2
      exact hfin.out _ hoH.out
open Classical in
noncomputable def blockX (s : Sg) (l : List Ent) : Bool := decide (∃ k, k < l.length ∧ BlockP s l k)
theorem blockX_yes {s : Sg} {l : List Ent} {k : Nat} (hk : k < l.length) (h : BlockP s l k) : blockX s l = true := by
  unfold blockX
  simp only [decide_eq_true_eq]
  exact ⟨k, hk, h⟩
theorem blockX_no {s : Sg} {l : List Ent} : blockX s l = false ↔ ∀ k, k < l.length → ¬ BlockP s l k := by
  unfold blockX
  simp only [decide_eq_false_iff_not, not_exists, not_and]
def blRel (s : Sg) (l : List Ent) (w : World) (i : Value) (wr : World) : Prop := ∃ k : Nat, i = .int .i64 k ∧ k ≤ l.length ∧ (∀ j, j < k → ¬ BlockP s l j) ∧ Below w.heap.size w wr
theorem blRel_next {s : Sg} {l : List Ent} {w wr : World} {k : Nat} (hk : k < l.length) (hno : ∀ j, j < k → ¬ BlockP s l j) (h : ¬ BlockP s l k) (hB : Below w.heap.size w wr) : blRel s l w (.int .i64 ((k : Int) + 1)) wr :=
  ⟨k + 1, by simp, hk, fun j hj => by
    by_cases e : j = k
    · subst e; exact h
    · exact hno j (by omega), hB⟩
set_option maxHeartbeats 4000000 in
theorem blocked_any {S1 S2 : Nat → Prop} (sa la : Option Addr) (sc lc : Nat) (s : Sg) (l : List Ent) (w : World) (h1 : Sign S1 w sa sc s) (h2 : LibL S2 w la lc l) (hok : okLib s l = true) :
    Calls Tryz.prog 16 #[.slice sa s.length sc, .slice la l.length lc] w fun e w' => e = .returned (.bool (blockX s l)) ∧ Below w.heap.size w w' := by
  have m := h2.le
  have m1 := h1.le
  have h1H := Lib.hid h1
  have h2H := Lib.hid h2
  have hokH := Lib.hid hok
  clear h1 h2 hok
  go_enter Tryz.func16, Tryz.ntmps16
  go_wp2_with fail
  go_loopw [5] (fun i wr => blRel s l w i wr) (fun i _ => l.length - (intOf i).toNat)
  case atStart => exact ⟨0, rfl, Nat.zero_le _, fun j hj => by omega, .refl _ _⟩
  case round =>
    obtain ⟨k, rfl, hk, hno, hB⟩ := hrel
    by_cases hlt : k < l.length
    · obtain ⟨b, off, a1, c1, a2, c2, a3, c3, rfl, -, s0, s1, s2, s3, s4, z1, z2, hI, hU, hP⟩ := (h2H.out.below hB).ent k hlt
      have hu12 := (okLib_uses hokH.out (List.getElem_mem hlt)).1
      have vg := rGivens_any (some ⟨b, off, none⟩) lc l (eUses l[k]) (eNm l[k]) (eBy l[k]) (eSays l[k]).length (ePf l[k]).length a1 a2 a3 c1 c2 c3 wr (h2H.out.below hB) hU (by omega)
      have hBl : BlockP s l k ↔ (inAll l (eUses l[k]) = true ∧ ePf l[k] ≠ [] ∧ ((runR s (givF l (eUses l[k])) (ePf l[k])).2.2 = 4 ∨ (runR s (givF l (eUses l[k])) (ePf l[k])).2.2 = 10)) := by unfold BlockP; rw [getD_at hlt]
      have hgl := givF_len l (eUses l[k])
      have hm3 := hP.le
      have vgH := Lib.hid vg
      have hPH := Lib.hid hP
      have hBlH := Lib.hid hBl
      have hnoH := Lib.hid hno
      have hBH := Lib.hid hB
      have hglH := Lib.hid hgl
      have hu12H := Lib.hid hu12
      clear vg hP hBl hno hB hI hU hgl hu12 z1 z2
      generalize eNm l[k] = nm at *
      generalize eBy l[k] = bn at *
      generalize (eSays l[k]).length = n1 at *
      generalize eUses l[k] = us at *
      generalize ePf l[k] = pf at *
      go_wp2_with fail
      refine vgH.out.mono ?_
      rintro e w2 ⟨hb2, hg⟩
      rcases hg with ⟨hin, rfl⟩ | ⟨hin, v, rfl, ho⟩
      · have hfin := Lib.hid (blRel_next hlt hnoH.out (fun h => by rw [(hBlH.out.1 h).1] at hin; cases hin) (bcall hBH.out hb2))
        clear hb2 hin
        go_wp2_with fail
        go_roundw
        case rel => exact hfin.out
        case measure => simp [intOf]; omega
      · have t4 := cell_later hb2 s4
        by_cases hp : pf = []
        · have hz : ((pf.length : Int) == 0) = true := by rw [hp]; rfl
          have hfin := Lib.hid (blRel_next hlt hnoH.out (fun h => (hBlH.out.1 h).2.1 hp) (bcall hBH.out hb2))
          clear hb2 hin ho hp
          go_wp2_with fail
          go_roundw
          case rel => exact hfin.out
          case measure => simp [intOf]; omega
        · have hz : ((pf.length : Int) == 0) = false := by rw [beq_eq_false_iff_ne]; intro e; exact hp (List.length_eq_zero_iff.1 (by omega))
          obtain ⟨ag, cg, rfl, hT⟩ := OwnL.sl ho
          have vr := Run_any sa ag a3 sc cg c3 s (givF l us) pf w2 ((h1H.out.below hBH.out).below hb2) hT (hPH.out.below hb2)
          obtain ⟨r, hr⟩ : ∃ r, runR s (givF l us) pf = r := ⟨_, rfl⟩
          rw [hr] at vr hBlH
          obtain ⟨rl, rn, re⟩ := r
          have hpH := Lib.hid hp
          have hinH := Lib.hid hin
          have vrH := Lib.hid vr
          have hB2H := Lib.hid (bcall hBH.out hb2)
          have hrH := Lib.hid hr
          clear hb2 hin ho hp vr hT hr
          have hgm : (givF l us).length ≤ 60 := by have := hglH.out; have := hu12H.out; omega
          generalize (givF l us).length = ng at *
          go_wp2_with fail
          refine vrH.out.mono ?_
          rintro e w3 ⟨v3, rfl, -, hb3⟩
          have hB3 := bcall hB2H.out hb3
          simp only
          by_cases e4 : re = 4
          · have hx : blockX s l = true := blockX_yes hlt (hBlH.out.2 ⟨hinH.out, hpH.out, .inl e4⟩)
            have hfin := Lib.hid (And.intro (ret_bool hx.symm) hB3)
            have c4 : (re == 4) = true := by rw [e4]; rfl
            clear hb3 hB3 hx e4
            go_wp2_with fail
            go_ret
            exact hfin.out
          · have c4 : (re == 4) = false := by rw [beq_eq_false_iff_ne]; exact e4
            by_cases e10 : re = 10
            · have hx : blockX s l = true := blockX_yes hlt (hBlH.out.2 ⟨hinH.out, hpH.out, .inr e10⟩)
              have hfin := Lib.hid (And.intro (ret_bool hx.symm) hB3)
              have c10 : (re == 10) = true := by rw [e10]; rfl
              clear hb3 hB3 hx e4 e10
              go_wp2_with fail
              go_ret
              exact hfin.out
            · have c10 : (re == 10) = false := by rw [beq_eq_false_iff_ne]; exact e10
              have hfin := Lib.hid (blRel_next hlt hnoH.out (fun h => by rcases (hBlH.out.1 h).2.2 with h | h; exact e4 h; exact e10 h) hB3)
              clear hb3 hB3 e4 e10
              go_wp2_with fail
              go_roundw
              case rel => exact hfin.out
              case measure => simp [intOf]; omega
    · have hkk : ((k : Int) < (l.length : Int)) = False := eq_false (by omega)
      have hx : blockX s l = false := blockX_no.2 (fun j hj => hno j (by omega))
      have hfin := Lib.hid (And.intro (ret_bool hx.symm) hB)
      clear hno hB hlt hk hx
      go_wp2_with fail
      go_ret
      exact hfin.out
end Go.Proofs.YtpmnnoopoblpgaaGreat

/- The law DepsGeneral, walked. -/
namespace Go.Proofs.YtpmnnoopoblpgaaGreat
open Go Go.RowKit Go.Maps

theorem ents_copied {S : Nat → Prop} {a : Option Addr} {c : Nat} {l : List Ent} {w : World} (h : LibL S w a c l) (hl : l.length ≤ 1000) :
    ∃ v' w', (Builtin.append_ #[24, 24] 24 #[.slice (some ⟨w.heap.size, 0, none⟩) 0 0, .slice a l.length c]).run Tryz.prog (w.alloc (.cells #[] 37)) = .ok v' w' ∧ OwnE (fun b => b < w.heap.size) w' w.heap.size v' l ∧ Below w.heap.size w w' := by
  obtain ⟨v', w', hrun, ho, hg, -, -⟩ := (OwnL.made entE (fun b => b < w.heap.size) w w.heap.size 37 (Nat.le_refl _)).append_run (P := Tryz.prog) (t := 24) (ty := 24) Tryz.underlying24 infoEnt rfl (h.lt.below (below1 w (.cells #[] 37)))
    (fun i hi vs hv => entE.mono hv (fun b _ hb => ⟨hb.2, fun e => by simp [Value.ownBlock] at e; have := hb.2; omega⟩) (.refl _ _)) (by simp; omega) (by unfold big; simp; omega) (by simp)
  have hB : Below w.heap.size w w' := (below1 w (.cells #[] 37)).grown hg (by simp) (fun k e => by simp [Value.ownBlock] at e; omega)
  rw [List.nil_append] at ho
  exact ⟨v', w', hrun, ho, hB⟩
set_option maxRecDepth 100000 in
set_option maxHeartbeats 8000000 in
theorem DepsGeneral_walk {S1 S2 S3 : Nat → Prop} (sa : Option Addr) (sc : Nat) (s : Sg) (la : Option Addr) (lc : Nat) (l : List Ent) (n : ByteArray) (ta : Option Addr) (tc : Nat) (t : List Int) (w : World) (h1 : Sign S1 w sa sc s) (h2 : LibL S2 w la lc l) (hn : n.size ≤ big) (h3 : Ints S3 w ta tc t) :
    Calls Tryz.prog 3 #[.slice sa s.length sc, .slice la l.length lc, .string n, .slice ta t.length tc] w fun e w' => e = .returned (.bool true) ∧ Below w.heap.size w w' := by
  have m1 := h1.le
  have m2 := h2.le
  have m3 := h3.le
  have va := Lib.hid (awake6_any w)
  have vh := Lib.hid (fun W (hb : Below w.heap.size w W) => heavy_any sa la sc lc s l W (h1.below hb) (h2.below hb))
  have h1H := Lib.hid h1
  have h2H := Lib.hid h2
  have h3H := Lib.hid h3.lt
  have hnH := Lib.hid hn
  clear h1 h2 h3
  unfold big at hn
  go_enter Tryz.func3, Tryz.ntmps3
  go_wp2_with fail
  refine va.out.mono ?_
  rintro e w1 ⟨rfl, hb1⟩
  have vh1 := Lib.hid (vh.out w1 hb1)
  have hb1H := Lib.hid hb1
  clear hb1
  go_wp2_with fail
  refine vh1.out.mono ?_
  rintro e w2 ⟨r, rfl, hlen, hb2⟩
  have hb2H := Lib.hid (bcall hb1H.out hb2)
  clear hb2
  cases r with
  | true =>
    clear hlen
    go_wp2_with fail
    go_ret
    exact ⟨rfl, hb2H.out⟩
  | false =>
    have hl100 := Lib.hid (hlen rfl)
    clear hlen
    by_cases x1 : 100 < n.size
    · have y1 : ((100 : Int) < (n.size : Int)) = True := eq_true (by omega)
      go_wp2_with fail
      go_ret
      exact ⟨rfl, hb2H.out⟩
    · have y1 : ((100 : Int) < (n.size : Int)) = False := eq_false (by omega)
      by_cases x2 : 100 < t.length
      · have y2 : ((100 : Int) < (t.length : Int)) = True := eq_true (by omega)
        go_wp2_with fail
        go_ret
        exact ⟨rfl, hb2H.out⟩
      · have y2 : ((100 : Int) < (t.length : Int)) = False := eq_false (by omega)
        have vb := Breaks_any sa la ta sc lc tc s l n t hnH.out w2 (h1H.out.below hb2H.out) (h2H.out.below hb2H.out) (h3H.out.below hb2H.out) (by have := hl100.out; omega)
        by_cases hoc : (okLib s l && isCanonT s t) = true
        · cases hat : atN l n with
          | none =>
            have e3 : breaksE s l n t = (fun _ => false, 5) := by unfold breaksE; rw [if_pos hoc, hat]
            rw [e3] at vb
            have vbH := Lib.hid vb
            clear vb e3 hat hoc x1 x2
            go_wp2_with fail
            refine vbH.out.mono ?_
            rintro e w3 ⟨v, L, rfl, -, -, -, hb3⟩
            have hb3H := Lib.hid (bcall hb2H.out hb3)
            clear hb3
            go_wp2_with fail
            go_ret
            exact ⟨rfl, hb3H.out⟩
          | some i =>
            have e3 : breaksE s l n t = (chB l (fun k => holdX s l k && !holdX s (setSays l i t) k), 0) := by unfold breaksE; rw [if_pos hoc, hat]
            rw [e3] at vb
            rw [Bool.and_eq_true] at hoc
            have vbH := Lib.hid vb
            have hatH := Lib.hid hat
            have hokH := Lib.hid hoc
            obtain ⟨hi, -⟩ := atN_some hat
            have hne : l ≠ [] := fun e => by subst e; simp at hi
            have hneH := Lib.hid hne
            clear vb e3 hat hoc x1 x2 hne
            go_wp2_with fail
            refine vbH.out.mono ?_
            rintro e w3 ⟨v, L, rfl, hO, hA, hmem, hb3⟩
            obtain ⟨aL, cL, rfl, hS⟩ := OwnS.strs hO
            have hB3 := bcall hb2H.out hb3
            obtain ⟨v', w4, hrun, ho, hb4⟩ := ents_copied (h2H.out.below hB3) (by have := hl100.out; omega)
            obtain ⟨g, cap, rfl, hg1, hg2⟩ := OwnL.form ho hneH.out
            have hB4 := bcall hB3 hb4
            have vi := rIndex_any la lc l n w4 (h2H.out.below hB4)
            rw [ixN_some' hatH.out] at vi
            obtain ⟨b, off, a1, c1, a2, c2, a3, c3, rfl, hbB, p0, p1, p2, p3, p4, z1, z2, hI, hU, hP⟩ := (h2H.out.below hB4).ent i hi
            have vn := rInstance_any sa ta a1 sc tc c1 s t (eSays l[i]) w4 (h1H.out.below hB4) (h3H.out.below hB4) hI
            have hii : (i : Int) < (l.length : Int) := by omega
            have mS := hS.le
            have hAH := Lib.hid hA
            have hmH := Lib.hid hmem
            have hSH := Lib.hid (hS.lt.below hb4)
            have hrunH := Lib.hid hrun
            have hoH := Lib.hid ho
            have hB4H := Lib.hid hB4
            have hB3H := Lib.hid hB3
            have viH := Lib.hid vi
            have m1I := hI.le
            clear hO hA hmem hb3 hS hrun hb4 hB4 hB3 vi p0 p1 p3 p4 z1 z2 hI hU hP ho
            cases hins : (okT s t && okT s (eSays l[i]) && instB s t (eSays l[i])) with
            | false =>
              rw [hins] at vn
              have vnH := Lib.hid vn
              clear vn hins
              generalize (eSays l[i]).length = n1 at *
              go_wp2_with (at_builtin; refine wpList_append_run rfl _ _ _ rfl rfl rfl hrunH.out ?_)
              refine viH.out.mono ?_
              rintro e w5 ⟨rfl, rfl⟩
              go_wp2_with fail
              refine vnH.out.mono ?_
              rintro e w6 ⟨rfl, hb6⟩
              have hfin := Lib.hid (bcall hB4H.out hb6)
              clear hb6
              go_wp2_with fail
              go_ret
              exact ⟨rfl, hfin.out⟩
            | true =>
              rw [hins] at vn
              have vnH := Lib.hid vn
              have hinsH := Lib.hid hins
              clear vn hins
              obtain ⟨t1, ht1⟩ : ∃ t1, eSays l[i] = t1 := ⟨_, rfl⟩
              have hsayH := Lib.hid ht1
              rw [ht1] at p2 m1I vnH hinsH
              clear ht1
              go_wp2_with (at_builtin; refine wpList_append_run rfl _ _ _ rfl rfl rfl hrunH.out ?_)
              refine viH.out.mono ?_
              rintro e w5 ⟨rfl, rfl⟩
              go_wp2_with fail
              refine vnH.out.mono ?_
              rintro e w6 ⟨rfl, hb6⟩
              have ho6 := OwnL.call hoH.out hb6
              obtain ⟨vv, ec1, ec2⟩ := entSays_cell ho6 i hi
              obtain ⟨ho7, hg7⟩ := OwnE.setSays ho6 i hi (a := ta) (c := tc) (t := t) (((h3H.out.below hB4H.out).below hb6).weak (fun b hb => ⟨Nat.lt_of_lt_of_le hb.2 hB3H.out.size, fun e => by have := hb.2; have := hB3H.out.size; omega⟩))
              obtain ⟨w7, hw7⟩ : ∃ w7, w6.setCell ⟨g, i * 5 + 2, none⟩ (.slice ta t.length tc) = w7 := ⟨_, rfl⟩
              rw [hw7] at ho7 hg7
              have hB6 := bcall hB4H.out hb6
              have hB7 : Below w.heap.size w w7 := hB6.grown hg7 hB6.size (fun k e => by injection e with e; have := hB3H.out.size; omega)
              obtain ⟨al, cl, e1, hlib⟩ := OwnL.sl ho7
              rw [setSays_len] at e1
              injection e1 with e1 _ e2
              subst e1 e2
              have hok7 := setSays_ok hokH.out.1 hi hokH.out.2
              have vk := blocked_any sa (some ⟨g, 0, none⟩) sc cap s (setSays l i t) w7 (h1H.out.below hB7) hlib hok7
              rw [setSays_len] at vk
              have hSl7 := (hSH.out.below hb6).same (w' := w7) (fun b hb hlt => hg7.block b hlt (fun e => by injection e with e; have := hb.2; omega))
              have vkH := Lib.hid vk
              have hS7H := Lib.hid hSl7
              have hB7H := Lib.hid hB7
              have hw7H := Lib.hid hw7
              clear ho6 ho7 hg7 hB6 hB7 hb6 hlib vk hSl7 hw7 hok7
              cases hbx : blockX s (setSays l i t) with
              | true =>
                rw [hbx] at vkH
                clear hbx
                go_wp2_with fail
                rw [hw7H.out]
                refine vkH.out.mono ?_
                rintro e w8 ⟨rfl, hb8⟩
                have hfin := Lib.hid (bcall hB7H.out hb8)
                clear hb8
                go_wp2_with fail
                go_ret
                exact ⟨rfl, hfin.out⟩
              | false =>
                rw [hbx] at vkH
                have hnb : ∀ k, k < l.length → ¬ BlockP s (setSays l i t) k := fun k hk => blockX_no.1 hbx k (by rw [setSays_len]; exact hk)
                have hi1 : Ins s t (eSays (l.getD i default)) := by
                  rw [getD_at hi, hsayH.out]
                  have := hinsH.out
                  simp only [Bool.and_eq_true] at this
                  exact instB_iff.1 this.2
                have hone := asc_one (n := n) hAH.out (fun x hx => gen_names hatH.out hokH.out.1 hokH.out.2 hi1 hnb x ((hmH.out x).1 hx))
                clear hnb hi1 hbx hmH
                rcases hone with rfl | rfl
                · go_wp2_with fail
                  rw [hw7H.out]
                  refine vkH.out.mono ?_
                  rintro e w8 ⟨rfl, hb8⟩
                  have hfin := Lib.hid (bcall hB7H.out hb8)
                  clear hb8
                  go_wp2_with fail
                  go_ret
                  exact ⟨rfl, hfin.out⟩
                · go_wp2_with fail
                  rw [hw7H.out]
                  refine vkH.out.mono ?_
                  rintro e w8 ⟨rfl, hb8⟩
                  have hu := (Sl.new (E := strE) (S := fun _ => False) w8 [[.string n]] [n] 9 rfl (show 1 ≤ big by decide) (fun i h1 h2 => by
                    match i, h1 with
                    | 0, _ => exact ⟨rfl, hnH.out⟩))
                  have hb9 := below1 w8 (.cells #[.string n] 9)
                  have hu' : Sl strE (fun b => False ∨ b = w8.heap.size) (w8.alloc (.cells #[.string n] 9)) (some ⟨w8.heap.size, 0, none⟩) 1 [n] := hu
                  have v9 := SameTexts_any aL (some ⟨w8.heap.size, 0, none⟩) cL 1 [n] [n] (w8.alloc (.cells #[.string n] 9)) ((hS7H.out.below hb8).below hb9) hu'
                  have v9H := Lib.hid v9
                  have hfin := Lib.hid (bcall (bcall hB7H.out hb8) hb9)
                  clear hb8 hu hu' hb9 v9
                  go_wp2_with fail
                  refine v9H.out.mono ?_
                  rintro e w10 ⟨rfl, hd⟩
                  have hfin2 := Lib.hid (bcall hfin.out (hd.below _))
                  clear hd
                  go_wp2_with fail
                  go_ret
                  exact ⟨ret_bool (by simp), hfin2.out⟩
        · have e3 : breaksE s l n t = (fun _ => false, 1) := by unfold breaksE; rw [if_neg hoc]
          rw [e3] at vb
          have vbH := Lib.hid vb
          clear vb e3 hoc x1 x2
          go_wp2_with fail
          refine vbH.out.mono ?_
          rintro e w3 ⟨v, L, rfl, -, -, -, hb3⟩
          have hb3H := Lib.hid (bcall hb2H.out hb3)
          clear hb3
          go_wp2_with fail
          go_ret
          exact ⟨rfl, hb3H.out⟩
end Go.Proofs.YtpmnnoopoblpgaaGreat

/- The statement DepsGeneralSaid: for every input DepsGeneral returns true and leaves its arguments as they were. No condition. -/
namespace Go.Proofs.YtpmnnoopoblpgaaGreat
open Go Go.RowKit Go.ChangeShapes Go.WideShapes Go.ChangeAt

set_option maxRecDepth 100000 in
theorem depsGeneral_lifted (os : Os) (started : os.Started) (H : Type) (enc : TypeId × Value → H) :
    ReturnsInHanded {} Tryz.checked os 3 .any (Rows.depsGeneralSpec.pre6 enc Tryz.prog Tryz.f3 Rows.depsGeneralRow.domain false) (Rows.depsGeneralSpec.post enc Tryz.prog Tryz.f3 false true false false) := by
  refine returnsInHanded_of_change (C := Tryz.checked) Tryz.own started (by kernel_rfl) Tryz.func3
    (ChangeSpec.witness6 (enc := enc) (C := Tryz.checked) false ⟨#[], #[.slice none 0 0, .slice none 0 0, .string ByteArray.empty, .slice none 0 0], []⟩ 8 (by kernel_rfl) (by kernel_rfl) (by kernel_rfl) (by kernel_rfl)) ?_
  intro W base args ds gs before hval0 hW hcnd _
  have hval : ∀ (j : Nat) t v, Tryz.f3.params[j]? = some t → args[j]? = some v → Value.okWide Tryz.prog W .any base t v := hval0
  have hW' := hW
  obtain ⟨p, q, hA0, hV, rfl, hfz, hnd⟩ := hW
  have hA : DataW.TrodAll enc Tryz.prog W 0 (fun _ => true) true Tryz.f3.params.toList args.toList ds p := hA0
  rw [Tryz.params3] at hA hval
  obtain ⟨v0, v1, v2, v3, d0, d1, d2, d3, p0, p1, p2, p3, rfl, rfl, rfl, h0, h1, h2, h3⟩ := trodAll_four hA
  obtain ⟨rfl, rfl⟩ := trodVars_none hV
  clear hA0 hval0
  simp only [List.append_nil] at hW'
  have hlt : ∀ x ∈ p0 ++ (p1 ++ (p2 ++ p3)), x.block < W.heap.size := fun x hx => hW'.lt x (by simpa using hx)
  have keep0 := fun (W' : World) (hn : Below W.heap.size W W') => Below.trod Tryz.laidOut (by kernel_rfl) (of_decide_eq_true (by kernel_rfl)) h0 hn (fun x hx => hlt x (by simp [hx]))
  have keep1 := fun (W' : World) (hn : Below W.heap.size W W') => Below.trod Tryz.laidOut (by kernel_rfl) (of_decide_eq_true (by kernel_rfl)) h1 hn (fun x hx => hlt x (by simp [hx]))
  have keep2 := fun (W' : World) (hn : Below W.heap.size W W') => Below.trod Tryz.laidOut (by kernel_rfl) (of_decide_eq_true (by kernel_rfl)) h2 hn (fun x hx => hlt x (by simp [hx]))
  have keep3 := fun (W' : World) (hn : Below W.heap.size W W') => Below.trod Tryz.laidOut (by kernel_rfl) (of_decide_eq_true (by kernel_rfl)) h3 hn (fun x hx => hlt x (by simp [hx]))
  obtain ⟨l0, a0, c0, rfl, r0⟩ := gSign.arg h0 (okWide_slice Tryz.underlying23 (hval 0 23 v0 rfl rfl))
  obtain ⟨l1, a1, c1, rfl, r1⟩ := gLib.arg h1 (okWide_slice Tryz.underlying24 (hval 1 24 v1 rfl rfl))
  obtain ⟨s2, rfl, rfl, rfl, ws2⟩ := ChangeMaps.open_string Tryz.underlying9 (hval 2 9 v2 rfl rfl) h2
  obtain ⟨l3, a3, c3, rfl, r3⟩ := gTerm.arg h3 (okWide_slice Tryz.underlying26 (hval 3 26 v3 rfl rfl))
  refine (DepsGeneral_walk _ _ _ _ _ _ _ _ _ _ W r0 r1 (by unfold big; unfold maxLen at ws2; omega) r3).mono fun e W' ⟨he, hB⟩ => ?_
  subst he
  exact ⟨_, rfl, _, _, _, [], _, [], hW', trodAll_mk1 (shut_bool Tryz.underlying4 true), trodAll_mk4 (keep0 _ hB) (keep1 _ hB) (keep2 _ hB) (keep3 _ hB), rfl, hB.frame _, fun h => by cases h⟩

/-- DepsGeneral: for every input it returns true, and each argument reads as it did. -/
theorem depsGeneral_holds : Rows.DepsGeneralSaid :=
  OpenClaim.holds_of_wide 3 Tryz.f3 rfl rfl rfl rfl rfl rfl rfl ⟨rfl, rfl, rfl, rfl, rfl⟩ rfl rfl rfl rfl rfl (by kernel_rfl) Tryz.func3 (by kernel_rfl)
    (of_decide_eq_true (by kernel_rfl)) (by unfold Func.isWrapper; rw [if_neg (of_decide_eq_false (by kernel_rfl))]; exact ⟨rfl, rfl⟩)
    (fun os started H enc _ => depsGeneral_lifted os started H enc)
end Go.Proofs.YtpmnnoopoblpgaaGreat
