/- The proof of a statement, some of its texts joined in build order: part P. -/
import Derived.Test.YtpmnnoopoblpgaaGreatMtO
import Derived.Test.YtpmnnoopoblpgaaGreatMtD
import Derived.Lib.SliceRun
import Derived.Deep.RegionLaw
/- A library without one of its entries. No program is named. -/
namespace Go.Proofs.YtpmnnoopoblpgaaGreat

theorem okLib_prts {s : Sg} {l : List Ent} (h : okLib s l = true) : okSign s = true ∧ l.length ≤ 60 ∧ (∀ x ∈ l, okEnt s x = true) ∧ (l.map eNm).Nodup := by
  unfold okLib at h
  simp only [Bool.and_eq_true, decide_eq_true_eq, List.all_eq_true] at h
  exact ⟨h.1, h.2.1, h.2.2.1, h.2.2.2⟩
theorem erase_ok {s : Sg} {l : List Ent} (h : okLib s l = true) (i : Nat) : okLib s (l.eraseIdx i) = true := by
  obtain ⟨h1, h2, h3, h4⟩ := okLib_prts h
  have hs := List.eraseIdx_sublist l i
  unfold okLib
  rw [h1, decide_eq_true (Nat.le_trans hs.length_le h2), decide_eq_true ((hs.map eNm).nodup h4), Bool.true_and, Bool.true_and, Bool.and_true, List.all_eq_true]
  exact fun x hx => h3 x (hs.subset hx)
theorem chB_at {l : List Ent} (hd : (l.map eNm).Nodup) {pd : Nat → Bool} {x : ByteArray} : chB l pd x = (match atN l x with | some i => pd i | none => false) := by
  cases hat : atN l x with
  | none =>
    simp only
    cases h : chB l pd x with
    | false => rfl
    | true =>
      obtain ⟨i, hi, -, e⟩ := chB_iff.1 h
      exact (atN_none hat _ (List.getElem_mem hi) e).elim
  | some i =>
    simp only
    obtain ⟨hi, e⟩ := atN_some hat
    rw [Bool.eq_iff_iff, chB_iff]
    constructor
    · rintro ⟨j, hj, h1, h2⟩
      have := atN_at hd hj
      rw [h2, hat] at this
      injection this with this
      rw [this]; exact h1
    · exact fun h => ⟨i, hi, h, e⟩
/-- what is lost if entry i is not there -/
noncomputable def losB (s : Sg) (l : List Ent) (i : Nat) (x : ByteArray) : Bool := match atN l x, atN (l.eraseIdx i) x with
  | some j, some k => goodB s l j && !goodB s (l.eraseIdx i) k
  | _, _ => false
noncomputable def losesE (s : Sg) (l : List Ent) (n : ByteArray) : (ByteArray → Bool) × Int :=
  if okLib s l = true then (match atN l n with | some i => (losB s l i, 0) | none => (fun _ => false, 5)) else (fun _ => false, 1)
/-- as the program tells it -/
noncomputable def losP (s : Sg) (l : List Ent) (i k : Nat) : Bool := match atN (l.eraseIdx i) (nmI l k) with | some j => goodB s l k && !goodB s (l.eraseIdx i) j | none => false
theorem los_prog {s : Sg} {l : List Ent} (h : okLib s l = true) {i : Nat} : chB l (losP s l i) = losB s l i := by
  obtain ⟨-, -, -, hd⟩ := okLib_prts h
  funext x
  rw [chB_at hd]
  unfold losB losP
  cases hat : atN l x with
  | none => rfl
  | some j =>
    simp only
    rw [(nmI_of hat).2]
    cases atN (l.eraseIdx i) x <;> rfl
end Go.Proofs.YtpmnnoopoblpgaaGreat

/- Walks: Loses of the reference. -/
namespace Go.Proofs.YtpmnnoopoblpgaaGreat
open Go Go.RowKit Go.Maps

theorem Sl.suf {α : Type} {E : Enc α} {S : Nat → Prop} {w : World} {b off c : Nat} {l : List α} (h : Sl E S w (some ⟨b, off, none⟩) c l) (k : Nat) (hk : k ≤ l.length) :
    Sl E S w (if c = k then some ⟨b, off, none⟩ else some ⟨b, off + k * E.size, none⟩) (c - k) (l.drop k) := by
  have hcap := h.cap
  have hmax := h.max
  refine ⟨by rw [List.length_drop]; omega, by omega, (fun e => by split at e <;> cases e), (fun hne => ?_)⟩
  have hlt : k < l.length := by
    rcases Nat.lt_or_ge k l.length with e | e
    · exact e
    · exact (hne (List.drop_eq_nil_of_le e)).elim
  obtain ⟨b', off', ha, hb, hl, hc⟩ := h.dat (fun e => by rw [e] at hlt; simp at hlt)
  have hbo : b' = b ∧ off' = off := by simpa using ha.symm
  obtain ⟨rfl, rfl⟩ := hbo
  refine ⟨b', off' + k * E.size, if_neg (by omega), hb, hl, fun i hi => ?_⟩
  rw [List.length_drop] at hi
  obtain ⟨vs, h1, h2, h3⟩ := hc (k + i) (by omega)
  refine ⟨vs, h1, fun j hj => ?_, by rw [List.getElem_drop]; exact h3⟩
  rw [← h2 j hj, Nat.add_mul, ← Nat.add_assoc]
end Go.Proofs.YtpmnnoopoblpgaaGreat

/- Walks: slices.Delete at entries. -/
namespace Go.Proofs.YtpmnnoopoblpgaaGreat
open Go Go.RowKit Go.Maps

theorem splice_cons {α : Type} (L : List α) (o : Nat) (v : α) (r : List α) (h : o + (r.length + 1) ≤ L.length) : splice (L.set o v) (o + 1) r = splice L o (v :: r) := by
  unfold splice
  have h1 : (L.set o v).take (o + 1) = L.take o ++ [v] := by
    have hl : o < (L.set o v).length := by rw [List.length_set]; omega
    rw [List.take_succ_eq_append_getElem hl, List.getElem_set_self, List.take_set_of_le (Nat.le_refl _)]
  have h2 : (L.set o v).drop (o + 1 + r.length) = L.drop (o + (v :: r).length) := by
    rw [List.length_cons, List.drop_set_of_lt (by omega)]
    congr 1; omega
  rw [h1, h2, List.append_assoc]; rfl
theorem take_splice {α : Type} {L : List α} {m : Nat} {cs : List α} (h : m ≤ L.length) : (splice L m cs).take m = L.take m := by
  unfold splice
  rw [List.take_append_of_le_length (by rw [List.length_take]; omega), List.take_take, Nat.min_self]
theorem heap_setCells {g : Nat} {t : TypeId} {fr : Nat × Nat} : ∀ (vs : List Value) (o : Nat) (cur : Array Value) (w : World), w.heap[g]? = some (.cells cur t fr) → o + vs.length ≤ cur.size → (w.setCells g o vs).heap[g]? = some (.cells (splice cur.toList o vs).toArray t fr)
  | [], o, cur, w, hg, _ => by simpa [World.setCells, splice] using hg
  | v :: r, o, cur, w, hg, h => by
    rw [World.setCells]
    rw [heap_setCells r (o + 1) (cur.setIfInBounds o v) _ (heap_set hg v) (by simp at h ⊢; omega)]
    rw [Array.toList_setIfInBounds, splice_cons _ _ _ _ (by simp at h ⊢; omega)]
theorem gby_setCells (g : Nat) : ∀ (vs : List Value) (o : Nat) (w : World), w.grownBy (w.setCells g o vs) (some g)
  | [], _, w => gby_refl w _
  | v :: r, o, w => gby_trans (gby_set w g o v) (gby_setCells g r (o + 1) _)
def zEnt : List Value := [.string ByteArray.empty, .string ByteArray.empty, .slice none 0 0, .slice none 0 0, .slice none 0 0]
theorem flat_drop {xs : List (List Value)} {n : Nat} (h : ∀ x ∈ xs, x.length = n) (k : Nat) : (xs.drop k).flatten = xs.flatten.drop (k * n) := by
  induction k generalizing xs with
  | zero => simp
  | succ k ih =>
    cases xs with
    | nil => simp
    | cons x r =>
      rw [List.drop_succ_cons, ih (fun y hy => h y (by simp [hy])), List.flatten_cons, List.drop_append, h x (by simp)]
      have : List.drop ((k + 1) * n) x = [] := List.drop_eq_nil_of_le (by rw [h x (by simp), Nat.succ_mul]; omega)
      rw [this, List.nil_append, Nat.succ_mul, Nat.add_sub_cancel]
theorem flat_take' {xs : List (List Value)} {n : Nat} (h : ∀ x ∈ xs, x.length = n) (k : Nat) : (xs.take k).flatten = xs.flatten.take (k * n) := by
  induction k generalizing xs with
  | zero => simp
  | succ k ih =>
    cases xs with
    | nil => simp
    | cons x r =>
      rw [List.take_succ_cons, List.flatten_cons, List.flatten_cons, ih (fun y hy => h y (by simp [hy])), List.take_append, h x (by simp)]
      have : List.take ((k + 1) * n) x = x := List.take_of_length_le (by rw [h x (by simp), Nat.succ_mul]; omega)
      rw [this, Nat.succ_mul, Nat.add_sub_cancel]
set_option maxRecDepth 100000 in
set_option maxHeartbeats 4000000 in
theorem DeleteE_any {S : Nat → Prop} {w : World} {base g cap : Nat} {l : List Ent} (h : OwnE S w base (.slice (some ⟨g, 0, none⟩) l.length cap) l) (hl : l.length ≤ 60) {i : Nat} (hi : i < l.length) :
    Calls Tryz.prog 101 #[.slice (some ⟨g, 0, none⟩) l.length cap, .int .i64 i, .int .i64 ((i : Int) + 1)] w fun e w' =>
      e = .returned (.slice (some ⟨g, 0, none⟩) (l.eraseIdx i).length cap) ∧ OwnE S w' base (.slice (some ⟨g, 0, none⟩) (l.eraseIdx i).length cap) (l.eraseIdx i) ∧ w.grownBy w' (some g) := by
  obtain ⟨xs, ho, hxl, hx⟩ := h
  have hlE : (l.eraseIdx i).length = l.length - 1 := by rw [List.length_eraseIdx]; split <;> omega
  have hln : ∀ x ∈ xs, x.length = 5 := fun x hxm => by
    obtain ⟨k, hk, rfl⟩ := List.getElem_of_mem hxm
    exact entE.len (hx k hk (by omega))
  have hone : ∀ x ∈ xs, ∀ u ∈ x, u.oneCell' = true := fun x hxm => by
    obtain ⟨k, hk, rfl⟩ := List.getElem_of_mem hxm
    exact entE.one (hx k hk (by omega))
  obtain ⟨i0, hi0, hz0, hz1, hz2⟩ := info_parts infoEnt
  rcases ho.2 with ⟨h0, -⟩ | ⟨g', cap', cur, hv, hb, hg, c1, c2, c3, c4⟩
  · cases h0
  injection hv with e1 e2 e3
  injection e1 with e1
  injection e1 with e1
  subst e1 e3
  clear e2
  have c3' : cur.size = cap * 5 := c3
  have c4' : cur.toList.take (l.length * 5) = xs.flatten := c4
  have hfl : xs.flatten.length = l.length * 5 := by rw [flatten_len hln, hxl]
  obtain ⟨news, hnews⟩ : ∃ news, (xs.drop (i + 1)).flatten = news := ⟨_, rfl⟩
  have hnd := flat_drop hln (i + 1)
  rw [hnews] at hnd
  have hnl : news.length = (l.length - (i + 1)) * 5 := by rw [hnd, List.length_drop, hfl, ← Nat.sub_mul]
  have hcell : ∀ j, j < l.length * 5 → w.cell? ⟨g, j, none⟩ = xs.flatten[j]? := fun j hj => by
    rw [← c4', List.getElem?_take, if_pos hj]
    have : j < cur.size := by omega
    simp [World.cell?, hg, this]
  have hfro : ∀ j, w.frozen? ⟨g, j, none⟩ = false := fun j => by simp [World.frozen?, hg]
  have s1 : Hid (news.length = (l.length - (i + 1)) * 5) := hnl
  have s2 : Hid (∀ u ∈ news, u.oneCell' = true) := by
    intro u hu
    rw [← hnews] at hu
    obtain ⟨y, hy, hu'⟩ := List.mem_flatten.1 hu
    exact hone y (List.mem_of_mem_drop hy) u hu'
  obtain ⟨A, hA, hsrc⟩ : ∃ A : Addr, (if cap = i + 1 then some (⟨g, 0, none⟩ : Addr) else some ⟨g, (i + 1) * 5, none⟩) = some A ∧ Hid (∀ t u, news[t]? = some u → w.drew.cell? (A.add t) = some u) := by
    by_cases h : cap = i + 1
    · refine ⟨⟨g, 0, none⟩, by simp [h], fun t u hu => ?_⟩
      have h0 : news.length = 0 := by rw [hnl]; omega
      rw [List.length_eq_zero_iff.1 h0] at hu
      simp at hu
    · refine ⟨⟨g, (i + 1) * 5, none⟩, by simp [h], fun t u hu => ?_⟩
      have ht : t < news.length := (List.getElem?_eq_some_iff.1 hu).1
      have hadd : (⟨g, (i + 1) * 5, none⟩ : Addr).add t = ⟨g, (i + 1) * 5 + t, none⟩ := by unfold Addr.add; split <;> simp_all
      rw [hadd]
      have := hcell ((i + 1) * 5 + t) (by omega)
      rw [hnd, List.getElem?_drop] at hu
      exact this.trans hu
  have s3 : Hid (∀ t, t < news.length → (w.drew.cell? ⟨g, 0 + i * 5 + t, none⟩).isSome = true ∧ w.drew.frozen? ⟨g, 0 + i * 5 + t, none⟩ = false) := by
    intro t ht
    rw [Nat.zero_add]
    have := hcell (i * 5 + t) (by omega)
    refine ⟨?_, hfro _⟩
    show (w.cell? _).isSome = true
    rw [this, List.getElem?_eq_getElem (by omega)]; rfl
  obtain ⟨W1, hW1⟩ : ∃ W1, W1 = w.drew.setCells g (0 + i * 5) news := ⟨_, rfl⟩
  have hg1 : W1.heap[g]? = some (.cells (splice cur.toList (i * 5) news).toArray 37 (0, 0)) := by
    rw [hW1, Nat.zero_add]; exact heap_setCells news (i * 5) cur w.drew hg (by rw [hnl]; omega)
  have hgb1 : w.grownBy W1 (some g) := by rw [hW1]; exact gby_trans (gby_below (Below.drew (.refl _ _))) (gby_setCells g news _ _)
  have hsl : (splice cur.toList (i * 5) news).length = cap * 5 := by
    have hcl' : cur.toList.length = cap * 5 := by rw [Array.length_toList]; exact c3'
    rw [length_splice _ _ _ (by rw [hcl', hnl]; omega)]; exact hcl'
  have hgW2 := heap_setCells (g := g) zEnt ((l.length - 1) * 5) (splice cur.toList (i * 5) news).toArray W1 hg1 (by rw [List.size_toArray, hsl]; show (l.length - 1) * 5 + 5 ≤ cap * 5; omega)
  have hgb2 : w.grownBy (W1.setCells g ((l.length - 1) * 5) zEnt) (some g) := gby_trans hgb1 (gby_setCells g zEnt _ _)
  obtain ⟨W2, hW2⟩ : ∃ W2, W1.setCells g ((l.length - 1) * 5) zEnt = W2 := ⟨_, rfl⟩
  rw [hW2] at hgW2 hgb2
  have hfin : OwnE S W2 base (.slice (some ⟨g, 0, none⟩) (l.eraseIdx i).length cap) (l.eraseIdx i) := by
    have hxe : (xs.eraseIdx i).flatten = xs.flatten.take (i * 5) ++ news := by
      rw [List.eraseIdx_eq_take_drop_succ, List.flatten_append, flat_take' hln, hnews]
    have hxel : (xs.eraseIdx i).length = l.length - 1 := by rw [List.length_eraseIdx]; split <;> omega
    refine ⟨xs.eraseIdx i, ⟨?_, .inr ⟨g, cap, _, rfl, hb, hgW2, by omega, c2, ?_, ?_⟩⟩, by rw [hxel, hlE], fun k h1 h2 => ?_⟩
    · rw [flatten_len (fun x hx' => hln x ((List.eraseIdx_sublist xs i).subset hx')), hxel, hlE]; rfl
    · rw [List.size_toArray, length_splice _ _ _ (by show (l.length - 1) * 5 + 5 ≤ _; rw [hsl]; omega), List.toList_toArray, hsl]; rfl
    · rw [hlE, hxe]
      show List.take ((l.length - 1) * 5) _ = _
      rw [List.toList_toArray, List.toList_toArray]
      have e1 : List.take ((l.length - 1) * 5) (splice (splice cur.toList (i * 5) news) ((l.length - 1) * 5) zEnt) = List.take ((l.length - 1) * 5) (splice cur.toList (i * 5) news) := take_splice (by rw [hsl]; omega)
      rw [e1]
      unfold splice
      have e2 : List.take (i * 5) cur.toList = List.take (i * 5) xs.flatten := by rw [← c4', List.take_take]; congr 1; omega
      rw [e2, ← List.append_assoc, List.take_append_of_le_length (by rw [List.length_append, List.length_take, hnl, hfl]; omega)]
      exact List.take_of_length_le (by rw [List.length_append, List.length_take, hnl, hfl]; omega)
    · have hA : Agree (Off S (.slice (some ⟨g, 0, none⟩) l.length cap)) w W2 := .of_grown hgb2 (fun b hb => by have := hb.2; simpa [Value.ownBlock] using this)
      have key : ∀ q (hq1 : q < xs.length) (hq2 : q < l.length), entE.R (Off S (.slice (some ⟨g, 0, none⟩) (l.eraseIdx i).length cap)) W2 xs[q] l[q] := fun q hq1 hq2 => entE.mono (hx q hq1 hq2) (fun _ _ h => h) hA
      rw [List.getElem_eraseIdx, List.getElem_eraseIdx]
      rw [hxel] at h1
      by_cases hk : k < i
      · simp only [hk, ↓reduceDIte]; exact key k (by omega) (by omega)
      · simp only [hk, ↓reduceDIte]; exact key (k + 1) (by omega) (by omega)
  have hcl : ∀ ty, (Builtin.clear_ #[24] ty #[.slice (some ⟨g, (i + (l.length - (i + 1))) * 5, none⟩) (l.length - (i + (l.length - (i + 1)))) (cap - (i + (l.length - (i + 1))))]).run Tryz.prog W1 = .ok (.tuple #[]) W2 := fun ty => by
    rw [show l.length - (i + (l.length - (i + 1))) = 0 + 1 by omega, show i + (l.length - (i + 1)) = l.length - 1 by omega, ← hW2]
    have hst := run_storeCells_cells (P := Tryz.prog) g ((l.length - 1) * 5) zEnt 0 W1 (fun j hj => by
      have hj5 : j < 5 := hj
      have : (l.length - 1) * 5 + j < (splice cur.toList (i * 5) news).length := by rw [hsl]; omega
      simp [World.cell?, hg1, this]) (fun j _ => by simp [World.frozen?, hg1]) (by intro v hv; unfold zEnt at hv; simp at hv; rcases hv with rfl | rfl | rfl <;> rfl)
    have hzc : (Builtin.zeroCells (Value.agg #[.string ⟨#[]⟩, .string ⟨#[]⟩, .slice none 0 0, .slice none 0 0, .slice none 0 0]).cells 1).toList = zEnt := by kernel_rfl
    simp only [Nat.add_zero] at hst
    simp [Builtin.clear_, run_underlying Tryz.underlying24, hzc, hst]
  have hW : Hid (W1 = w.drew.setCells g (0 + i * 5) news) := hW1
  have hfinH := Lib.hid (And.intro hfin hgb2)
  have hlEH := Lib.hid hlE
  have hic : (i : Int) ≤ (cap : Int) := by omega
  have hic2 : (i : Int) + 1 ≤ (l.length : Int) := by omega
  have hic3 : (l.length : Int) ≤ (cap : Int) := by omega
  have hi0' : (0 : Int) ≤ (i : Int) := by omega
  have hi1' : (0 : Int) ≤ (i : Int) + 1 := by omega
  have hi2 : ((i : Int) + 1).toNat = i + 1 := by omega
  have hi3 : (i : Int) ≤ (i : Int) + 1 := by omega
  have hne : ((i : Int) == (i : Int) + 1) = false := by rw [beq_eq_false_iff_ne]; omega
  have hcp : ¬ cap = i + (l.length - (i + 1)) := by omega
  have hk1 : ((i : Int) + ((l.length - (i + 1) : Nat) : Int)) ≤ (l.length : Int) := by omega
  have hcz : ¬ cap = 0 := by omega
  have hcz1 : ¬ 0 = cap := by omega
  clear hW1 hg1 hgb1 hsl hgW2 hgb2 hW2 hfin hcell hfro hnl hnd hnews c4 c4' c3 c3' hg hone hln hx hxl ho hfl hlE c2 hz0 hb
  go_enter Tryz.func101, Tryz.ntmps101
  go_wp2_with fail
  go_region_law (refine step_append_room rfl (.tmp 22) (.tmp 25) 24 rfl 37 i0 5 Tryz.underlying24 hi0 hz1 g 0 i cap (by simp [Act.eval, Act.put]) A (l.length - (i + 1)) (cap - (i + 1)) news (by simp [Act.eval, Act.put]) s1.out hsrc.out s2.out (by omega) s3.out ?_; rw [← hW.out])
  go_wp2_with fail
  go_ret
  exact ⟨by rw [hlEH.out, ← show i + (l.length - (i + 1)) = l.length - 1 by omega]; rfl, hfinH.out⟩
end Go.Proofs.YtpmnnoopoblpgaaGreat

/- Walks: the closure of Loses, and its end. -/
namespace Go.Proofs.YtpmnnoopoblpgaaGreat
open Go Go.RowKit Go.Maps

theorem DOp.lookN {B : Nat} {w : World} {xb : Nat} {s : Sg} {l : List Ent} {sa : Option Addr} {sc : Nat} {la : Option Addr} {lc bm : Nat} (h : DOp B w xb s l sa sc la lc bm) (x : ByteArray) (hx : x.size ≤ big) (m : Nat) :
    (Instr.lookup 68 (.map (some bm)) (.string x) true).run Tryz.prog (w.drewN m) = .ok (.tuple #[.int .i64 (((atN l x).getD 0 : Nat) : Int), .bool (atN l x).isSome]) (w.drewN m) :=
  (h.call (below_drewN (.refl _ _) m)).look x hx
set_option maxHeartbeats 4000000 in
theorem los1_fn {B xb2 b1 b2 b3 b4 : Nat} {w : World} {s : Sg} {l ls : List Ent} {la a1 a2 : Option Addr} {lc c1 c2 : Nat} (h : DLib B w xb2 s ls) (hL : LibL (fun b => b < B) w la lc l) (hb1 : b1 < B) (hb2 : b2 < B) (hb3 : b3 < B) (hb4 : b4 < B)
    (k1 : w.cell? ⟨b1, 0, none⟩ = some (.pointer (some ⟨xb2, 0, none⟩))) (k2 : w.cell? ⟨b2, 0, none⟩ = some (.slice la l.length lc)) (k3 : w.cell? ⟨b3, 0, none⟩ = some (.slice a1 l.length c1)) (k4 : w.cell? ⟨b4, 0, none⟩ = some (.slice a2 ls.length c2))
    (hg1 : Sl boolE (fun b => b < B) w a1 c1 (goodL s l l.length)) (hg2 : Sl boolE (fun b => b < B) w a2 c2 (goodL s ls ls.length)) :
    IxFn 102 #[.pointer (some ⟨b1, 0, none⟩), .pointer (some ⟨b2, 0, none⟩), .pointer (some ⟨b3, 0, none⟩), .pointer (some ⟨b4, 0, none⟩)] l.length (fun k => match atN ls (nmI l k) with | some j => goodB s l k && !goodB s ls j | none => false) B w := by
  refine ⟨enters_of Tryz.func102 (by kernel_rfl) rfl, fun i hi W hB => ?_⟩
  have q1 := (hB.cell (p := ⟨b1, 0, none⟩) hb1).trans k1
  have q2 := (hB.cell (p := ⟨b2, 0, none⟩) hb2).trans k2
  have q3 := (hB.cell (p := ⟨b3, 0, none⟩) hb3).trans k3
  have q4 := (hB.cell (p := ⟨b4, 0, none⟩) hb4).trans k4
  obtain ⟨lb, off, d1, e1, d2, e2, d3, e3, rfl, hlb, p0, p1, p2, p3, p4, z1, z2, hI, hU, hP⟩ := hL.ent i hi
  have s0 := (hB.cell (p := ⟨lb, off + i * 5, none⟩) hlb).trans p0
  obtain ⟨sa', sc', la', lc', bm, hO⟩ := (h.below hB).op
  have o2 := hO.q2
  have hlkN := fun m => hO.lookN (eNm l[i]) z1 m
  obtain ⟨hil, hge⟩ := goodL_getD (s := s) hi
  obtain ⟨gb, go, rfl, hgb, hgc⟩ := hg1.bool i hil
  rw [hge] at hgc
  have s3 := (hB.cell (p := ⟨gb, go + i, none⟩) hgb).trans hgc
  have hii : (i : Int) < (l.length : Int) := by omega
  have hnm := nmI_at hi
  show Calls _ _ _ _ fun e w' => e = .returned (.bool (match atN ls (nmI l i) with | some j => goodB s l i && !goodB s ls j | none => false)) ∧ Below W.heap.size W w'
  rw [hnm]
  obtain ⟨nm, hnme⟩ : ∃ nm, eNm l[i] = nm := ⟨_, rfl⟩
  rw [hnme] at s0 hlkN ⊢
  obtain ⟨x1, hx1⟩ : ∃ x1, goodB s l i = x1 := ⟨_, rfl⟩
  rw [hx1] at s3 ⊢
  cases hat : atN ls nm with
  | none =>
    rw [hat] at hlkN
    simp only [Option.getD_none, Option.isSome_none] at hlkN
    clear hat hO h hL hI hU hP p0 p1 p2 p3 p4 hg1 hg2 hgc hge hil hnm hnme k1 k2 k3 k4 z1 z2 hB
    go_enter Tryz.func102, Tryz.ntmps102
    go_wp2_with fail
    go_quiet (fail)
    all_goals go_wp2_with fail
    all_goals go_ret
    all_goals exact ⟨rfl, below_drewN (.refl _ _) _⟩
  | some j =>
    rw [hat] at hlkN
    simp only [Option.getD_some, Option.isSome_some] at hlkN
    obtain ⟨hj, -⟩ := atN_some hat
    obtain ⟨hjl, hge2⟩ := goodL_getD (s := s) hj
    obtain ⟨gb2, go2, rfl, hgb2, hgc2⟩ := hg2.bool j hjl
    rw [hge2] at hgc2
    have s4 := (hB.cell (p := ⟨gb2, go2 + j, none⟩) hgb2).trans hgc2
    have hjj : (j : Int) < (ls.length : Int) := by omega
    simp only
    obtain ⟨x2, hx2⟩ : ∃ x2, goodB s ls j = x2 := ⟨_, rfl⟩
    rw [hx2] at s4 ⊢
    clear hat hO h hL hI hU hP p0 p1 p2 p3 p4 hg1 hg2 hgc hge hil hnm hnme k1 k2 k3 k4 z1 z2 hB hgc2 hge2 hjl hx1 hx2
    cases x1 with
    | false =>
      go_enter Tryz.func102, Tryz.ntmps102
      go_wp2_with fail
      go_quiet (fail)
      all_goals go_wp2_with fail
      all_goals go_ret
      all_goals exact ⟨rfl, below_drewN (.refl _ _) _⟩
    | true =>
      go_enter Tryz.func102, Tryz.ntmps102
      go_wp2_with fail
      go_quiet (fail)
      all_goals go_wp2_with fail
      all_goals go_ret
      all_goals exact ⟨ret_bool (by simp), below_drewN (.refl _ _) _⟩
/-- the end of Loses: what is chosen, wherever the boxes lie -/
theorem los_tail {S2 : Nat → Prop} {W wF : World} {xb xb2 b4 b11 bC bD : Nat} {s : Sg} {l : List Ent} {i : Nat} {la a1 a2 : Option Addr} {lc c1 c2 : Nat} (hok : okLib s l = true) (hD1 : DLib W.heap.size W xb s l) (hD2 : DLib W.heap.size W xb2 s (l.eraseIdx i)) (hL : LibL S2 W la lc l) (hBF : Below W.heap.size W wF)
    (k11 : W.cell? ⟨b11, 0, none⟩ = some (.pointer (some ⟨xb2, 0, none⟩))) (k4 : W.cell? ⟨b4, 0, none⟩ = some (.slice la l.length lc)) (kC : wF.cell? ⟨bC, 0, none⟩ = some (.slice a1 l.length c1)) (kD : wF.cell? ⟨bD, 0, none⟩ = some (.slice a2 (l.eraseIdx i).length c2))
    {SA SB : Nat → Prop} (hg1 : Sl boolE SA wF a1 c1 (goodL s l l.length)) (hg2 : Sl boolE SB wF a2 c2 (goodL s (l.eraseIdx i) (l.eraseIdx i).length)) :
    Calls Tryz.prog 68 #[.pointer (some ⟨xb, 0, none⟩), .func (.func 102) #[] #[.pointer (some ⟨b11, 0, none⟩), .pointer (some ⟨b4, 0, none⟩), .pointer (some ⟨bC, 0, none⟩), .pointer (some ⟨bD, 0, none⟩)]] wF (SortedOut wF (losB s l i)) := by
  have hD1F := (hD1.call hBF).mono (hD1.call hBF).1 (Nat.le_refl wF.heap.size)
  have hD2F := (hD2.call hBF).mono (hD2.call hBF).1 (Nat.le_refl wF.heap.size)
  have v := chosen_any hD1F (los1_fn hD2F ((hL.below hBF).lt.weak (fun b h => h.2)) (World.block_lt_of_cell? wF _ (cell_later hBF k11)) (World.block_lt_of_cell? wF _ (cell_later hBF k4)) (World.block_lt_of_cell? wF _ kC) (World.block_lt_of_cell? wF _ kD) (cell_later hBF k11) (cell_later hBF k4) kC kD (hg1.lt.weak (fun b h => h.2)) (hg2.lt.weak (fun b h => h.2)))
  have e := los_prog hok (i := i)
  unfold losP at e
  rw [← e]
  exact v
theorem los_tail2 {S2 : Nat → Prop} {W wF : World} {xb xb2 b4 b11 bC bD : Nat} {s : Sg} {l ls : List Ent} {i : Nat} {la a1 a2 : Option Addr} {lc c1 c2 : Nat} (hls : l.eraseIdx i = ls) (hok : okLib s l = true) (hD1 : DLib W.heap.size W xb s l) (hD2 : DLib W.heap.size W xb2 s ls) (hL : LibL S2 W la lc l) (hBF : Below W.heap.size W wF)
    (k11 : W.cell? ⟨b11, 0, none⟩ = some (.pointer (some ⟨xb2, 0, none⟩))) (k4 : W.cell? ⟨b4, 0, none⟩ = some (.slice la l.length lc)) (kC : wF.cell? ⟨bC, 0, none⟩ = some (.slice a1 l.length c1)) (kD : wF.cell? ⟨bD, 0, none⟩ = some (.slice a2 ls.length c2))
    {SA SB : Nat → Prop} (hg1 : Sl boolE SA wF a1 c1 (goodL s l l.length)) (hg2 : Sl boolE SB wF a2 c2 (goodL s ls ls.length)) :
    Calls Tryz.prog 68 #[.pointer (some ⟨xb, 0, none⟩), .func (.func 102) #[] #[.pointer (some ⟨b11, 0, none⟩), .pointer (some ⟨b4, 0, none⟩), .pointer (some ⟨bC, 0, none⟩), .pointer (some ⟨bD, 0, none⟩)]] wF (SortedOut wF (losB s l i)) := by
  subst hls
  exact los_tail hok hD1 hD2 hL hBF k11 k4 kC kD hg1 hg2
theorem goodS_any {B xb : Nat} {w : World} {s : Sg} {l : List Ent} (h : DLib B w xb s l) : Calls Tryz.prog 95 #[.pointer (some ⟨xb, 0, none⟩)] w fun e w' => ∃ a c, e = .returned (.slice a l.length c) ∧ Sl boolE (fun b => w.heap.size ≤ b ∧ b < w'.heap.size) w' a c (goodL s l l.length) ∧ Below w.heap.size w w' := by
  refine (good_any h).mono ?_
  rintro e w' ⟨v, rfl, hO, hb⟩
  obtain ⟨a, c, rfl, hS⟩ := OwnB.bools hO
  rw [goodL_len]
  exact ⟨a, c, rfl, hS.lt, hb⟩
theorem frozen_later {w w' : World} (hb : Below w.heap.size w w') {b : Nat} (hlt : b < w.heap.size) (h : w.frozen? ⟨b, 0, none⟩ = false) : w'.frozen? ⟨b, 0, none⟩ = false := by
  rw [World.frozen?_of_block (a := ⟨b, 0, none⟩) (hb.block b hlt)]; exact h
theorem region_three {P : Program} {Q : Exit → Act → World → Prop} {md : Region.Mode} {S : World → Prop} {l : List Oper} {listed : Array Bool} {fuel : Nat} {a : Act} {w : World} (i j k : Nat) {o o' o'' : Oper} (hi : l[i]? = some o) (hj : l[j]? = some o') (hk : l[k]? = some o'') (hr : Region.ready md l.toArray listed = [i, j, k])
    (h : ∀ K' : Act → World → Prop, Shut (∀ a w, S w → (S w → wpAnyH P md l.toArray Q S fuel (listed.setIfInBounds i true) a w) → K' a w) → if Region.wanted o (yielded l.toArray a.tmps) = true then Oper.wp P o a w K' Q else K' (a.put o.dst undef) w)
    (h' : ∀ K' : Act → World → Prop, Shut (∀ a w, S w → (S w → wpAnyH P md l.toArray Q S fuel (listed.setIfInBounds j true) a w) → K' a w) → if Region.wanted o' (yielded l.toArray a.tmps) = true then Oper.wp P o' a w K' Q else K' (a.put o'.dst undef) w)
    (h'' : ∀ K' : Act → World → Prop, Shut (∀ a w, S w → (S w → wpAnyH P md l.toArray Q S fuel (listed.setIfInBounds k true) a w) → K' a w) → if Region.wanted o'' (yielded l.toArray a.tmps) = true then Oper.wp P o'' a w K' Q else K' (a.put o''.dst undef) w) :
    wpAnyH P md l.toArray Q S (fuel + 1) listed a w :=
  wpAnyH_ready hr (by simp) (AllReadyH.cons (by simpa using hi) h (AllReadyH.cons (by simpa using hj) h' (AllReadyH.cons (by simpa using hk) h'' AllReadyH.nil)))
end Go.Proofs.YtpmnnoopoblpgaaGreat

/- Walks: Loses. -/
namespace Go.Proofs.YtpmnnoopoblpgaaGreat
open Go Go.RowKit Go.Maps

set_option maxRecDepth 100000 in
set_option maxHeartbeats 8000000 in
theorem Loses_any {S1 S2 : Nat → Prop} (sa la : Option Addr) (sc lc : Nat) (s : Sg) (l : List Ent) (n : ByteArray) (hn : n.size ≤ big) (w : World) (h1 : Sign S1 w sa sc s) (h2 : LibL S2 w la lc l) (hl : l.length ≤ 1000) :
    Calls Tryz.prog 41 #[.slice sa s.length sc, .slice la l.length lc, .string n] w (NamesRet (losesE s l n).1 (losesE s l n).2 w) := by
  obtain ⟨W0, hW0⟩ : ∃ W0, w.alloc (.cells #[.slice la l.length lc] 24) = W0 := ⟨_, rfl⟩
  have hB0 : Below w.heap.size w W0 := by rw [← hW0]; exact below1 w _
  have q4 : W0.cell? ⟨w.heap.size, 0, none⟩ = some (.slice la l.length lc) := by rw [← hW0]; clear hW0; go_simp
  have hws : w.heap.size < W0.heap.size := by rw [← hW0]; simp
  have v := dnamed_any sa la sc lc s l n hn W0 (h1.below hB0) (h2.below hB0) hl
  have m := h2.le
  have m1 := h1.le
  obtain ⟨r, hr⟩ : ∃ r, losesE s l n = r := ⟨_, rfl⟩
  rw [hr]
  have vH := Lib.hid v
  have hrH := Lib.hid hr
  have h1H := Lib.hid h1
  have h2H := Lib.hid h2
  have hB0H := Lib.hid hB0
  have hwsH := Lib.hid hws
  clear v h1 h2 hr hB0 hws
  go_enter Tryz.func41, Tryz.ntmps41
  go_wp2_with fail
  try rw [hW0]
  refine vH.out.mono ?_
  rintro e w1 ⟨hb, h⟩
  have hb1H := Lib.hid hb
  have r4 := cell_later hb q4
  rcases h with ⟨hok, rfl⟩ | ⟨hok, hat, rfl⟩ | ⟨hok, i, xb, hat, hxb, rfl, hD⟩
  · have hf := Lib.hid (show r = (fun _ => false, 1) by rw [← hrH.out]; unfold losesE; rw [hok]; rfl)
    have hbH := Lib.hid (bcall hB0H.out hb)
    clear hb hok vH hW0
    go_wp2_with fail
    go_ret2
    rw [hf.out]
    exact NamesRet.nil hbH.out
  · have hf := Lib.hid (show r = (fun _ => false, 5) by rw [← hrH.out]; unfold losesE; rw [hok, hat]; rfl)
    have hbH := Lib.hid (bcall hB0H.out hb)
    clear hb hok vH hat hW0
    go_wp2_with fail
    go_ret2
    rw [hf.out]
    exact NamesRet.nil hbH.out
  · have hf := Lib.hid (show r = (losB s l i, 0) by rw [← hrH.out]; unfold losesE; rw [hok, hat]; rfl)
    obtain ⟨hi, -⟩ := atN_some hat
    have hl60 := (okLib_parts hok).2.1
    have hbw1 := bcall hB0H.out hb
    have vc := Lib.hid (CloneE_any la lc l w1 (h2H.out.below hbw1) hl)
    have hokH := Lib.hid hok
    have hDH := Lib.hid hD
    have hbw1H := Lib.hid hbw1
    have hne := Lib.hid (show l ≠ [] from fun e => by subst e; simp at hi)
    clear hb hok vH hat hxb hD hbw1 hW0
    go_wp2_with fail
    refine vc.out.mono ?_
    rintro e w2 ⟨v2, rfl, hO2, hb2⟩
    obtain ⟨g, cap, rfl, hg1, hg2⟩ := OwnL.form hO2 hne.out
    have vd := Lib.hid (DeleteE_any hO2 hl60 hi)
    have hb2H := Lib.hid hb2
    have hg1H := Lib.hid hg1
    have hi1 : IntKind.i64.wrap ((i : Int) + 1) = (i : Int) + 1 := IntWalk.i64_in _ (by omega)
    clear hO2 hb2 hg2 hg1
    go_wp2_with fail
    refine vd.out.mono ?_
    rintro e w3 ⟨rfl, hO3, hg3⟩
    have hb3 := (hb2H.out).grown hg3 hb2H.out.size (fun k e => by injection e with e; have := hg1H.out; omega)
    obtain ⟨a3, c3, e3, hL3⟩ := OwnL.sl hO3
    injection e3 with e1 e0 e2
    clear e0
    subst e1 e2
    have hokE := erase_ok hokH.out i
    have hels : (l.eraseIdx i).length ≤ 60 := (okLib_parts hokE).2.1
    have hB3 := bcall hbw1H.out hb3
    have vo := open_any sa (some ⟨g, 0, none⟩) sc cap s (l.eraseIdx i) w3 (h1H.out.below hB3) hL3 (by omega)
    have voH := Lib.hid vo
    have r43 := cell_later hb3 r4
    have hb3H := Lib.hid hb3
    have hokEH := Lib.hid hokE
    have hB3H := Lib.hid hB3
    have mE := hL3.le
    obtain ⟨ls, hls⟩ : ∃ ls, l.eraseIdx i = ls := ⟨_, rfl⟩
    have hlsH := Lib.hid hls
    rw [hls] at voH hels mE hokEH
    rw [hls]
    clear hO3 hg3 hb3 hL3 hokE hB3 vo hls
    go_wp2_with fail
    refine voH.out.mono ?_
    rintro e w4 ⟨hb4, h⟩
    rcases h with ⟨hno, -⟩ | ⟨-, xb2, hxb2, rfl, hD2⟩
    · rw [hokEH.out] at hno; cases hno
    obtain ⟨W, hW⟩ : ∃ W, w4.alloc (.cells #[.pointer (some ⟨xb2, 0, none⟩)] 61) = W := ⟨_, rfl⟩
    have hBW : Below w4.heap.size w4 W := by rw [← hW]; exact below1 w4 _
    have q11 : W.cell? ⟨w4.heap.size, 0, none⟩ = some (.pointer (some ⟨xb2, 0, none⟩)) := by rw [← hW]; clear hW; go_simp
    have hwsW : w4.heap.size < W.heap.size := by rw [← hW]; simp
    have hb1W := bcall hb3H.out (bcall hb4 hBW)
    have q4W := cell_later (bcall hb4 hBW) r43
    have hD1W := Lib.hid (hDH.out.call hb1W)
    have hD2W := Lib.hid (hD2.call hBW)
    have hBWw := Lib.hid (bcall hbw1H.out hb1W)
    have hwsWH := Lib.hid hwsW
    have hw4 := Lib.hid (show w.heap.size < W.heap.size by have := hBWw.out.size; have := hwsH.out; have := hb1H.out.size; have := hb1W.size; omega)
    have hWH := Lib.hid hW
    clear hb4 hxb2 hD2 hBW hb1W hwsW r4 r43
    have vA := Lib.hid (fun W' (hb : Below W.heap.size W W') => goodS_any (hD1W.out.call hb))
    have vB := Lib.hid (fun W' (hb : Below W.heap.size W W') => goodS_any (hD2W.out.call hb))
    have q11H := Lib.hid q11
    have q4H := Lib.hid q4W
    have hwsW2 := hwsWH.out
    have hw42 := hw4.out
    clear hW q4W
    go_upto_region 7 with fail
    rw [hWH.out]
    refine wp_region_held_drew (S := fun w' => w'.cell? ⟨w4.heap.size, 0, none⟩ = some (.pointer (some ⟨xb2, 0, none⟩))) (by kernel_rfl) (cell_later (Below.drew (.refl W.heap.size W)) q11) (fun hS => ?_)
    generalize hgn : World.drew W = u0 at hS ⊢
    have hb0 : Below W.heap.size W u0 := by rw [← hgn]; exact Below.drew (.refl _ _)
    clear hgn q11
    refine region_take 0 (some 39) (v := ?_) rfl rfl (by kernel_rfl) (by kernel_rfl) (by kernel_rfl) (fun _ _ _ h => h) rfl ?_ hS ?_
    rotate_left
    · (intro w9 hS9; have z0 := hS9; go_simp; try (with_reducible rfl))
    simp only [Act.put, List.setIfInBounds_toArray, List.set_cons_zero, List.set_cons_succ]
    refine region_take 2 (some 41) (v := ?_) rfl rfl (by kernel_rfl) (by kernel_rfl) (by kernel_rfl) (fun _ _ _ h => h) rfl ?_ hS ?_
    rotate_left
    · (intro w9 hS9; have z0 := hS9; go_simp; try (with_reducible rfl))
    simp only [Act.put, List.setIfInBounds_toArray, List.set_cons_zero, List.set_cons_succ]
    refine region_three 1 4 5 rfl rfl rfl (by kernel_rfl) (fun K hK => ?_) (fun K hK => ?_) (fun K hK => ?_) 
    · skip
      go_simp
      (with_reducible refine (vA.out u0 hb0).mono ?_)
      rintro e u1 ⟨aA, cA, rfl, hSA, hb1⟩
      go_simp
      refine hK.out _ _ (cell_later hb1 hS) ?_
      clear hK hS K
      intro hS
      try simp only [Act.put, List.setIfInBounds_toArray, List.set_cons_zero, List.set_cons_succ]
      have hz1 : u0.heap.size ≤ u1.heap.size := hb1.size
      refine region_three 3 4 5 rfl rfl rfl (by kernel_rfl) (fun K hK => ?_) (fun K hK => ?_) (fun K hK => ?_) 
      · skip
        go_simp
        (with_reducible refine (vB.out u1 (bcall hb0 hb1)).mono ?_)
        rintro e u2 ⟨aB, cB, rfl, hSB, hb2⟩
        go_simp
        refine hK.out _ _ (cell_later hb2 hS) ?_
        clear hK hS K
        intro hS
        try simp only [Act.put, List.setIfInBounds_toArray, List.set_cons_zero, List.set_cons_succ]
        have hz2 : u1.heap.size ≤ u2.heap.size := hb2.size
        refine region_both 4 5 rfl rfl (by kernel_rfl) (fun K hK => ?_) (fun K hK => ?_) 
        · skip
          go_simp
          refine hK.out _ _ (cell_later (below1 _ _) hS) ?_
          clear hK hS K
          intro hS
          try simp only [Act.put, List.setIfInBounds_toArray, List.set_cons_zero, List.set_cons_succ]
          generalize hgn : World.alloc u2 (.cells #[.slice none 0 0] 94) = u3 at hS ⊢
          have hb3 : Below u2.heap.size u2 u3 := by rw [← hgn]; exact below1 _ _
          have kC : u3.cell? ⟨u2.heap.size, 0, none⟩ = some (.slice none 0 0) := by rw [← hgn]; clear hgn; go_simp
          have zC : u3.frozen? ⟨u2.heap.size, 0, none⟩ = false := by rw [← hgn]; clear hgn; go_simp
          have hz3 : u2.heap.size < u3.heap.size := by rw [← hgn]; simp
          clear hgn
          refine region_call 5 rfl (by kernel_rfl) (fun K hK => ?_)
          go_simp
          refine hK.out _ _ (cell_later (below1 _ _) hS) ?_
          clear hK hS K
          intro hS
          try simp only [Act.put, List.setIfInBounds_toArray, List.set_cons_zero, List.set_cons_succ]
          generalize hgn : World.alloc u3 (.cells #[.slice none 0 0] 94) = u4 at hS ⊢
          have hb4 : Below u3.heap.size u3 u4 := by rw [← hgn]; exact below1 _ _
          have kD : u4.cell? ⟨u3.heap.size, 0, none⟩ = some (.slice none 0 0) := by rw [← hgn]; clear hgn; go_simp
          have zD : u4.frozen? ⟨u3.heap.size, 0, none⟩ = false := by rw [← hgn]; clear hgn; go_simp
          have hz4 : u3.heap.size < u4.heap.size := by rw [← hgn]; simp
          clear hgn
          have kC4 := (cell_later hb4 kC)
          have kD4 := kD
          have zC4 := (frozen_later hb4 (by omega) zC)
          have zD4 := zD
          have hSA4 := (hSA.below (bcall hb2 (bcall hb3 hb4)))
          have hSB4 := (hSB.below (bcall hb3 hb4))
          have hBW4 := (bcall hb0 (bcall hb1 (bcall hb2 (bcall hb3 hb4))))
          have hzW : W.heap.size ≤ u0.heap.size := hb0.size
          refine region_call 6 rfl (by kernel_rfl) (fun K hK => ?_)
          go_simp
          refine hK.out _ _ ((gby_set u4 u2.heap.size 0 (.slice aA l.length cA)).cell hS (by intro e; injection e with e; simp at e; omega)) ?_
          clear hK hS K
          intro hS
          try simp only [Act.put, List.setIfInBounds_toArray, List.set_cons_zero, List.set_cons_succ]
          generalize hgn : World.setCell u4 ⟨u2.heap.size, 0, none⟩ (.slice aA l.length cA) = u5 at hS ⊢
          have g5 : u4.grownBy u5 (some u2.heap.size) := by rw [← hgn]; exact gby_set _ _ _ _
          have kC5 : u5.cell? ⟨u2.heap.size, 0, none⟩ = some (.slice aA l.length cA) := by rw [← hgn]; clear hgn; go_simp
          have kD5 := g5.cell kD4 (by intro e; injection e with e; simp at e; omega)
          have zD5 : u5.frozen? ⟨u3.heap.size, 0, none⟩ = false := by rw [← hgn]; clear hgn; go_simp
          clear hgn
          refine region_call 7 rfl (by kernel_rfl) (fun K hK => ?_)
          go_simp
          refine hK.out _ _ ((gby_set u5 u3.heap.size 0 (.slice aB ls.length cB)).cell hS (by intro e; injection e with e; simp at e; omega)) ?_
          clear hK hS K
          intro hS
          try simp only [Act.put, List.setIfInBounds_toArray, List.set_cons_zero, List.set_cons_succ]
          generalize hgn : World.setCell u5 ⟨u3.heap.size, 0, none⟩ (.slice aB ls.length cB) = u6 at hS ⊢
          have g6 : u5.grownBy u6 (some u3.heap.size) := by rw [← hgn]; exact gby_set _ _ _ _
          have kD6 : u6.cell? ⟨u3.heap.size, 0, none⟩ = some (.slice aB ls.length cB) := by rw [← hgn]; clear hgn; go_simp
          have kC6 := g6.cell kC5 (by intro e; injection e with e; simp at e; omega)
          clear hgn
          have hB5 := hBW4.grown g5 hBW4.size (fun k e => by injection e with e; omega)
          have hB6 := hB5.grown g6 hB5.size (fun k e => by injection e with e; omega)
          have hSA6 := (hSA4.same (w' := u5) (fun b hb hlt => g5.block b hlt (fun e => by injection e with e; have := hb.1; have := hb.2; omega))).same (w' := u6) (fun b hb hlt => g6.block b hlt (fun e => by injection e with e; have := hb.1; have := hb.2; omega))
          have hSB6 := (hSB4.same (w' := u5) (fun b hb hlt => g5.block b hlt (fun e => by injection e with e; have := hb.1; have := hb.2; omega))).same (w' := u6) (fun b hb hlt => g6.block b hlt (fun e => by injection e with e; have := hb.1; have := hb.2; omega))
          have vt := Lib.hid (los_tail2 hlsH.out hokH.out (hD1W.out.mono hD1W.out.1 (Nat.le_refl _)) (hD2W.out.mono hD2W.out.1 (Nat.le_refl _)) (h2H.out.below hBWw.out) hB6 q11H.out q4H.out kC6 kD6 hSA6 hSB6)
          have hBfin := Lib.hid (bcall hBWw.out hB6)
          clear kC4 kD4 zC4 zD4 hSA4 hSB4 g5 g6 hB5 hB6 hSA6 hSB6 hBW4
          refine wpAnyH_done (by kernel_rfl) ?_ _
          clear hS
          go_wp2_with fail
          refine vt.out.mono ?_
          rintro e w8 hso
          obtain ⟨v, rfl, hN⟩ := hso.names hBfin.out
          have hNH := Lib.hid (hN 0)
          clear hN hso
          go_wp2_with fail
          go_ret2
          rw [hf.out]
          exact hNH.out
        · skip
          go_simp
          refine hK.out _ _ (cell_later (below1 _ _) hS) ?_
          clear hK hS K
          intro hS
          try simp only [Act.put, List.setIfInBounds_toArray, List.set_cons_zero, List.set_cons_succ]
          generalize hgn : World.alloc u2 (.cells #[.slice none 0 0] 94) = u3 at hS ⊢
          have hb3 : Below u2.heap.size u2 u3 := by rw [← hgn]; exact below1 _ _
          have kD : u3.cell? ⟨u2.heap.size, 0, none⟩ = some (.slice none 0 0) := by rw [← hgn]; clear hgn; go_simp
          have zD : u3.frozen? ⟨u2.heap.size, 0, none⟩ = false := by rw [← hgn]; clear hgn; go_simp
          have hz3 : u2.heap.size < u3.heap.size := by rw [← hgn]; simp
          clear hgn
          refine region_call 4 rfl (by kernel_rfl) (fun K hK => ?_)
          go_simp
          refine hK.out _ _ (cell_later (below1 _ _) hS) ?_
          clear hK hS K
          intro hS
          try simp only [Act.put, List.setIfInBounds_toArray, List.set_cons_zero, List.set_cons_succ]
          generalize hgn : World.alloc u3 (.cells #[.slice none 0 0] 94) = u4 at hS ⊢
          have hb4 : Below u3.heap.size u3 u4 := by rw [← hgn]; exact below1 _ _
          have kC : u4.cell? ⟨u3.heap.size, 0, none⟩ = some (.slice none 0 0) := by rw [← hgn]; clear hgn; go_simp
          have zC : u4.frozen? ⟨u3.heap.size, 0, none⟩ = false := by rw [← hgn]; clear hgn; go_simp
          have hz4 : u3.heap.size < u4.heap.size := by rw [← hgn]; simp
          clear hgn
          have kC4 := kC
          have kD4 := (cell_later hb4 kD)
          have zC4 := zC
          have zD4 := (frozen_later hb4 (by omega) zD)
          have hSA4 := (hSA.below (bcall hb2 (bcall hb3 hb4)))
          have hSB4 := (hSB.below (bcall hb3 hb4))
          have hBW4 := (bcall hb0 (bcall hb1 (bcall hb2 (bcall hb3 hb4))))
          have hzW : W.heap.size ≤ u0.heap.size := hb0.size
          refine region_call 6 rfl (by kernel_rfl) (fun K hK => ?_)
          go_simp
          refine hK.out _ _ ((gby_set u4 u3.heap.size 0 (.slice aA l.length cA)).cell hS (by intro e; injection e with e; simp at e; omega)) ?_
          clear hK hS K
          intro hS
          try simp only [Act.put, List.setIfInBounds_toArray, List.set_cons_zero, List.set_cons_succ]
          generalize hgn : World.setCell u4 ⟨u3.heap.size, 0, none⟩ (.slice aA l.length cA) = u5 at hS ⊢
          have g5 : u4.grownBy u5 (some u3.heap.size) := by rw [← hgn]; exact gby_set _ _ _ _
          have kC5 : u5.cell? ⟨u3.heap.size, 0, none⟩ = some (.slice aA l.length cA) := by rw [← hgn]; clear hgn; go_simp
          have kD5 := g5.cell kD4 (by intro e; injection e with e; simp at e; omega)
          have zD5 : u5.frozen? ⟨u2.heap.size, 0, none⟩ = false := by rw [← hgn]; clear hgn; go_simp
          clear hgn
          refine region_call 7 rfl (by kernel_rfl) (fun K hK => ?_)
          go_simp
          refine hK.out _ _ ((gby_set u5 u2.heap.size 0 (.slice aB ls.length cB)).cell hS (by intro e; injection e with e; simp at e; omega)) ?_
          clear hK hS K
          intro hS
          try simp only [Act.put, List.setIfInBounds_toArray, List.set_cons_zero, List.set_cons_succ]
          generalize hgn : World.setCell u5 ⟨u2.heap.size, 0, none⟩ (.slice aB ls.length cB) = u6 at hS ⊢
          have g6 : u5.grownBy u6 (some u2.heap.size) := by rw [← hgn]; exact gby_set _ _ _ _
          have kD6 : u6.cell? ⟨u2.heap.size, 0, none⟩ = some (.slice aB ls.length cB) := by rw [← hgn]; clear hgn; go_simp
          have kC6 := g6.cell kC5 (by intro e; injection e with e; simp at e; omega)
          clear hgn
          have hB5 := hBW4.grown g5 hBW4.size (fun k e => by injection e with e; omega)
          have hB6 := hB5.grown g6 hB5.size (fun k e => by injection e with e; omega)
          have hSA6 := (hSA4.same (w' := u5) (fun b hb hlt => g5.block b hlt (fun e => by injection e with e; have := hb.1; have := hb.2; omega))).same (w' := u6) (fun b hb hlt => g6.block b hlt (fun e => by injection e with e; have := hb.1; have := hb.2; omega))
          have hSB6 := (hSB4.same (w' := u5) (fun b hb hlt => g5.block b hlt (fun e => by injection e with e; have := hb.1; have := hb.2; omega))).same (w' := u6) (fun b hb hlt => g6.block b hlt (fun e => by injection e with e; have := hb.1; have := hb.2; omega))
          have vt := Lib.hid (los_tail2 hlsH.out hokH.out (hD1W.out.mono hD1W.out.1 (Nat.le_refl _)) (hD2W.out.mono hD2W.out.1 (Nat.le_refl _)) (h2H.out.below hBWw.out) hB6 q11H.out q4H.out kC6 kD6 hSA6 hSB6)
          have hBfin := Lib.hid (bcall hBWw.out hB6)
          clear kC4 kD4 zC4 zD4 hSA4 hSB4 g5 g6 hB5 hB6 hSA6 hSB6 hBW4
          refine wpAnyH_done (by kernel_rfl) ?_ _
          clear hS
          go_wp2_with fail
          refine vt.out.mono ?_
          rintro e w8 hso
          obtain ⟨v, rfl, hN⟩ := hso.names hBfin.out
          have hNH := Lib.hid (hN 0)
          clear hN hso
          go_wp2_with fail
          go_ret2
          rw [hf.out]
          exact hNH.out
      · skip
        go_simp
        refine hK.out _ _ (cell_later (below1 _ _) hS) ?_
        clear hK hS K
        intro hS
        try simp only [Act.put, List.setIfInBounds_toArray, List.set_cons_zero, List.set_cons_succ]
        generalize hgn : World.alloc u1 (.cells #[.slice none 0 0] 94) = u2 at hS ⊢
        have hb2 : Below u1.heap.size u1 u2 := by rw [← hgn]; exact below1 _ _
        have kC : u2.cell? ⟨u1.heap.size, 0, none⟩ = some (.slice none 0 0) := by rw [← hgn]; clear hgn; go_simp
        have zC : u2.frozen? ⟨u1.heap.size, 0, none⟩ = false := by rw [← hgn]; clear hgn; go_simp
        have hz2 : u1.heap.size < u2.heap.size := by rw [← hgn]; simp
        clear hgn
        refine region_both 3 5 rfl rfl (by kernel_rfl) (fun K hK => ?_) (fun K hK => ?_) 
        · skip
          go_simp
          (with_reducible refine (vB.out u2 (bcall hb0 (bcall hb1 hb2))).mono ?_)
          rintro e u3 ⟨aB, cB, rfl, hSB, hb3⟩
          go_simp
          refine hK.out _ _ (cell_later hb3 hS) ?_
          clear hK hS K
          intro hS
          try simp only [Act.put, List.setIfInBounds_toArray, List.set_cons_zero, List.set_cons_succ]
          have hz3 : u2.heap.size ≤ u3.heap.size := hb3.size
          refine region_call 5 rfl (by kernel_rfl) (fun K hK => ?_)
          go_simp
          refine hK.out _ _ (cell_later (below1 _ _) hS) ?_
          clear hK hS K
          intro hS
          try simp only [Act.put, List.setIfInBounds_toArray, List.set_cons_zero, List.set_cons_succ]
          generalize hgn : World.alloc u3 (.cells #[.slice none 0 0] 94) = u4 at hS ⊢
          have hb4 : Below u3.heap.size u3 u4 := by rw [← hgn]; exact below1 _ _
          have kD : u4.cell? ⟨u3.heap.size, 0, none⟩ = some (.slice none 0 0) := by rw [← hgn]; clear hgn; go_simp
          have zD : u4.frozen? ⟨u3.heap.size, 0, none⟩ = false := by rw [← hgn]; clear hgn; go_simp
          have hz4 : u3.heap.size < u4.heap.size := by rw [← hgn]; simp
          clear hgn
          have kC4 := (cell_later (bcall hb3 hb4) kC)
          have kD4 := kD
          have zC4 := (frozen_later (bcall hb3 hb4) (by omega) zC)
          have zD4 := zD
          have hSA4 := (hSA.below (bcall hb2 (bcall hb3 hb4)))
          have hSB4 := (hSB.below hb4)
          have hBW4 := (bcall hb0 (bcall hb1 (bcall hb2 (bcall hb3 hb4))))
          have hzW : W.heap.size ≤ u0.heap.size := hb0.size
          refine region_call 6 rfl (by kernel_rfl) (fun K hK => ?_)
          go_simp
          refine hK.out _ _ ((gby_set u4 u1.heap.size 0 (.slice aA l.length cA)).cell hS (by intro e; injection e with e; simp at e; omega)) ?_
          clear hK hS K
          intro hS
          try simp only [Act.put, List.setIfInBounds_toArray, List.set_cons_zero, List.set_cons_succ]
          generalize hgn : World.setCell u4 ⟨u1.heap.size, 0, none⟩ (.slice aA l.length cA) = u5 at hS ⊢
          have g5 : u4.grownBy u5 (some u1.heap.size) := by rw [← hgn]; exact gby_set _ _ _ _
          have kC5 : u5.cell? ⟨u1.heap.size, 0, none⟩ = some (.slice aA l.length cA) := by rw [← hgn]; clear hgn; go_simp
          have kD5 := g5.cell kD4 (by intro e; injection e with e; simp at e; omega)
          have zD5 : u5.frozen? ⟨u3.heap.size, 0, none⟩ = false := by rw [← hgn]; clear hgn; go_simp
          clear hgn
          refine region_call 7 rfl (by kernel_rfl) (fun K hK => ?_)
          go_simp
          refine hK.out _ _ ((gby_set u5 u3.heap.size 0 (.slice aB ls.length cB)).cell hS (by intro e; injection e with e; simp at e; omega)) ?_
          clear hK hS K
          intro hS
          try simp only [Act.put, List.setIfInBounds_toArray, List.set_cons_zero, List.set_cons_succ]
          generalize hgn : World.setCell u5 ⟨u3.heap.size, 0, none⟩ (.slice aB ls.length cB) = u6 at hS ⊢
          have g6 : u5.grownBy u6 (some u3.heap.size) := by rw [← hgn]; exact gby_set _ _ _ _
          have kD6 : u6.cell? ⟨u3.heap.size, 0, none⟩ = some (.slice aB ls.length cB) := by rw [← hgn]; clear hgn; go_simp
          have kC6 := g6.cell kC5 (by intro e; injection e with e; simp at e; omega)
          clear hgn
          have hB5 := hBW4.grown g5 hBW4.size (fun k e => by injection e with e; omega)
          have hB6 := hB5.grown g6 hB5.size (fun k e => by injection e with e; omega)
          have hSA6 := (hSA4.same (w' := u5) (fun b hb hlt => g5.block b hlt (fun e => by injection e with e; have := hb.1; have := hb.2; omega))).same (w' := u6) (fun b hb hlt => g6.block b hlt (fun e => by injection e with e; have := hb.1; have := hb.2; omega))
          have hSB6 := (hSB4.same (w' := u5) (fun b hb hlt => g5.block b hlt (fun e => by injection e with e; have := hb.1; have := hb.2; omega))).same (w' := u6) (fun b hb hlt => g6.block b hlt (fun e => by injection e with e; have := hb.1; have := hb.2; omega))
          have vt := Lib.hid (los_tail2 hlsH.out hokH.out (hD1W.out.mono hD1W.out.1 (Nat.le_refl _)) (hD2W.out.mono hD2W.out.1 (Nat.le_refl _)) (h2H.out.below hBWw.out) hB6 q11H.out q4H.out kC6 kD6 hSA6 hSB6)
          have hBfin := Lib.hid (bcall hBWw.out hB6)
          clear kC4 kD4 zC4 zD4 hSA4 hSB4 g5 g6 hB5 hB6 hSA6 hSB6 hBW4
          refine wpAnyH_done (by kernel_rfl) ?_ _
          clear hS
          go_wp2_with fail
          refine vt.out.mono ?_
          rintro e w8 hso
          obtain ⟨v, rfl, hN⟩ := hso.names hBfin.out
          have hNH := Lib.hid (hN 0)
          clear hN hso
          go_wp2_with fail
          go_ret2
          rw [hf.out]
          exact hNH.out
        · skip
          go_simp
          refine hK.out _ _ (cell_later (below1 _ _) hS) ?_
          clear hK hS K
          intro hS
          try simp only [Act.put, List.setIfInBounds_toArray, List.set_cons_zero, List.set_cons_succ]
          generalize hgn : World.alloc u2 (.cells #[.slice none 0 0] 94) = u3 at hS ⊢
          have hb3 : Below u2.heap.size u2 u3 := by rw [← hgn]; exact below1 _ _
          have kD : u3.cell? ⟨u2.heap.size, 0, none⟩ = some (.slice none 0 0) := by rw [← hgn]; clear hgn; go_simp
          have zD : u3.frozen? ⟨u2.heap.size, 0, none⟩ = false := by rw [← hgn]; clear hgn; go_simp
          have hz3 : u2.heap.size < u3.heap.size := by rw [← hgn]; simp
          clear hgn
          refine region_call 3 rfl (by kernel_rfl) (fun K hK => ?_)
          go_simp
          (with_reducible refine (vB.out u3 (bcall hb0 (bcall hb1 (bcall hb2 hb3)))).mono ?_)
          rintro e u4 ⟨aB, cB, rfl, hSB, hb4⟩
          go_simp
          refine hK.out _ _ (cell_later hb4 hS) ?_
          clear hK hS K
          intro hS
          try simp only [Act.put, List.setIfInBounds_toArray, List.set_cons_zero, List.set_cons_succ]
          have hz4 : u3.heap.size ≤ u4.heap.size := hb4.size
          have kC4 := (cell_later (bcall hb3 hb4) kC)
          have kD4 := (cell_later hb4 kD)
          have zC4 := (frozen_later (bcall hb3 hb4) (by omega) zC)
          have zD4 := (frozen_later hb4 (by omega) zD)
          have hSA4 := (hSA.below (bcall hb2 (bcall hb3 hb4)))
          have hSB4 := hSB
          have hBW4 := (bcall hb0 (bcall hb1 (bcall hb2 (bcall hb3 hb4))))
          have hzW : W.heap.size ≤ u0.heap.size := hb0.size
          refine region_call 6 rfl (by kernel_rfl) (fun K hK => ?_)
          go_simp
          refine hK.out _ _ ((gby_set u4 u1.heap.size 0 (.slice aA l.length cA)).cell hS (by intro e; injection e with e; simp at e; omega)) ?_
          clear hK hS K
          intro hS
          try simp only [Act.put, List.setIfInBounds_toArray, List.set_cons_zero, List.set_cons_succ]
          generalize hgn : World.setCell u4 ⟨u1.heap.size, 0, none⟩ (.slice aA l.length cA) = u5 at hS ⊢
          have g5 : u4.grownBy u5 (some u1.heap.size) := by rw [← hgn]; exact gby_set _ _ _ _
          have kC5 : u5.cell? ⟨u1.heap.size, 0, none⟩ = some (.slice aA l.length cA) := by rw [← hgn]; clear hgn; go_simp
          have kD5 := g5.cell kD4 (by intro e; injection e with e; simp at e; omega)
          have zD5 : u5.frozen? ⟨u2.heap.size, 0, none⟩ = false := by rw [← hgn]; clear hgn; go_simp
          clear hgn
          refine region_call 7 rfl (by kernel_rfl) (fun K hK => ?_)
          go_simp
          refine hK.out _ _ ((gby_set u5 u2.heap.size 0 (.slice aB ls.length cB)).cell hS (by intro e; injection e with e; simp at e; omega)) ?_
          clear hK hS K
          intro hS
          try simp only [Act.put, List.setIfInBounds_toArray, List.set_cons_zero, List.set_cons_succ]
          generalize hgn : World.setCell u5 ⟨u2.heap.size, 0, none⟩ (.slice aB ls.length cB) = u6 at hS ⊢
          have g6 : u5.grownBy u6 (some u2.heap.size) := by rw [← hgn]; exact gby_set _ _ _ _
          have kD6 : u6.cell? ⟨u2.heap.size, 0, none⟩ = some (.slice aB ls.length cB) := by rw [← hgn]; clear hgn; go_simp
          have kC6 := g6.cell kC5 (by intro e; injection e with e; simp at e; omega)
          clear hgn
          have hB5 := hBW4.grown g5 hBW4.size (fun k e => by injection e with e; omega)
          have hB6 := hB5.grown g6 hB5.size (fun k e => by injection e with e; omega)
          have hSA6 := (hSA4.same (w' := u5) (fun b hb hlt => g5.block b hlt (fun e => by injection e with e; have := hb.1; have := hb.2; omega))).same (w' := u6) (fun b hb hlt => g6.block b hlt (fun e => by injection e with e; have := hb.1; have := hb.2; omega))
          have hSB6 := (hSB4.same (w' := u5) (fun b hb hlt => g5.block b hlt (fun e => by injection e with e; have := hb.1; have := hb.2; omega))).same (w' := u6) (fun b hb hlt => g6.block b hlt (fun e => by injection e with e; have := hb.1; have := hb.2; omega))
          have vt := Lib.hid (los_tail2 hlsH.out hokH.out (hD1W.out.mono hD1W.out.1 (Nat.le_refl _)) (hD2W.out.mono hD2W.out.1 (Nat.le_refl _)) (h2H.out.below hBWw.out) hB6 q11H.out q4H.out kC6 kD6 hSA6 hSB6)
          have hBfin := Lib.hid (bcall hBWw.out hB6)
          clear kC4 kD4 zC4 zD4 hSA4 hSB4 g5 g6 hB5 hB6 hSA6 hSB6 hBW4
          refine wpAnyH_done (by kernel_rfl) ?_ _
          clear hS
          go_wp2_with fail
          refine vt.out.mono ?_
          rintro e w8 hso
          obtain ⟨v, rfl, hN⟩ := hso.names hBfin.out
          have hNH := Lib.hid (hN 0)
          clear hN hso
          go_wp2_with fail
          go_ret2
          rw [hf.out]
          exact hNH.out
      · skip
        go_simp
        refine hK.out _ _ (cell_later (below1 _ _) hS) ?_
        clear hK hS K
        intro hS
        try simp only [Act.put, List.setIfInBounds_toArray, List.set_cons_zero, List.set_cons_succ]
        generalize hgn : World.alloc u1 (.cells #[.slice none 0 0] 94) = u2 at hS ⊢
        have hb2 : Below u1.heap.size u1 u2 := by rw [← hgn]; exact below1 _ _
        have kD : u2.cell? ⟨u1.heap.size, 0, none⟩ = some (.slice none 0 0) := by rw [← hgn]; clear hgn; go_simp
        have zD : u2.frozen? ⟨u1.heap.size, 0, none⟩ = false := by rw [← hgn]; clear hgn; go_simp
        have hz2 : u1.heap.size < u2.heap.size := by rw [← hgn]; simp
        clear hgn
        refine region_both 3 4 rfl rfl (by kernel_rfl) (fun K hK => ?_) (fun K hK => ?_) 
        · skip
          go_simp
          (with_reducible refine (vB.out u2 (bcall hb0 (bcall hb1 hb2))).mono ?_)
          rintro e u3 ⟨aB, cB, rfl, hSB, hb3⟩
          go_simp
          refine hK.out _ _ (cell_later hb3 hS) ?_
          clear hK hS K
          intro hS
          try simp only [Act.put, List.setIfInBounds_toArray, List.set_cons_zero, List.set_cons_succ]
          have hz3 : u2.heap.size ≤ u3.heap.size := hb3.size
          refine region_call 4 rfl (by kernel_rfl) (fun K hK => ?_)
          go_simp
          refine hK.out _ _ (cell_later (below1 _ _) hS) ?_
          clear hK hS K
          intro hS
          try simp only [Act.put, List.setIfInBounds_toArray, List.set_cons_zero, List.set_cons_succ]
          generalize hgn : World.alloc u3 (.cells #[.slice none 0 0] 94) = u4 at hS ⊢
          have hb4 : Below u3.heap.size u3 u4 := by rw [← hgn]; exact below1 _ _
          have kC : u4.cell? ⟨u3.heap.size, 0, none⟩ = some (.slice none 0 0) := by rw [← hgn]; clear hgn; go_simp
          have zC : u4.frozen? ⟨u3.heap.size, 0, none⟩ = false := by rw [← hgn]; clear hgn; go_simp
          have hz4 : u3.heap.size < u4.heap.size := by rw [← hgn]; simp
          clear hgn
          have kC4 := kC
          have kD4 := (cell_later (bcall hb3 hb4) kD)
          have zC4 := zC
          have zD4 := (frozen_later (bcall hb3 hb4) (by omega) zD)
          have hSA4 := (hSA.below (bcall hb2 (bcall hb3 hb4)))
          have hSB4 := (hSB.below hb4)
          have hBW4 := (bcall hb0 (bcall hb1 (bcall hb2 (bcall hb3 hb4))))
          have hzW : W.heap.size ≤ u0.heap.size := hb0.size
          refine region_call 6 rfl (by kernel_rfl) (fun K hK => ?_)
          go_simp
          refine hK.out _ _ ((gby_set u4 u3.heap.size 0 (.slice aA l.length cA)).cell hS (by intro e; injection e with e; simp at e; omega)) ?_
          clear hK hS K
          intro hS
          try simp only [Act.put, List.setIfInBounds_toArray, List.set_cons_zero, List.set_cons_succ]
          generalize hgn : World.setCell u4 ⟨u3.heap.size, 0, none⟩ (.slice aA l.length cA) = u5 at hS ⊢
          have g5 : u4.grownBy u5 (some u3.heap.size) := by rw [← hgn]; exact gby_set _ _ _ _
          have kC5 : u5.cell? ⟨u3.heap.size, 0, none⟩ = some (.slice aA l.length cA) := by rw [← hgn]; clear hgn; go_simp
          have kD5 := g5.cell kD4 (by intro e; injection e with e; simp at e; omega)
          have zD5 : u5.frozen? ⟨u1.heap.size, 0, none⟩ = false := by rw [← hgn]; clear hgn; go_simp
          clear hgn
          refine region_call 7 rfl (by kernel_rfl) (fun K hK => ?_)
          go_simp
          refine hK.out _ _ ((gby_set u5 u1.heap.size 0 (.slice aB ls.length cB)).cell hS (by intro e; injection e with e; simp at e; omega)) ?_
          clear hK hS K
          intro hS
          try simp only [Act.put, List.setIfInBounds_toArray, List.set_cons_zero, List.set_cons_succ]
          generalize hgn : World.setCell u5 ⟨u1.heap.size, 0, none⟩ (.slice aB ls.length cB) = u6 at hS ⊢
          have g6 : u5.grownBy u6 (some u1.heap.size) := by rw [← hgn]; exact gby_set _ _ _ _
          have kD6 : u6.cell? ⟨u1.heap.size, 0, none⟩ = some (.slice aB ls.length cB) := by rw [← hgn]; clear hgn; go_simp
          have kC6 := g6.cell kC5 (by intro e; injection e with e; simp at e; omega)
          clear hgn
          have hB5 := hBW4.grown g5 hBW4.size (fun k e => by injection e with e; omega)
          have hB6 := hB5.grown g6 hB5.size (fun k e => by injection e with e; omega)
          have hSA6 := (hSA4.same (w' := u5) (fun b hb hlt => g5.block b hlt (fun e => by injection e with e; have := hb.1; have := hb.2; omega))).same (w' := u6) (fun b hb hlt => g6.block b hlt (fun e => by injection e with e; have := hb.1; have := hb.2; omega))
          have hSB6 := (hSB4.same (w' := u5) (fun b hb hlt => g5.block b hlt (fun e => by injection e with e; have := hb.1; have := hb.2; omega))).same (w' := u6) (fun b hb hlt => g6.block b hlt (fun e => by injection e with e; have := hb.1; have := hb.2; omega))
          have vt := Lib.hid (los_tail2 hlsH.out hokH.out (hD1W.out.mono hD1W.out.1 (Nat.le_refl _)) (hD2W.out.mono hD2W.out.1 (Nat.le_refl _)) (h2H.out.below hBWw.out) hB6 q11H.out q4H.out kC6 kD6 hSA6 hSB6)
          have hBfin := Lib.hid (bcall hBWw.out hB6)
          clear kC4 kD4 zC4 zD4 hSA4 hSB4 g5 g6 hB5 hB6 hSA6 hSB6 hBW4
          refine wpAnyH_done (by kernel_rfl) ?_ _
          clear hS
          go_wp2_with fail
          refine vt.out.mono ?_
          rintro e w8 hso
          obtain ⟨v, rfl, hN⟩ := hso.names hBfin.out
          have hNH := Lib.hid (hN 0)
          clear hN hso
          go_wp2_with fail
          go_ret2
          rw [hf.out]
          exact hNH.out
        · skip
          go_simp
          refine hK.out _ _ (cell_later (below1 _ _) hS) ?_
          clear hK hS K
          intro hS
          try simp only [Act.put, List.setIfInBounds_toArray, List.set_cons_zero, List.set_cons_succ]
          generalize hgn : World.alloc u2 (.cells #[.slice none 0 0] 94) = u3 at hS ⊢
          have hb3 : Below u2.heap.size u2 u3 := by rw [← hgn]; exact below1 _ _
          have kC : u3.cell? ⟨u2.heap.size, 0, none⟩ = some (.slice none 0 0) := by rw [← hgn]; clear hgn; go_simp
          have zC : u3.frozen? ⟨u2.heap.size, 0, none⟩ = false := by rw [← hgn]; clear hgn; go_simp
          have hz3 : u2.heap.size < u3.heap.size := by rw [← hgn]; simp
          clear hgn
          refine region_call 3 rfl (by kernel_rfl) (fun K hK => ?_)
          go_simp
          (with_reducible refine (vB.out u3 (bcall hb0 (bcall hb1 (bcall hb2 hb3)))).mono ?_)
          rintro e u4 ⟨aB, cB, rfl, hSB, hb4⟩
          go_simp
          refine hK.out _ _ (cell_later hb4 hS) ?_
          clear hK hS K
          intro hS
          try simp only [Act.put, List.setIfInBounds_toArray, List.set_cons_zero, List.set_cons_succ]
          have hz4 : u3.heap.size ≤ u4.heap.size := hb4.size
          have kC4 := (cell_later hb4 kC)
          have kD4 := (cell_later (bcall hb3 hb4) kD)
          have zC4 := (frozen_later hb4 (by omega) zC)
          have zD4 := (frozen_later (bcall hb3 hb4) (by omega) zD)
          have hSA4 := (hSA.below (bcall hb2 (bcall hb3 hb4)))
          have hSB4 := hSB
          have hBW4 := (bcall hb0 (bcall hb1 (bcall hb2 (bcall hb3 hb4))))
          have hzW : W.heap.size ≤ u0.heap.size := hb0.size
          refine region_call 6 rfl (by kernel_rfl) (fun K hK => ?_)
          go_simp
          refine hK.out _ _ ((gby_set u4 u2.heap.size 0 (.slice aA l.length cA)).cell hS (by intro e; injection e with e; simp at e; omega)) ?_
          clear hK hS K
          intro hS
          try simp only [Act.put, List.setIfInBounds_toArray, List.set_cons_zero, List.set_cons_succ]
          generalize hgn : World.setCell u4 ⟨u2.heap.size, 0, none⟩ (.slice aA l.length cA) = u5 at hS ⊢
          have g5 : u4.grownBy u5 (some u2.heap.size) := by rw [← hgn]; exact gby_set _ _ _ _
          have kC5 : u5.cell? ⟨u2.heap.size, 0, none⟩ = some (.slice aA l.length cA) := by rw [← hgn]; clear hgn; go_simp
          have kD5 := g5.cell kD4 (by intro e; injection e with e; simp at e; omega)
          have zD5 : u5.frozen? ⟨u1.heap.size, 0, none⟩ = false := by rw [← hgn]; clear hgn; go_simp
          clear hgn
          refine region_call 7 rfl (by kernel_rfl) (fun K hK => ?_)
          go_simp
          refine hK.out _ _ ((gby_set u5 u1.heap.size 0 (.slice aB ls.length cB)).cell hS (by intro e; injection e with e; simp at e; omega)) ?_
          clear hK hS K
          intro hS
          try simp only [Act.put, List.setIfInBounds_toArray, List.set_cons_zero, List.set_cons_succ]
          generalize hgn : World.setCell u5 ⟨u1.heap.size, 0, none⟩ (.slice aB ls.length cB) = u6 at hS ⊢
          have g6 : u5.grownBy u6 (some u1.heap.size) := by rw [← hgn]; exact gby_set _ _ _ _
          have kD6 : u6.cell? ⟨u1.heap.size, 0, none⟩ = some (.slice aB ls.length cB) := by rw [← hgn]; clear hgn; go_simp
          have kC6 := g6.cell kC5 (by intro e; injection e with e; simp at e; omega)
          clear hgn
          have hB5 := hBW4.grown g5 hBW4.size (fun k e => by injection e with e; omega)
          have hB6 := hB5.grown g6 hB5.size (fun k e => by injection e with e; omega)
          have hSA6 := (hSA4.same (w' := u5) (fun b hb hlt => g5.block b hlt (fun e => by injection e with e; have := hb.1; have := hb.2; omega))).same (w' := u6) (fun b hb hlt => g6.block b hlt (fun e => by injection e with e; have := hb.1; have := hb.2; omega))
          have hSB6 := (hSB4.same (w' := u5) (fun b hb hlt => g5.block b hlt (fun e => by injection e with e; have := hb.1; have := hb.2; omega))).same (w' := u6) (fun b hb hlt => g6.block b hlt (fun e => by injection e with e; have := hb.1; have := hb.2; omega))
          have vt := Lib.hid (los_tail2 hlsH.out hokH.out (hD1W.out.mono hD1W.out.1 (Nat.le_refl _)) (hD2W.out.mono hD2W.out.1 (Nat.le_refl _)) (h2H.out.below hBWw.out) hB6 q11H.out q4H.out kC6 kD6 hSA6 hSB6)
          have hBfin := Lib.hid (bcall hBWw.out hB6)
          clear kC4 kD4 zC4 zD4 hSA4 hSB4 g5 g6 hB5 hB6 hSA6 hSB6 hBW4
          refine wpAnyH_done (by kernel_rfl) ?_ _
          clear hS
          go_wp2_with fail
          refine vt.out.mono ?_
          rintro e w8 hso
          obtain ⟨v, rfl, hN⟩ := hso.names hBfin.out
          have hNH := Lib.hid (hN 0)
          clear hN hso
          go_wp2_with fail
          go_ret2
          rw [hf.out]
          exact hNH.out
    · skip
      go_simp
      refine hK.out _ _ (cell_later (below1 _ _) hS) ?_
      clear hK hS K
      intro hS
      try simp only [Act.put, List.setIfInBounds_toArray, List.set_cons_zero, List.set_cons_succ]
      generalize hgn : World.alloc u0 (.cells #[.slice none 0 0] 94) = u1 at hS ⊢
      have hb1 : Below u0.heap.size u0 u1 := by rw [← hgn]; exact below1 _ _
      have kC : u1.cell? ⟨u0.heap.size, 0, none⟩ = some (.slice none 0 0) := by rw [← hgn]; clear hgn; go_simp
      have zC : u1.frozen? ⟨u0.heap.size, 0, none⟩ = false := by rw [← hgn]; clear hgn; go_simp
      have hz1 : u0.heap.size < u1.heap.size := by rw [← hgn]; simp
      clear hgn
      refine region_both 1 5 rfl rfl (by kernel_rfl) (fun K hK => ?_) (fun K hK => ?_) 
      · skip
        go_simp
        (with_reducible refine (vA.out u1 (bcall hb0 hb1)).mono ?_)
        rintro e u2 ⟨aA, cA, rfl, hSA, hb2⟩
        go_simp
        refine hK.out _ _ (cell_later hb2 hS) ?_
        clear hK hS K
        intro hS
        try simp only [Act.put, List.setIfInBounds_toArray, List.set_cons_zero, List.set_cons_succ]
        have hz2 : u1.heap.size ≤ u2.heap.size := hb2.size
        refine region_both 3 5 rfl rfl (by kernel_rfl) (fun K hK => ?_) (fun K hK => ?_) 
        · skip
          go_simp
          (with_reducible refine (vB.out u2 (bcall hb0 (bcall hb1 hb2))).mono ?_)
          rintro e u3 ⟨aB, cB, rfl, hSB, hb3⟩
          go_simp
          refine hK.out _ _ (cell_later hb3 hS) ?_
          clear hK hS K
          intro hS
          try simp only [Act.put, List.setIfInBounds_toArray, List.set_cons_zero, List.set_cons_succ]
          have hz3 : u2.heap.size ≤ u3.heap.size := hb3.size
          refine region_call 5 rfl (by kernel_rfl) (fun K hK => ?_)
          go_simp
          refine hK.out _ _ (cell_later (below1 _ _) hS) ?_
          clear hK hS K
          intro hS
          try simp only [Act.put, List.setIfInBounds_toArray, List.set_cons_zero, List.set_cons_succ]
          generalize hgn : World.alloc u3 (.cells #[.slice none 0 0] 94) = u4 at hS ⊢
          have hb4 : Below u3.heap.size u3 u4 := by rw [← hgn]; exact below1 _ _
          have kD : u4.cell? ⟨u3.heap.size, 0, none⟩ = some (.slice none 0 0) := by rw [← hgn]; clear hgn; go_simp
          have zD : u4.frozen? ⟨u3.heap.size, 0, none⟩ = false := by rw [← hgn]; clear hgn; go_simp
          have hz4 : u3.heap.size < u4.heap.size := by rw [← hgn]; simp
          clear hgn
          have kC4 := (cell_later (bcall hb2 (bcall hb3 hb4)) kC)
          have kD4 := kD
          have zC4 := (frozen_later (bcall hb2 (bcall hb3 hb4)) (by omega) zC)
          have zD4 := zD
          have hSA4 := (hSA.below (bcall hb3 hb4))
          have hSB4 := (hSB.below hb4)
          have hBW4 := (bcall hb0 (bcall hb1 (bcall hb2 (bcall hb3 hb4))))
          have hzW : W.heap.size ≤ u0.heap.size := hb0.size
          refine region_call 6 rfl (by kernel_rfl) (fun K hK => ?_)
          go_simp
          refine hK.out _ _ ((gby_set u4 u0.heap.size 0 (.slice aA l.length cA)).cell hS (by intro e; injection e with e; simp at e; omega)) ?_
          clear hK hS K
          intro hS
          try simp only [Act.put, List.setIfInBounds_toArray, List.set_cons_zero, List.set_cons_succ]
          generalize hgn : World.setCell u4 ⟨u0.heap.size, 0, none⟩ (.slice aA l.length cA) = u5 at hS ⊢
          have g5 : u4.grownBy u5 (some u0.heap.size) := by rw [← hgn]; exact gby_set _ _ _ _
          have kC5 : u5.cell? ⟨u0.heap.size, 0, none⟩ = some (.slice aA l.length cA) := by rw [← hgn]; clear hgn; go_simp
          have kD5 := g5.cell kD4 (by intro e; injection e with e; simp at e; omega)
          have zD5 : u5.frozen? ⟨u3.heap.size, 0, none⟩ = false := by rw [← hgn]; clear hgn; go_simp
          clear hgn
          refine region_call 7 rfl (by kernel_rfl) (fun K hK => ?_)
          go_simp
          refine hK.out _ _ ((gby_set u5 u3.heap.size 0 (.slice aB ls.length cB)).cell hS (by intro e; injection e with e; simp at e; omega)) ?_
          clear hK hS K
          intro hS
          try simp only [Act.put, List.setIfInBounds_toArray, List.set_cons_zero, List.set_cons_succ]
          generalize hgn : World.setCell u5 ⟨u3.heap.size, 0, none⟩ (.slice aB ls.length cB) = u6 at hS ⊢
          have g6 : u5.grownBy u6 (some u3.heap.size) := by rw [← hgn]; exact gby_set _ _ _ _
          have kD6 : u6.cell? ⟨u3.heap.size, 0, none⟩ = some (.slice aB ls.length cB) := by rw [← hgn]; clear hgn; go_simp
          have kC6 := g6.cell kC5 (by intro e; injection e with e; simp at e; omega)
          clear hgn
          have hB5 := hBW4.grown g5 hBW4.size (fun k e => by injection e with e; omega)
          have hB6 := hB5.grown g6 hB5.size (fun k e => by injection e with e; omega)
          have hSA6 := (hSA4.same (w' := u5) (fun b hb hlt => g5.block b hlt (fun e => by injection e with e; have := hb.1; have := hb.2; omega))).same (w' := u6) (fun b hb hlt => g6.block b hlt (fun e => by injection e with e; have := hb.1; have := hb.2; omega))
          have hSB6 := (hSB4.same (w' := u5) (fun b hb hlt => g5.block b hlt (fun e => by injection e with e; have := hb.1; have := hb.2; omega))).same (w' := u6) (fun b hb hlt => g6.block b hlt (fun e => by injection e with e; have := hb.1; have := hb.2; omega))
          have vt := Lib.hid (los_tail2 hlsH.out hokH.out (hD1W.out.mono hD1W.out.1 (Nat.le_refl _)) (hD2W.out.mono hD2W.out.1 (Nat.le_refl _)) (h2H.out.below hBWw.out) hB6 q11H.out q4H.out kC6 kD6 hSA6 hSB6)
          have hBfin := Lib.hid (bcall hBWw.out hB6)
          clear kC4 kD4 zC4 zD4 hSA4 hSB4 g5 g6 hB5 hB6 hSA6 hSB6 hBW4
          refine wpAnyH_done (by kernel_rfl) ?_ _
          clear hS
          go_wp2_with fail
          refine vt.out.mono ?_
          rintro e w8 hso
          obtain ⟨v, rfl, hN⟩ := hso.names hBfin.out
          have hNH := Lib.hid (hN 0)
          clear hN hso
          go_wp2_with fail
          go_ret2
          rw [hf.out]
          exact hNH.out
        · skip
          go_simp
          refine hK.out _ _ (cell_later (below1 _ _) hS) ?_
          clear hK hS K
          intro hS
          try simp only [Act.put, List.setIfInBounds_toArray, List.set_cons_zero, List.set_cons_succ]
          generalize hgn : World.alloc u2 (.cells #[.slice none 0 0] 94) = u3 at hS ⊢
          have hb3 : Below u2.heap.size u2 u3 := by rw [← hgn]; exact below1 _ _
          have kD : u3.cell? ⟨u2.heap.size, 0, none⟩ = some (.slice none 0 0) := by rw [← hgn]; clear hgn; go_simp
          have zD : u3.frozen? ⟨u2.heap.size, 0, none⟩ = false := by rw [← hgn]; clear hgn; go_simp
          have hz3 : u2.heap.size < u3.heap.size := by rw [← hgn]; simp
          clear hgn
          refine region_call 3 rfl (by kernel_rfl) (fun K hK => ?_)
          go_simp
          (with_reducible refine (vB.out u3 (bcall hb0 (bcall hb1 (bcall hb2 hb3)))).mono ?_)
          rintro e u4 ⟨aB, cB, rfl, hSB, hb4⟩
          go_simp
          refine hK.out _ _ (cell_later hb4 hS) ?_
          clear hK hS K
          intro hS
          try simp only [Act.put, List.setIfInBounds_toArray, List.set_cons_zero, List.set_cons_succ]
          have hz4 : u3.heap.size ≤ u4.heap.size := hb4.size
          have kC4 := (cell_later (bcall hb2 (bcall hb3 hb4)) kC)
          have kD4 := (cell_later hb4 kD)
          have zC4 := (frozen_later (bcall hb2 (bcall hb3 hb4)) (by omega) zC)
          have zD4 := (frozen_later hb4 (by omega) zD)
          have hSA4 := (hSA.below (bcall hb3 hb4))
          have hSB4 := hSB
          have hBW4 := (bcall hb0 (bcall hb1 (bcall hb2 (bcall hb3 hb4))))
          have hzW : W.heap.size ≤ u0.heap.size := hb0.size
          refine region_call 6 rfl (by kernel_rfl) (fun K hK => ?_)
          go_simp
          refine hK.out _ _ ((gby_set u4 u0.heap.size 0 (.slice aA l.length cA)).cell hS (by intro e; injection e with e; simp at e; omega)) ?_
          clear hK hS K
          intro hS
          try simp only [Act.put, List.setIfInBounds_toArray, List.set_cons_zero, List.set_cons_succ]
          generalize hgn : World.setCell u4 ⟨u0.heap.size, 0, none⟩ (.slice aA l.length cA) = u5 at hS ⊢
          have g5 : u4.grownBy u5 (some u0.heap.size) := by rw [← hgn]; exact gby_set _ _ _ _
          have kC5 : u5.cell? ⟨u0.heap.size, 0, none⟩ = some (.slice aA l.length cA) := by rw [← hgn]; clear hgn; go_simp
          have kD5 := g5.cell kD4 (by intro e; injection e with e; simp at e; omega)
          have zD5 : u5.frozen? ⟨u2.heap.size, 0, none⟩ = false := by rw [← hgn]; clear hgn; go_simp
          clear hgn
          refine region_call 7 rfl (by kernel_rfl) (fun K hK => ?_)
          go_simp
          refine hK.out _ _ ((gby_set u5 u2.heap.size 0 (.slice aB ls.length cB)).cell hS (by intro e; injection e with e; simp at e; omega)) ?_
          clear hK hS K
          intro hS
          try simp only [Act.put, List.setIfInBounds_toArray, List.set_cons_zero, List.set_cons_succ]
          generalize hgn : World.setCell u5 ⟨u2.heap.size, 0, none⟩ (.slice aB ls.length cB) = u6 at hS ⊢
          have g6 : u5.grownBy u6 (some u2.heap.size) := by rw [← hgn]; exact gby_set _ _ _ _
          have kD6 : u6.cell? ⟨u2.heap.size, 0, none⟩ = some (.slice aB ls.length cB) := by rw [← hgn]; clear hgn; go_simp
          have kC6 := g6.cell kC5 (by intro e; injection e with e; simp at e; omega)
          clear hgn
          have hB5 := hBW4.grown g5 hBW4.size (fun k e => by injection e with e; omega)
          have hB6 := hB5.grown g6 hB5.size (fun k e => by injection e with e; omega)
          have hSA6 := (hSA4.same (w' := u5) (fun b hb hlt => g5.block b hlt (fun e => by injection e with e; have := hb.1; have := hb.2; omega))).same (w' := u6) (fun b hb hlt => g6.block b hlt (fun e => by injection e with e; have := hb.1; have := hb.2; omega))
          have hSB6 := (hSB4.same (w' := u5) (fun b hb hlt => g5.block b hlt (fun e => by injection e with e; have := hb.1; have := hb.2; omega))).same (w' := u6) (fun b hb hlt => g6.block b hlt (fun e => by injection e with e; have := hb.1; have := hb.2; omega))
          have vt := Lib.hid (los_tail2 hlsH.out hokH.out (hD1W.out.mono hD1W.out.1 (Nat.le_refl _)) (hD2W.out.mono hD2W.out.1 (Nat.le_refl _)) (h2H.out.below hBWw.out) hB6 q11H.out q4H.out kC6 kD6 hSA6 hSB6)
          have hBfin := Lib.hid (bcall hBWw.out hB6)
          clear kC4 kD4 zC4 zD4 hSA4 hSB4 g5 g6 hB5 hB6 hSA6 hSB6 hBW4
          refine wpAnyH_done (by kernel_rfl) ?_ _
          clear hS
          go_wp2_with fail
          refine vt.out.mono ?_
          rintro e w8 hso
          obtain ⟨v, rfl, hN⟩ := hso.names hBfin.out
          have hNH := Lib.hid (hN 0)
          clear hN hso
          go_wp2_with fail
          go_ret2
          rw [hf.out]
          exact hNH.out
      · skip
        go_simp
        refine hK.out _ _ (cell_later (below1 _ _) hS) ?_
        clear hK hS K
        intro hS
        try simp only [Act.put, List.setIfInBounds_toArray, List.set_cons_zero, List.set_cons_succ]
        generalize hgn : World.alloc u1 (.cells #[.slice none 0 0] 94) = u2 at hS ⊢
        have hb2 : Below u1.heap.size u1 u2 := by rw [← hgn]; exact below1 _ _
        have kD : u2.cell? ⟨u1.heap.size, 0, none⟩ = some (.slice none 0 0) := by rw [← hgn]; clear hgn; go_simp
        have zD : u2.frozen? ⟨u1.heap.size, 0, none⟩ = false := by rw [← hgn]; clear hgn; go_simp
        have hz2 : u1.heap.size < u2.heap.size := by rw [← hgn]; simp
        clear hgn
        refine region_call 1 rfl (by kernel_rfl) (fun K hK => ?_)
        go_simp
        (with_reducible refine (vA.out u2 (bcall hb0 (bcall hb1 hb2))).mono ?_)
        rintro e u3 ⟨aA, cA, rfl, hSA, hb3⟩
        go_simp
        refine hK.out _ _ (cell_later hb3 hS) ?_
        clear hK hS K
        intro hS
        try simp only [Act.put, List.setIfInBounds_toArray, List.set_cons_zero, List.set_cons_succ]
        have hz3 : u2.heap.size ≤ u3.heap.size := hb3.size
        refine region_call 3 rfl (by kernel_rfl) (fun K hK => ?_)
        go_simp
        (with_reducible refine (vB.out u3 (bcall hb0 (bcall hb1 (bcall hb2 hb3)))).mono ?_)
        rintro e u4 ⟨aB, cB, rfl, hSB, hb4⟩
        go_simp
        refine hK.out _ _ (cell_later hb4 hS) ?_
        clear hK hS K
        intro hS
        try simp only [Act.put, List.setIfInBounds_toArray, List.set_cons_zero, List.set_cons_succ]
        have hz4 : u3.heap.size ≤ u4.heap.size := hb4.size
        have kC4 := (cell_later (bcall hb2 (bcall hb3 hb4)) kC)
        have kD4 := (cell_later (bcall hb3 hb4) kD)
        have zC4 := (frozen_later (bcall hb2 (bcall hb3 hb4)) (by omega) zC)
        have zD4 := (frozen_later (bcall hb3 hb4) (by omega) zD)
        have hSA4 := (hSA.below hb4)
        have hSB4 := hSB
        have hBW4 := (bcall hb0 (bcall hb1 (bcall hb2 (bcall hb3 hb4))))
        have hzW : W.heap.size ≤ u0.heap.size := hb0.size
        refine region_call 6 rfl (by kernel_rfl) (fun K hK => ?_)
        go_simp
        refine hK.out _ _ ((gby_set u4 u0.heap.size 0 (.slice aA l.length cA)).cell hS (by intro e; injection e with e; simp at e; omega)) ?_
        clear hK hS K
        intro hS
        try simp only [Act.put, List.setIfInBounds_toArray, List.set_cons_zero, List.set_cons_succ]
        generalize hgn : World.setCell u4 ⟨u0.heap.size, 0, none⟩ (.slice aA l.length cA) = u5 at hS ⊢
        have g5 : u4.grownBy u5 (some u0.heap.size) := by rw [← hgn]; exact gby_set _ _ _ _
        have kC5 : u5.cell? ⟨u0.heap.size, 0, none⟩ = some (.slice aA l.length cA) := by rw [← hgn]; clear hgn; go_simp
        have kD5 := g5.cell kD4 (by intro e; injection e with e; simp at e; omega)
        have zD5 : u5.frozen? ⟨u1.heap.size, 0, none⟩ = false := by rw [← hgn]; clear hgn; go_simp
        clear hgn
        refine region_call 7 rfl (by kernel_rfl) (fun K hK => ?_)
        go_simp
        refine hK.out _ _ ((gby_set u5 u1.heap.size 0 (.slice aB ls.length cB)).cell hS (by intro e; injection e with e; simp at e; omega)) ?_
        clear hK hS K
        intro hS
        try simp only [Act.put, List.setIfInBounds_toArray, List.set_cons_zero, List.set_cons_succ]
        generalize hgn : World.setCell u5 ⟨u1.heap.size, 0, none⟩ (.slice aB ls.length cB) = u6 at hS ⊢
        have g6 : u5.grownBy u6 (some u1.heap.size) := by rw [← hgn]; exact gby_set _ _ _ _
        have kD6 : u6.cell? ⟨u1.heap.size, 0, none⟩ = some (.slice aB ls.length cB) := by rw [← hgn]; clear hgn; go_simp
        have kC6 := g6.cell kC5 (by intro e; injection e with e; simp at e; omega)
        clear hgn
        have hB5 := hBW4.grown g5 hBW4.size (fun k e => by injection e with e; omega)
        have hB6 := hB5.grown g6 hB5.size (fun k e => by injection e with e; omega)
        have hSA6 := (hSA4.same (w' := u5) (fun b hb hlt => g5.block b hlt (fun e => by injection e with e; have := hb.1; have := hb.2; omega))).same (w' := u6) (fun b hb hlt => g6.block b hlt (fun e => by injection e with e; have := hb.1; have := hb.2; omega))
        have hSB6 := (hSB4.same (w' := u5) (fun b hb hlt => g5.block b hlt (fun e => by injection e with e; have := hb.1; have := hb.2; omega))).same (w' := u6) (fun b hb hlt => g6.block b hlt (fun e => by injection e with e; have := hb.1; have := hb.2; omega))
        have vt := Lib.hid (los_tail2 hlsH.out hokH.out (hD1W.out.mono hD1W.out.1 (Nat.le_refl _)) (hD2W.out.mono hD2W.out.1 (Nat.le_refl _)) (h2H.out.below hBWw.out) hB6 q11H.out q4H.out kC6 kD6 hSA6 hSB6)
        have hBfin := Lib.hid (bcall hBWw.out hB6)
        clear kC4 kD4 zC4 zD4 hSA4 hSB4 g5 g6 hB5 hB6 hSA6 hSB6 hBW4
        refine wpAnyH_done (by kernel_rfl) ?_ _
        clear hS
        go_wp2_with fail
        refine vt.out.mono ?_
        rintro e w8 hso
        obtain ⟨v, rfl, hN⟩ := hso.names hBfin.out
        have hNH := Lib.hid (hN 0)
        clear hN hso
        go_wp2_with fail
        go_ret2
        rw [hf.out]
        exact hNH.out
    · skip
      go_simp
      refine hK.out _ _ (cell_later (below1 _ _) hS) ?_
      clear hK hS K
      intro hS
      try simp only [Act.put, List.setIfInBounds_toArray, List.set_cons_zero, List.set_cons_succ]
      generalize hgn : World.alloc u0 (.cells #[.slice none 0 0] 94) = u1 at hS ⊢
      have hb1 : Below u0.heap.size u0 u1 := by rw [← hgn]; exact below1 _ _
      have kD : u1.cell? ⟨u0.heap.size, 0, none⟩ = some (.slice none 0 0) := by rw [← hgn]; clear hgn; go_simp
      have zD : u1.frozen? ⟨u0.heap.size, 0, none⟩ = false := by rw [← hgn]; clear hgn; go_simp
      have hz1 : u0.heap.size < u1.heap.size := by rw [← hgn]; simp
      clear hgn
      refine region_both 1 4 rfl rfl (by kernel_rfl) (fun K hK => ?_) (fun K hK => ?_) 
      · skip
        go_simp
        (with_reducible refine (vA.out u1 (bcall hb0 hb1)).mono ?_)
        rintro e u2 ⟨aA, cA, rfl, hSA, hb2⟩
        go_simp
        refine hK.out _ _ (cell_later hb2 hS) ?_
        clear hK hS K
        intro hS
        try simp only [Act.put, List.setIfInBounds_toArray, List.set_cons_zero, List.set_cons_succ]
        have hz2 : u1.heap.size ≤ u2.heap.size := hb2.size
        refine region_both 3 4 rfl rfl (by kernel_rfl) (fun K hK => ?_) (fun K hK => ?_) 
        · skip
          go_simp
          (with_reducible refine (vB.out u2 (bcall hb0 (bcall hb1 hb2))).mono ?_)
          rintro e u3 ⟨aB, cB, rfl, hSB, hb3⟩
          go_simp
          refine hK.out _ _ (cell_later hb3 hS) ?_
          clear hK hS K
          intro hS
          try simp only [Act.put, List.setIfInBounds_toArray, List.set_cons_zero, List.set_cons_succ]
          have hz3 : u2.heap.size ≤ u3.heap.size := hb3.size
          refine region_call 4 rfl (by kernel_rfl) (fun K hK => ?_)
          go_simp
          refine hK.out _ _ (cell_later (below1 _ _) hS) ?_
          clear hK hS K
          intro hS
          try simp only [Act.put, List.setIfInBounds_toArray, List.set_cons_zero, List.set_cons_succ]
          generalize hgn : World.alloc u3 (.cells #[.slice none 0 0] 94) = u4 at hS ⊢
          have hb4 : Below u3.heap.size u3 u4 := by rw [← hgn]; exact below1 _ _
          have kC : u4.cell? ⟨u3.heap.size, 0, none⟩ = some (.slice none 0 0) := by rw [← hgn]; clear hgn; go_simp
          have zC : u4.frozen? ⟨u3.heap.size, 0, none⟩ = false := by rw [← hgn]; clear hgn; go_simp
          have hz4 : u3.heap.size < u4.heap.size := by rw [← hgn]; simp
          clear hgn
          have kC4 := kC
          have kD4 := (cell_later (bcall hb2 (bcall hb3 hb4)) kD)
          have zC4 := zC
          have zD4 := (frozen_later (bcall hb2 (bcall hb3 hb4)) (by omega) zD)
          have hSA4 := (hSA.below (bcall hb3 hb4))
          have hSB4 := (hSB.below hb4)
          have hBW4 := (bcall hb0 (bcall hb1 (bcall hb2 (bcall hb3 hb4))))
          have hzW : W.heap.size ≤ u0.heap.size := hb0.size
          refine region_call 6 rfl (by kernel_rfl) (fun K hK => ?_)
          go_simp
          refine hK.out _ _ ((gby_set u4 u3.heap.size 0 (.slice aA l.length cA)).cell hS (by intro e; injection e with e; simp at e; omega)) ?_
          clear hK hS K
          intro hS
          try simp only [Act.put, List.setIfInBounds_toArray, List.set_cons_zero, List.set_cons_succ]
          generalize hgn : World.setCell u4 ⟨u3.heap.size, 0, none⟩ (.slice aA l.length cA) = u5 at hS ⊢
          have g5 : u4.grownBy u5 (some u3.heap.size) := by rw [← hgn]; exact gby_set _ _ _ _
          have kC5 : u5.cell? ⟨u3.heap.size, 0, none⟩ = some (.slice aA l.length cA) := by rw [← hgn]; clear hgn; go_simp
          have kD5 := g5.cell kD4 (by intro e; injection e with e; simp at e; omega)
          have zD5 : u5.frozen? ⟨u0.heap.size, 0, none⟩ = false := by rw [← hgn]; clear hgn; go_simp
          clear hgn
          refine region_call 7 rfl (by kernel_rfl) (fun K hK => ?_)
          go_simp
          refine hK.out _ _ ((gby_set u5 u0.heap.size 0 (.slice aB ls.length cB)).cell hS (by intro e; injection e with e; simp at e; omega)) ?_
          clear hK hS K
          intro hS
          try simp only [Act.put, List.setIfInBounds_toArray, List.set_cons_zero, List.set_cons_succ]
          generalize hgn : World.setCell u5 ⟨u0.heap.size, 0, none⟩ (.slice aB ls.length cB) = u6 at hS ⊢
          have g6 : u5.grownBy u6 (some u0.heap.size) := by rw [← hgn]; exact gby_set _ _ _ _
          have kD6 : u6.cell? ⟨u0.heap.size, 0, none⟩ = some (.slice aB ls.length cB) := by rw [← hgn]; clear hgn; go_simp
          have kC6 := g6.cell kC5 (by intro e; injection e with e; simp at e; omega)
          clear hgn
          have hB5 := hBW4.grown g5 hBW4.size (fun k e => by injection e with e; omega)
          have hB6 := hB5.grown g6 hB5.size (fun k e => by injection e with e; omega)
          have hSA6 := (hSA4.same (w' := u5) (fun b hb hlt => g5.block b hlt (fun e => by injection e with e; have := hb.1; have := hb.2; omega))).same (w' := u6) (fun b hb hlt => g6.block b hlt (fun e => by injection e with e; have := hb.1; have := hb.2; omega))
          have hSB6 := (hSB4.same (w' := u5) (fun b hb hlt => g5.block b hlt (fun e => by injection e with e; have := hb.1; have := hb.2; omega))).same (w' := u6) (fun b hb hlt => g6.block b hlt (fun e => by injection e with e; have := hb.1; have := hb.2; omega))
          have vt := Lib.hid (los_tail2 hlsH.out hokH.out (hD1W.out.mono hD1W.out.1 (Nat.le_refl _)) (hD2W.out.mono hD2W.out.1 (Nat.le_refl _)) (h2H.out.below hBWw.out) hB6 q11H.out q4H.out kC6 kD6 hSA6 hSB6)
          have hBfin := Lib.hid (bcall hBWw.out hB6)
          clear kC4 kD4 zC4 zD4 hSA4 hSB4 g5 g6 hB5 hB6 hSA6 hSB6 hBW4
          refine wpAnyH_done (by kernel_rfl) ?_ _
          clear hS
          go_wp2_with fail
          refine vt.out.mono ?_
          rintro e w8 hso
          obtain ⟨v, rfl, hN⟩ := hso.names hBfin.out
          have hNH := Lib.hid (hN 0)
          clear hN hso
          go_wp2_with fail
          go_ret2
          rw [hf.out]
          exact hNH.out
        · skip
          go_simp
          refine hK.out _ _ (cell_later (below1 _ _) hS) ?_
          clear hK hS K
          intro hS
          try simp only [Act.put, List.setIfInBounds_toArray, List.set_cons_zero, List.set_cons_succ]
          generalize hgn : World.alloc u2 (.cells #[.slice none 0 0] 94) = u3 at hS ⊢
          have hb3 : Below u2.heap.size u2 u3 := by rw [← hgn]; exact below1 _ _
          have kC : u3.cell? ⟨u2.heap.size, 0, none⟩ = some (.slice none 0 0) := by rw [← hgn]; clear hgn; go_simp
          have zC : u3.frozen? ⟨u2.heap.size, 0, none⟩ = false := by rw [← hgn]; clear hgn; go_simp
          have hz3 : u2.heap.size < u3.heap.size := by rw [← hgn]; simp
          clear hgn
          refine region_call 3 rfl (by kernel_rfl) (fun K hK => ?_)
          go_simp
          (with_reducible refine (vB.out u3 (bcall hb0 (bcall hb1 (bcall hb2 hb3)))).mono ?_)
          rintro e u4 ⟨aB, cB, rfl, hSB, hb4⟩
          go_simp
          refine hK.out _ _ (cell_later hb4 hS) ?_
          clear hK hS K
          intro hS
          try simp only [Act.put, List.setIfInBounds_toArray, List.set_cons_zero, List.set_cons_succ]
          have hz4 : u3.heap.size ≤ u4.heap.size := hb4.size
          have kC4 := (cell_later hb4 kC)
          have kD4 := (cell_later (bcall hb2 (bcall hb3 hb4)) kD)
          have zC4 := (frozen_later hb4 (by omega) zC)
          have zD4 := (frozen_later (bcall hb2 (bcall hb3 hb4)) (by omega) zD)
          have hSA4 := (hSA.below (bcall hb3 hb4))
          have hSB4 := hSB
          have hBW4 := (bcall hb0 (bcall hb1 (bcall hb2 (bcall hb3 hb4))))
          have hzW : W.heap.size ≤ u0.heap.size := hb0.size
          refine region_call 6 rfl (by kernel_rfl) (fun K hK => ?_)
          go_simp
          refine hK.out _ _ ((gby_set u4 u2.heap.size 0 (.slice aA l.length cA)).cell hS (by intro e; injection e with e; simp at e; omega)) ?_
          clear hK hS K
          intro hS
          try simp only [Act.put, List.setIfInBounds_toArray, List.set_cons_zero, List.set_cons_succ]
          generalize hgn : World.setCell u4 ⟨u2.heap.size, 0, none⟩ (.slice aA l.length cA) = u5 at hS ⊢
          have g5 : u4.grownBy u5 (some u2.heap.size) := by rw [← hgn]; exact gby_set _ _ _ _
          have kC5 : u5.cell? ⟨u2.heap.size, 0, none⟩ = some (.slice aA l.length cA) := by rw [← hgn]; clear hgn; go_simp
          have kD5 := g5.cell kD4 (by intro e; injection e with e; simp at e; omega)
          have zD5 : u5.frozen? ⟨u0.heap.size, 0, none⟩ = false := by rw [← hgn]; clear hgn; go_simp
          clear hgn
          refine region_call 7 rfl (by kernel_rfl) (fun K hK => ?_)
          go_simp
          refine hK.out _ _ ((gby_set u5 u0.heap.size 0 (.slice aB ls.length cB)).cell hS (by intro e; injection e with e; simp at e; omega)) ?_
          clear hK hS K
          intro hS
          try simp only [Act.put, List.setIfInBounds_toArray, List.set_cons_zero, List.set_cons_succ]
          generalize hgn : World.setCell u5 ⟨u0.heap.size, 0, none⟩ (.slice aB ls.length cB) = u6 at hS ⊢
          have g6 : u5.grownBy u6 (some u0.heap.size) := by rw [← hgn]; exact gby_set _ _ _ _
          have kD6 : u6.cell? ⟨u0.heap.size, 0, none⟩ = some (.slice aB ls.length cB) := by rw [← hgn]; clear hgn; go_simp
          have kC6 := g6.cell kC5 (by intro e; injection e with e; simp at e; omega)
          clear hgn
          have hB5 := hBW4.grown g5 hBW4.size (fun k e => by injection e with e; omega)
          have hB6 := hB5.grown g6 hB5.size (fun k e => by injection e with e; omega)
          have hSA6 := (hSA4.same (w' := u5) (fun b hb hlt => g5.block b hlt (fun e => by injection e with e; have := hb.1; have := hb.2; omega))).same (w' := u6) (fun b hb hlt => g6.block b hlt (fun e => by injection e with e; have := hb.1; have := hb.2; omega))
          have hSB6 := (hSB4.same (w' := u5) (fun b hb hlt => g5.block b hlt (fun e => by injection e with e; have := hb.1; have := hb.2; omega))).same (w' := u6) (fun b hb hlt => g6.block b hlt (fun e => by injection e with e; have := hb.1; have := hb.2; omega))
          have vt := Lib.hid (los_tail2 hlsH.out hokH.out (hD1W.out.mono hD1W.out.1 (Nat.le_refl _)) (hD2W.out.mono hD2W.out.1 (Nat.le_refl _)) (h2H.out.below hBWw.out) hB6 q11H.out q4H.out kC6 kD6 hSA6 hSB6)
          have hBfin := Lib.hid (bcall hBWw.out hB6)
          clear kC4 kD4 zC4 zD4 hSA4 hSB4 g5 g6 hB5 hB6 hSA6 hSB6 hBW4
          refine wpAnyH_done (by kernel_rfl) ?_ _
          clear hS
          go_wp2_with fail
          refine vt.out.mono ?_
          rintro e w8 hso
          obtain ⟨v, rfl, hN⟩ := hso.names hBfin.out
          have hNH := Lib.hid (hN 0)
          clear hN hso
          go_wp2_with fail
          go_ret2
          rw [hf.out]
          exact hNH.out
      · skip
        go_simp
        refine hK.out _ _ (cell_later (below1 _ _) hS) ?_
        clear hK hS K
        intro hS
        try simp only [Act.put, List.setIfInBounds_toArray, List.set_cons_zero, List.set_cons_succ]
        generalize hgn : World.alloc u1 (.cells #[.slice none 0 0] 94) = u2 at hS ⊢
        have hb2 : Below u1.heap.size u1 u2 := by rw [← hgn]; exact below1 _ _
        have kC : u2.cell? ⟨u1.heap.size, 0, none⟩ = some (.slice none 0 0) := by rw [← hgn]; clear hgn; go_simp
        have zC : u2.frozen? ⟨u1.heap.size, 0, none⟩ = false := by rw [← hgn]; clear hgn; go_simp
        have hz2 : u1.heap.size < u2.heap.size := by rw [← hgn]; simp
        clear hgn
        refine region_call 1 rfl (by kernel_rfl) (fun K hK => ?_)
        go_simp
        (with_reducible refine (vA.out u2 (bcall hb0 (bcall hb1 hb2))).mono ?_)
        rintro e u3 ⟨aA, cA, rfl, hSA, hb3⟩
        go_simp
        refine hK.out _ _ (cell_later hb3 hS) ?_
        clear hK hS K
        intro hS
        try simp only [Act.put, List.setIfInBounds_toArray, List.set_cons_zero, List.set_cons_succ]
        have hz3 : u2.heap.size ≤ u3.heap.size := hb3.size
        refine region_call 3 rfl (by kernel_rfl) (fun K hK => ?_)
        go_simp
        (with_reducible refine (vB.out u3 (bcall hb0 (bcall hb1 (bcall hb2 hb3)))).mono ?_)
        rintro e u4 ⟨aB, cB, rfl, hSB, hb4⟩
        go_simp
        refine hK.out _ _ (cell_later hb4 hS) ?_
        clear hK hS K
        intro hS
        try simp only [Act.put, List.setIfInBounds_toArray, List.set_cons_zero, List.set_cons_succ]
        have hz4 : u3.heap.size ≤ u4.heap.size := hb4.size
        have kC4 := (cell_later (bcall hb3 hb4) kC)
        have kD4 := (cell_later (bcall hb2 (bcall hb3 hb4)) kD)
        have zC4 := (frozen_later (bcall hb3 hb4) (by omega) zC)
        have zD4 := (frozen_later (bcall hb2 (bcall hb3 hb4)) (by omega) zD)
        have hSA4 := (hSA.below hb4)
        have hSB4 := hSB
        have hBW4 := (bcall hb0 (bcall hb1 (bcall hb2 (bcall hb3 hb4))))
        have hzW : W.heap.size ≤ u0.heap.size := hb0.size
        refine region_call 6 rfl (by kernel_rfl) (fun K hK => ?_)
        go_simp
        refine hK.out _ _ ((gby_set u4 u1.heap.size 0 (.slice aA l.length cA)).cell hS (by intro e; injection e with e; simp at e; omega)) ?_
        clear hK hS K
        intro hS
        try simp only [Act.put, List.setIfInBounds_toArray, List.set_cons_zero, List.set_cons_succ]
        generalize hgn : World.setCell u4 ⟨u1.heap.size, 0, none⟩ (.slice aA l.length cA) = u5 at hS ⊢
        have g5 : u4.grownBy u5 (some u1.heap.size) := by rw [← hgn]; exact gby_set _ _ _ _
        have kC5 : u5.cell? ⟨u1.heap.size, 0, none⟩ = some (.slice aA l.length cA) := by rw [← hgn]; clear hgn; go_simp
        have kD5 := g5.cell kD4 (by intro e; injection e with e; simp at e; omega)
        have zD5 : u5.frozen? ⟨u0.heap.size, 0, none⟩ = false := by rw [← hgn]; clear hgn; go_simp
        clear hgn
        refine region_call 7 rfl (by kernel_rfl) (fun K hK => ?_)
        go_simp
        refine hK.out _ _ ((gby_set u5 u0.heap.size 0 (.slice aB ls.length cB)).cell hS (by intro e; injection e with e; simp at e; omega)) ?_
        clear hK hS K
        intro hS
        try simp only [Act.put, List.setIfInBounds_toArray, List.set_cons_zero, List.set_cons_succ]
        generalize hgn : World.setCell u5 ⟨u0.heap.size, 0, none⟩ (.slice aB ls.length cB) = u6 at hS ⊢
        have g6 : u5.grownBy u6 (some u0.heap.size) := by rw [← hgn]; exact gby_set _ _ _ _
        have kD6 : u6.cell? ⟨u0.heap.size, 0, none⟩ = some (.slice aB ls.length cB) := by rw [← hgn]; clear hgn; go_simp
        have kC6 := g6.cell kC5 (by intro e; injection e with e; simp at e; omega)
        clear hgn
        have hB5 := hBW4.grown g5 hBW4.size (fun k e => by injection e with e; omega)
        have hB6 := hB5.grown g6 hB5.size (fun k e => by injection e with e; omega)
        have hSA6 := (hSA4.same (w' := u5) (fun b hb hlt => g5.block b hlt (fun e => by injection e with e; have := hb.1; have := hb.2; omega))).same (w' := u6) (fun b hb hlt => g6.block b hlt (fun e => by injection e with e; have := hb.1; have := hb.2; omega))
        have hSB6 := (hSB4.same (w' := u5) (fun b hb hlt => g5.block b hlt (fun e => by injection e with e; have := hb.1; have := hb.2; omega))).same (w' := u6) (fun b hb hlt => g6.block b hlt (fun e => by injection e with e; have := hb.1; have := hb.2; omega))
        have vt := Lib.hid (los_tail2 hlsH.out hokH.out (hD1W.out.mono hD1W.out.1 (Nat.le_refl _)) (hD2W.out.mono hD2W.out.1 (Nat.le_refl _)) (h2H.out.below hBWw.out) hB6 q11H.out q4H.out kC6 kD6 hSA6 hSB6)
        have hBfin := Lib.hid (bcall hBWw.out hB6)
        clear kC4 kD4 zC4 zD4 hSA4 hSB4 g5 g6 hB5 hB6 hSA6 hSB6 hBW4
        refine wpAnyH_done (by kernel_rfl) ?_ _
        clear hS
        go_wp2_with fail
        refine vt.out.mono ?_
        rintro e w8 hso
        obtain ⟨v, rfl, hN⟩ := hso.names hBfin.out
        have hNH := Lib.hid (hN 0)
        clear hN hso
        go_wp2_with fail
        go_ret2
        rw [hf.out]
        exact hNH.out
end Go.Proofs.YtpmnnoopoblpgaaGreat
