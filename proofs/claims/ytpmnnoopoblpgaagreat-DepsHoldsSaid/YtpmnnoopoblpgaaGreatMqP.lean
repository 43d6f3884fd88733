/- The proof of a statement, some of its texts joined in build order: part P. -/
import Derived.Test.YtpmnnoopoblpgaaGreatRegS
import Derived.Test.YtpmnnoopoblpgaaGreatMqD
import Derived.Lib.SlicesCompact
import Derived.Test.YtpmnnoopoblpgaaGreatMqE
import Derived.Test.YtpmnnoopoblpgaaGreatMqA
import Derived.Test.YtpmnnoopoblpgaaGreatMqC
import Derived.Test.YtpmnnoopoblpgaaGreatMqB
import Derived.Test.YtpmnnoopoblpgaaGreatMqV
import Derived.Deep.RegionLaw
import Derived.Deep.RegionWith
import Derived.Test.YtpmnnoopoblpgaaGreatMqI
import Derived.BigQuiet
import Derived.Deep.WholeRow
import Derived.Test.YtpmnnoopoblpgaaGreatWalkE
import Derived.Test.YtpmnnoopoblpgaaGreatWalkJ
import Derived.Laws.CopyOwn
import Derived.Test.YtpmnnoopoblpgaaGreatMqR
import Derived.Test.YtpmnnoopoblpgaaGreatRegion
import Derived.Maps.RangeWalk
/- Needed steps, counts and heights of proofs by their trees, in plain words. No program is named. -/
namespace Go.Proofs.YtpmnnoopoblpgaaGreat

end Go.Proofs.YtpmnnoopoblpgaaGreat

/- Givens that needed steps cite, in plain words: a sorted list, each once, is what a range is left with. No program is named. -/
namespace Go.Proofs.YtpmnnoopoblpgaaGreat

end Go.Proofs.YtpmnnoopoblpgaaGreat

/- What Needed answers, in plain words. No program is named. -/
namespace Go.Proofs.YtpmnnoopoblpgaaGreat
end Go.Proofs.YtpmnnoopoblpgaaGreat

/- If entries say something more general, what holds goes on holding, where no step becomes too great or has no "if". No program is named. -/
namespace Go.Proofs.YtpmnnoopoblpgaaGreat

theorem insSelf {s : Sg} (a : List Int) : Ins s a a := ⟨fun n => [n], fun _ hn => W1.var hn, ap_id (fun _ _ _ => rfl)⟩
theorem okEnt_says' {s : Sg} {x : Ent} (h : okEnt s x = true) : okT s (eSays x) = true := by
 unfold okEnt at h
 simp only [Bool.and_eq_true] at h
 have h2 := h.1.2.2
 unfold isCanonT at h2
 rw [Bool.and_eq_true] at h2
 exact h2.1
end Go.Proofs.YtpmnnoopoblpgaaGreat

/- What is shaken: told by marks and told by names, it is one. No program is named. -/
namespace Go.Proofs.YtpmnnoopoblpgaaGreat

def mssB (l : List Ent) (u : ByteArray) : Bool := l.any (fun x => memB (eUses x) u) && (atN l u).isNone
noncomputable def badB (s : Sg) (l : List Ent) (u : ByteArray) : Bool := mssB l u || chB l (fun i => !holdX s l i) u
open Classical in
noncomputable def goodB (s : Sg) (l : List Ent) (i : Nat) : Bool := !badB s l (nmI l i) && decide (∀ n, rchB l (fun _ => true) (nmI l i) n = true → badB s l n = false)
def lackB (l : List Ent) (i : Nat) : Bool := (usI l i).any (fun u => (atN l u).isNone)
noncomputable def leanI (l : List Ent) (i n : Nat) : Bool := citeB l (List.replicate l.length false) i n
noncomputable def shkB (s : Sg) (l : List Ent) (i : Nat) : Bool := holdX s l i && (lackB l i || (List.range l.length).any (fun k => leanI l i k && (!holdX s l k || lackB l k)))
theorem leanI_iff {l : List Ent} {i n : Nat} (hn : n < l.length) : leanI l i n = true ↔ rchB l (fun _ => true) (nmI l i) (nmI l n) = true := by
 unfold leanI
 rw [citeB_iff, rchB_iff, cit_free hn]
theorem mss_of {l : List Ent} {q : Nat} (hq : q < l.length) {u : ByteArray} (hu : u ∈ usI l q) (hat : (atN l u).isNone = true) : mssB l u = true := by
 unfold mssB
 rw [hat, Bool.and_true, List.any_eq_true]
 rw [usI_at hq] at hu
 exact ⟨l[q], List.getElem_mem hq, memB_iff.2 hu⟩
theorem bad_fail {s : Sg} {l : List Ent} {k : Nat} (hk : k < l.length) (h : holdX s l k = false) : badB s l (nmI l k) = true := by
 unfold badB
 rw [Bool.or_eq_true]
 exact .inr (chB_iff.2 ⟨k, hk, by rw [h]; rfl, (nmI_at hk).symm⟩)
theorem bad_in {s : Sg} {l : List Ent} (hd : (l.map eNm).Nodup) {k : Nat} (hk : k < l.length) : badB s l (nmI l k) = !holdX s l k := by
 cases h : holdX s l k with
 | false => exact bad_fail hk h
 | true =>
  have h1 : mssB l (nmI l k) = false := by unfold mssB; rw [atN_nmI hd hk]; simp
  have h2 : chB l (fun i => !holdX s l i) (nmI l k) = false := by
   cases e : chB l (fun i => !holdX s l i) (nmI l k) with
   | false => rfl
   | true =>
    obtain ⟨j, hj, e1, e2⟩ := chB_iff.1 e
    have : j = k := by
     have a1 := atN_at hd hj
     rw [e2, atN_nmI hd hk] at a1
     injection a1 with a1; exact a1.symm
    subst this
    rw [h] at e1; cases e1
  unfold badB
  rw [h1, h2]; rfl
theorem rch_last {us : ByteArray → List ByteArray} {may : ByteArray → Prop} {n u : ByteArray} (h : Rch us may n u) : u ∈ us n ∨ ∃ m, Rch us may n m ∧ u ∈ us m := by
 cases h with
 | one h1 _ => exact .inl h1
 | more h0 h1 _ => exact .inr ⟨_, h0, h1⟩
open Classical in
theorem goodB_iff {s : Sg} {l : List Ent} {i : Nat} : goodB s l i = true ↔ badB s l (nmI l i) = false ∧ ∀ n, rchB l (fun _ => true) (nmI l i) n = true → badB s l n = false := by
 unfold goodB
 rw [Bool.and_eq_true, decide_eq_true_eq, Bool.not_eq_true']
theorem good_holds {s : Sg} {l : List Ent} (hd : (l.map eNm).Nodup) {i : Nat} (hi : i < l.length) (h : goodB s l i = true) : holdX s l i = true := by
 have := (goodB_iff.1 h).1
 rw [bad_in hd hi] at this
 simpa using this
theorem good_iff {s : Sg} {l : List Ent} (hd : (l.map eNm).Nodup) {i : Nat} (hi : i < l.length) : goodB s l i = (holdX s l i && !shkB s l i) := by
 cases hh : holdX s l i with
 | false =>
  cases hg : goodB s l i with
  | false => rfl
  | true => rw [good_holds hd hi hg] at hh; cases hh
 | true =>
  rw [Bool.true_and]
  have hus : ∀ {q : Nat} {u : ByteArray}, q < l.length → u ∈ usI l q → u ∈ usesN l (nmI l q) := fun hq hu => by rw [usesN_nmI hd hq]; exact hu
  have key : goodB s l i = true ↔ shkB s l i = false := by
   rw [goodB_iff, bad_in hd hi, hh]
   simp only [Bool.not_true, true_and]
   constructor
   ·intro hall
    cases hs : shkB s l i with
    | false => rfl
    | true =>
     exfalso
     unfold shkB at hs
     rw [hh, Bool.true_and, Bool.or_eq_true] at hs
     rcases hs with hs | hs
     ·unfold lackB at hs
      obtain ⟨u, hu, hn⟩ := List.any_eq_true.1 hs
      have h1 := hall u (rchB_iff.2 (.one (hus hi hu) rfl))
      unfold badB at h1
      rw [mss_of hi hu hn] at h1; cases h1
     ·obtain ⟨k, hk, h1⟩ := List.any_eq_true.1 hs
      rw [List.mem_range] at hk
      rw [Bool.and_eq_true, leanI_iff hk, Bool.or_eq_true] at h1
      obtain ⟨h1, h2⟩ := h1
      rcases h2 with h2 | h2
      ·have := hall _ h1
       rw [bad_in hd hk, h2] at this; cases this
      ·unfold lackB at h2
       obtain ⟨u, hu, hn⟩ := List.any_eq_true.1 h2
       have h3 := hall u (rchB_iff.2 ((rchB_iff.1 h1).more (hus hk hu) rfl))
       unfold badB at h3
       rw [mss_of hk hu hn] at h3; cases h3
   ·intro hs n hn
    cases hb : badB s l n with
    | false => rfl
    | true =>
     exfalso
     have hr := rchB_iff.1 hn
     have hs' : shkB s l i = true := by
      unfold shkB
      rw [hh, Bool.true_and, Bool.or_eq_true]
      unfold badB at hb
      rw [Bool.or_eq_true] at hb
      have hin : ∀ (m : ByteArray) (v : ByteArray), v ∈ usesN l m → ∃ q, q < l.length ∧ nmI l q = m ∧ v ∈ usI l q := fun m v hv => by
       cases hat : atN l m with
       | none => unfold usesN at hv; rw [hat] at hv; cases hv
       | some q =>
        obtain ⟨h1, h2⟩ := nmI_of hat
        exact ⟨q, h1, h2, by rw [← h2, usesN_nmI hd h1] at hv; exact hv⟩
      rcases hb with hb | hb
      ·unfold mssB at hb
       rw [Bool.and_eq_true] at hb
       rcases rch_last hr with h1 | ⟨m, h1, h2⟩
       ·left
        unfold lackB
        rw [usesN_nmI hd hi] at h1
        exact List.any_eq_true.2 ⟨n, h1, hb.2⟩
       ·right
        obtain ⟨q, hq, e, hv⟩ := hin m n h2
        refine List.any_eq_true.2 ⟨q, List.mem_range.2 hq, ?_⟩
        rw [Bool.and_eq_true, leanI_iff hq, Bool.or_eq_true, e]
        exact ⟨rchB_iff.2 h1, .inr (List.any_eq_true.2 ⟨n, hv, hb.2⟩)⟩
      ·right
       obtain ⟨k, hk, e1, e2⟩ := chB_iff.1 hb
       refine List.any_eq_true.2 ⟨k, List.mem_range.2 hk, ?_⟩
       rw [Bool.and_eq_true, leanI_iff hk, Bool.or_eq_true, nmI_at hk, e2]
       exact ⟨hn, .inl e1⟩
     rw [hs'] at hs; cases hs
  cases hg : goodB s l i with
  | true => rw [key.1 hg]; rfl
  | false =>
   cases hs : shkB s l i with
   | true => rfl
   | false => rw [key.2 hs] at hg; cases hg
theorem shk_good {s : Sg} {l : List Ent} (hd : (l.map eNm).Nodup) {i : Nat} (hi : i < l.length) : shkB s l i = (holdX s l i && !goodB s l i) := by
 rw [good_iff hd hi]
 cases hh : holdX s l i with
 | true => simp
 | false => unfold shkB; rw [hh]; rfl
end Go.Proofs.YtpmnnoopoblpgaaGreat

/- Walks of the reference's solver: Apart. -/
namespace Go.Proofs.YtpmnnoopoblpgaaGreat
open Go Go.RowKit Go.Maps

set_option maxHeartbeats 1000000 in
theorem rApart_any {S : Nat → Prop} (a : Option Addr) (c : Nat) (t : List Int) (w : World) (h : Ints S w a c t) (hl : t.length ≤ lim) (hne : t ≠ []) (hr : ∀ x ∈ t, x < 0 → -12 ≤ x) :
  Calls Tryz.prog 216 #[.slice a t.length c] w (retOwn w (apartT t)) := by
 have m := h.le
 have hl6 : t.length ≤ 1000000 := hl
 obtain ⟨v', w', hrun, ho, hg, -, -⟩ := (OwnL.made intE (fun _ => False) w w.heap.size 3 (Nat.le_refl _)).append_run (P := Tryz.prog) (t := 26) (ty := 26) Tryz.underlying26 infoInt rfl (h.below (below1 w (.cells #[] 3))) (fun _ _ _ h => h) (by simp; omega) (by unfold big; simp; omega) (by simp)
 have hB : Below w.heap.size w w' := (below1 w (.cells #[] 3)).grown hg (by simp) (fun k e => by simp [Value.ownBlock] at e; omega)
 rw [List.nil_append] at ho
 obtain ⟨g, cap, rfl, hg1, hg2⟩ := OwnL.form ho hne
 have hrunH := Lib.hid hrun
 have hoH := Lib.hid ho
 have hBH := Lib.hid hB
 have hrH := Lib.hid hr
 clear hr hrun ho hB hg
 go_enter Tryz.func216, Tryz.ntmps216
 go_wp2_with (at_builtin; refine wpList_append_run rfl _ _ _ rfl rfl rfl hrunH.out ?_)
 go_loopw [4] (fun i wr => apRel t w w.heap.size g cap i wr) (fun i _ => t.length - (intOf i).toNat)
 case atStart => exact ⟨0, rfl, Nat.zero_le _, by rw [doneTo_zero]; exact hoH.out, hBH.out⟩
 case round =>
  obtain ⟨k, rfl, hk, ho, hB⟩ := hrel
  by_cases hlt : k < t.length
  ·obtain ⟨b, o, rfl, -, q, hrg⟩ := (h.below hB).int k hlt
   have hxr := hrH.out t[k] (List.getElem_mem hlt)
   have hset := doneTo_set hlt (f := apN)
   have hsame := doneTo_same hlt (f := apN)
   have hget := doneTo_get hlt (f := apN)
   obtain ⟨hc1, hf1⟩ := ho.cellInt (by rw [doneTo_length]) k (by rw [doneTo_length]; exact hlt)
   rw [hget] at hc1
   obtain ⟨x, hx⟩ : ∃ x, t[k] = x := ⟨_, rfl⟩
   rw [hx] at q hrg hset hsame hc1 hxr
   clear hget hx
   by_cases h0 : x < 0
   ·have hx12 := hxr h0
    have hap : apN x = x - 12 := by unfold apN; exact if_pos h0
    rw [hap] at hset
    have hsub : IntKind.i64.wrap (x - 12) = x - 12 := IntWalk.i64_in _ (by omega)
    obtain ⟨ho2, hg3⟩ := ho.setInt (by rw [doneTo_length]) k (x - 12) (by unfold inRange; omega)
    rw [hset] at ho2
    have hoH := Lib.hid ho2
    have hBH := Lib.hid (hB.grown hg3 hB.size (fun j e => by cases e; omega))
    clear ho ho2 hset hsame hg3 hap hxr
    go_wp2_with fail
    go_roundw
    case rel => exact ⟨k + 1, by go_num, by omega, hoH.out, hBH.out⟩
    case measure => simp [intOf]; omega
   ·have hs2 := hsame (by unfold apN; exact if_neg h0)
    have hoH := Lib.hid ho
    have hsH := Lib.hid hs2
    clear ho hset hsame hs2 hxr
    go_wp2_with fail
    go_roundw
    case rel => exact ⟨k + 1, by go_num, by omega, by rw [← hsH.out]; exact hoH.out, hB⟩
    case measure => simp [intOf]; omega
  ·rw [doneTo_all _ _ _ (by omega)] at ho
   have hoH := Lib.hid ho
   clear ho
   go_wp2_with fail
   go_ret
   exact ⟨_, rfl, hoH.out, hB⟩
end Go.Proofs.YtpmnnoopoblpgaaGreat

/- Walks of the reference's solver: size, whole. -/
namespace Go.Proofs.YtpmnnoopoblpgaaGreat
open Go Go.RowKit Go.Maps

def capL (n : Nat) : Nat := if n ≤ 60 then n else 61
theorem capL_le (n : Nat) : capL n ≤ 61 := by unfold capL; split <;> omega
def KnOk (θ : Int → List Int) (f : Nat → Nat) : Prop := ∀ i, i < 24 → f i ≠ 0 → f i = capL (θ (-(i : Int) - 1)).length
def sizRel (w : World) (kb : Nat) (θ : Int → List Int) (t : List Int) (n i : Value) (wr : World) : Prop :=
 ∃ (k m : Nat) (f : Nat → Nat), i = .int .i64 k ∧ k ≤ t.length ∧ n = .int .i64 m ∧ m ≤ 200 ∧ w.grownBy wr (some kb) ∧ MarkW wr kb 226 (fun j => .int .i64 (f j)) ∧ KnOk θ f ∧ capL m = capL (ap θ (t.take k)).length
def sizRet (w : World) (kb : Nat) (θ : Int → List Int) (t : List Int) (e : Ending) (w' : World) : Prop :=
 ∃ f : Nat → Nat, e = .returned (.int .i64 (capL (ap θ t).length : Nat)) ∧ w.grownBy w' (some kb) ∧ MarkW w' kb 226 (fun j => .int .i64 (f j)) ∧ KnOk θ f
theorem capL_add {a b c : Nat} (h : capL a = capL b) : capL (a + c) = capL (b + c) := by unfold capL at *; split at h <;> split at h <;> (split <;> split <;> omega)
theorem capL_add' {a c d : Nat} (h : c = capL d) : capL (a + c) = capL (a + d) := by unfold capL at *; split at h <;> (split <;> split <;> omega)
theorem capL_more {θ : Int → List Int} {t : List Int} {k m : Nat} (h : capL m = capL (ap θ (t.take k)).length) (hm : 60 < m) : capL (ap θ t).length = 61 := by
 have h2 : (ap θ (t.take k)).length ≤ (ap θ t).length := by
  conv => rhs; rw [← List.take_append_drop k t, ap_append, List.length_append]
  omega
 unfold capL at *
 rw [if_neg (by omega)] at h
 split at h
 ·omega
 ·rw [if_neg (by omega)]
set_option maxRecDepth 20000 in
set_option maxHeartbeats 4000000 in
theorem rsize_any {S : Nat → Prop} {xb kb : Nat} {a1 : Option Addr} {c1 : Nat} {s : Sg} {B : Bd} {θ : Int → List Int} {ρ : Int → Nat} (h : Slv s B θ ρ) (hr : RgB B) (hSd : ¬ S kb) (hxd : xb ≠ kb) :
  ∀ (K : Nat) (t : List Int) (a : Option Addr) (c : Nat) (f : Nat → Nat) (w : World), SolX S w xb a1 c1 s B → MarkW w kb 226 (fun j => .int .i64 (f j)) → Ints S w a c t → Rg t → (∀ n ∈ t, n < 0 → ρ n < K) → KnOk θ f → t.length ≤ 60 →
   Calls Tryz.prog 236 #[.pointer (some ⟨xb, 0, none⟩), .slice a t.length c, .pointer (some ⟨kb, 0, none⟩)] w (sizRet w kb θ t) := by
 intro K
 induction K using Nat.strongRecOn with
 | ind K ih =>
 intro t a c f w hS hM ht rt hK hf hl
 have m2 := ht.le
 have hH := Lib.hid h
 have hrH := Lib.hid hr
 have hSH := Lib.hid hS
 have hMH := Lib.hid hM
 have htH := Lib.hid ht
 have rtH := Lib.hid rt
 have hKH := Lib.hid hK
 have hfH := Lib.hid hf
 have ihH := Lib.hid ih
 clear h hr hS hM ht rt hK hf ih
 go_enter Tryz.func236, Tryz.ntmps236
 go_wp2_with fail
 go_loopw [7, 8] (fun n i wr => sizRel w kb θ t n i wr) (fun _ i _ => t.length - (intOf i).toNat)
 case atStart => exact ⟨0, 0, f, rfl, Nat.zero_le _, rfl, by omega, gby_refl _ _, hMH.out, hfH.out, by simp [ap_nil]⟩
 case round =>
  obtain ⟨k, m, f1, rfl, hk, rfl, hm, hg, hM, hf, hc⟩ := hrel
  have hgH := Lib.hid hg
  have hMH' := Lib.hid hM
  have hfH' := Lib.hid hf
  have hcH := Lib.hid hc
  by_cases hlt : k < t.length
  ·by_cases hm60 : m ≤ 60
   ·have ht' := htH.out.same (.of_grown hg (fun b hb e => hSd (by cases e; exact hb)))
    obtain ⟨b, o, rfl, hbS, q, hrg⟩ := ht'.int k hlt
    have hS' := hSH.out.grown hg hSd hxd
    have hmem := List.getElem_mem hlt
    have hts := ap_take_succ (θ := θ) hlt
    obtain ⟨x, hx⟩ : ∃ x, t[k] = x := ⟨_, rfl⟩
    rw [hx] at q hrg hmem hts
    have hone : ∀ c, (ap θ [x]).length = c → capL (m + c) = capL (ap θ (t.take (k + 1))).length := fun c e => by
     rw [hts, List.length_append, e]; exact capL_add hc
    have honeH := Lib.hid hone
    have hd1 : decide ((k : Int) < t.length) = true := by simp; omega
    have hd2 : ((m : Int) ≤ 60) := by omega
    by_cases h0 : 0 ≤ x
    ·have hstep := Lib.hid (hone 1 (by rw [ap_pos (by omega), ap_nil]; rfl))
     have hdv : decide (0 ≤ x) = true := by simpa using h0
     clear hg hM hf hc hts ht' hS' hmem hx hone
     go_wp2_with fail
     go_quiet (fail)
     all_goals go_wp2_with fail
     go_roundw
     case rel => exact ⟨k + 1, m + 1, f1, by go_num, by omega, by go_num, by omega, gby_trans hgH.out (gby_below ((Drew.mk _ _).below _)), hMH'.out.below ((Drew.mk _ _).below _), hfH'.out, hstep.out⟩
     case measure => simp [intOf]; omega
    ·have hx0 : x < 0 := by omega
     have hx24 := rtH.out x hmem hx0
     have hxK := hKH.out x hmem hx0
     obtain ⟨n, hn⟩ : ∃ n : Nat, x = -(n : Int) - 1 := ⟨(-x - 1).toNat, by omega⟩
     have hn24 : n < 24 := by omega
     obtain ⟨vl, qs, hsl⟩ := hS'.slot hx0 hx24
     have hnx : (-x - 1).toNat = n := by omega
     rw [hnx] at qs
     have qd := hM.cell hn24
     have fd := hM.frozen n
     have hxn : -x - 1 = (n : Int) := by omega
     have hw1 : IntKind.i64.wrap (-x) = -x := IntWalk.i64_in _ (by omega)
     have hw2 : IntKind.i64.wrap (n : Int) = (n : Int) := IntWalk.i64_in _ (by omega)
     have hdv : decide (0 ≤ x) = false := by simpa using h0
     have hap1 : ap θ [x] = θ x := ap_one hx0
     have hnH := Lib.hid hn
     clear hnx
     cases hBx : B x with
     | none =>
      rw [hBx] at hsl
      rw [show vl = .slice none 0 0 from hsl] at qs
      have hstep := Lib.hid (hone 1 (by rw [hap1, hH.out.free x hx0 hBx]; rfl))
      have hnl := fun W => Lib.run_eql_slice_nil (P := Tryz.prog) W 26 3 none 0 0 0 0 Tryz.underlying26
      clear hg hM hf hc hts ht' hS' hmem hx hone hsl hBx hap1 hn
      go_wp2_with fail
      go_quiet (fail)
      all_goals go_wp2_with fail
      go_roundw
      case rel => exact ⟨k + 1, m + 1, f1, by go_num, by omega, by go_num, by omega, gby_trans hgH.out (gby_below ((Drew.mk _ _).below _)), hMH'.out.below ((Drew.mk _ _).below _), hfH'.out, hstep.out⟩
      case measure => simp [intOf]; omega
     | some u =>
      rw [hBx] at hsl
      obtain ⟨a3, c3, rfl, hu⟩ := hsl
      have hbnd := hH.out.bnd x u hBx
      have hwu := (hH.out.wf x u hBx).1
      have hul := hwu.len
      obtain ⟨b3, o3, rfl, -, -, -⟩ := hu.int 0 (by omega)
      have hnl := fun W => Lib.run_eql_slice_nil (P := Tryz.prog) W 26 3 (some ⟨b3, o3, none⟩) u.length c3 0 0 Tryz.underlying26
      have hcap : capL (θ x).length ≤ 61 := capL_le _
      obtain ⟨z, hz⟩ : ∃ z, capL (θ x).length = z := ⟨_, rfl⟩
      rw [hz] at hcap
      have hz0 : z ≠ 0 := by
       have := (hH.out.th x hx0).len
       rw [← hz]; unfold capL; split <;> omega
      have hstep := Lib.hid (show capL (m + z) = capL (ap θ (t.take (k + 1))).length by rw [← hone _ (by rw [hap1])]; exact capL_add' hz.symm)
      have hzH := Lib.hid hz
      by_cases hf0 : f1 n = 0
      ·rw [hf0] at qd
       have hcall := fun W (hb : Below wr.heap.size wr W) => ihH.out (ρ x) hxK u _ c3 f1 W (hS'.below hb) (hM.below hb) (hu.below hb) (hrH.out x u hBx).1 (fun m hm hm0 => hH.out.rk x u hBx m hm hm0) hf (hS'.len x u hBx)
       have hcallH := Lib.hid hcall
       have hbndH := Lib.hid hbnd
       clear hcall hg hM hf hc hts ht' hS' hmem hx hone hBx hap1 hn hu hbnd hwu hul hz hf0
       go_wp2_with fail
       go_quiet (fail)
       all_goals go_wp2_with fail
       obtain ⟨W3, hW3⟩ : ∃ W3, wr.drewN nq = W3 := ⟨_, rfl⟩
       have hb3 : Below wr.heap.size wr W3 := by rw [← hW3]; exact (Drew.mk _ _).below _
       have hb3d : Below wr.heap.size wr W3.drew := Below.drew hb3
       rw [hW3]
       have qs3 := cell_later hb3 qs
       have cc := Lib.hid (hcallH.out W3.drew hb3d)
       have hb3H := Lib.hid hb3d
       clear hb3 hb3d hW3 hcallH qs qd fd
       go_region_with (go_at_call 236; (with_reducible refine cc.out.mono ?_); rintro e w2 ⟨f2, rfl, hg2, hM2, hf2⟩; have q2 := hM2.cell hn24; have fz2 := hM2.frozen n)
       have hzu : capL (ap θ u).length = z := by rw [← hbndH.out]; exact hzH.out
       rw [hzu]
       obtain ⟨W4, hW4⟩ : ∃ W4, w2.setCell ⟨kb, n, none⟩ (.int .i64 ((z : Nat) : Int)) = W4 := ⟨_, rfl⟩
       have hM4 : MarkW W4 kb 226 (fun j => .int .i64 ((if j = n then z else f2 j : Nat) : Int)) := by
        rw [← hW4]
        refine (hM2.set (i := n) (.int .i64 ((z : Nat) : Int))).congr (fun i _ => ?_)
        by_cases e : i = n
        ·simp [e]
        ·simp [e]
       have hK4 : KnOk θ (fun j => if j = n then z else f2 j) := fun i hi h1 => by
        by_cases e : i = n
        ·subst e; simp only [if_pos]; rw [← hzH.out, hnH.out]
        ·simp only [if_neg e] at h1 ⊢; exact hf2 i hi h1
       have hg4 := gby_trans hgH.out (gby_trans (gby_below hb3H.out) (gby_trans hg2 (gby_set w2 kb n (.int .i64 ((z : Nat) : Int)))))
       rw [hW4] at hg4 ⊢
       have qd4 := hM4.cell hn24
       simp only [if_pos] at qd4
       have hM4H := Lib.hid hM4
       have hK4H := Lib.hid hK4
       have hg4H := Lib.hid hg4
       clear hM4 hK4 hg4 hW4 hzu hg2 hM2 hf2 q2 fz2 qs3 cc hb3H
       go_wp2_with fail
       go_roundw
       case rel => exact ⟨k + 1, m + z, _, by go_num, by omega, by go_num, by omega, hg4H.out, hM4H.out, hK4H.out, hstep.out⟩
       case measure => simp [intOf]; omega
      ·have hfn : f1 n = z := by rw [hf n hn24 hf0, ← hn]; exact hz
       rw [hfn] at qd
       have hzn : ((z : Nat) : Int) ≠ 0 := by omega
       have hze : ((z : Int) == 0) = false := by simpa using hz0
       clear hg hM hf hc hts ht' hS' hmem hx hone hBx hap1 hn hu hbnd hwu hul hz hf0 hfn
       go_wp2_with fail
       go_quiet (fail)
       all_goals go_wp2_with fail
       go_roundw
       case rel => exact ⟨k + 1, m + z, f1, by go_num, by omega, by go_num, by omega, gby_trans hgH.out (gby_below ((Drew.mk _ _).below _)), hMH'.out.below ((Drew.mk _ _).below _), hfH'.out, hstep.out⟩
       case measure => simp [intOf]; omega
   ·have hfin := Lib.hid (capL_more hc (by omega))
    have hm61 : (60 : Int) < m := by omega
    clear hg hM hf hc
    go_wp2_with fail
    go_ret
    exact ⟨f1, by rw [hfin.out]; rfl, hgH.out, hMH'.out, hfH'.out⟩
  ·rw [List.take_of_length_le (by omega)] at hc
   by_cases hm60 : m ≤ 60
   ·have hfin : capL (ap θ t).length = m := by rw [← hc]; unfold capL; rw [if_pos hm60]
    have hfinH := Lib.hid hfin
    clear hg hM hf hc hfin
    go_wp2_with fail
    go_ret
    exact ⟨f1, by rw [hfinH.out]; rfl, hgH.out, hMH'.out, hfH'.out⟩
   ·have hfin : capL (ap θ t).length = 61 := by rw [← hc]; unfold capL; rw [if_neg hm60]
    have hfinH := Lib.hid hfin
    have hm61 : (60 : Int) < m := by omega
    clear hg hM hf hc hfin
    go_wp2_with fail
    go_ret
    exact ⟨f1, by rw [hfinH.out]; rfl, hgH.out, hMH'.out, hfH'.out⟩
end Go.Proofs.YtpmnnoopoblpgaaGreat

/- Walks of the reference's solver: whole. -/
namespace Go.Proofs.YtpmnnoopoblpgaaGreat
open Go Go.RowKit Go.Maps

def whoRel (w : World) (θ : Int → List Int) (t : List Int) (out i : Value) (wr : World) : Prop :=
 ∃ k : Nat, i = .int .i64 k ∧ k ≤ t.length ∧ OwnI wr w.heap.size out (ap θ (t.take k)) ∧ Below w.heap.size w wr
theorem keepW {w w' : World} {p1 p2 : Addr} {v1 v2 : Value} (h1 : w.cell? p1 = some v1) (h2 : w.cell? p2 = some v2) (hb : Below w.heap.size w w') : w'.cell? p1 = some v1 ∧ w'.cell? p2 = some v2 := ⟨cell_later hb h1, cell_later hb h2⟩
theorem ap_take_len {θ : Int → List Int} {t : List Int} (k : Nat) : (ap θ (t.take k)).length ≤ (ap θ t).length := by
 conv => rhs; rw [← List.take_append_drop k t, ap_append, List.length_append]
 omega
theorem OwnI.pushT {w wr W : World} {out : Value} {l l' : List Int} (ho : OwnI wr w.heap.size out l) (hB : Below w.heap.size w wr) (hb : Below wr.heap.size wr W) {x : Int} (hx : inRange x) (hl' : l' = l ++ [x]) (hl : l.length ≤ 1000) :
  ∃ v' w', RowKit.Hid ((Builtin.append_ #[26, 26] 26 #[out, .slice (some ⟨W.heap.size, 0, none⟩) 1 1]).run Tryz.prog (W.alloc (.cells #[.int .i64 x] 3)) = .ok v' w') ∧ RowKit.Hid (OwnI w' w.heap.size v' l') ∧ RowKit.Hid (Below w.heap.size w w') := by
 have hB2 := bcall hB hb
 have ho1 := OwnL.call ho hb
 obtain ⟨v', w', hrun, ho', hg, -⟩ := ho1.push (P := Tryz.prog) (t := 26) (ty := 26) Tryz.underlying26 infoInt rfl (vs := [.int .i64 x]) (x := x) ⟨rfl, hx⟩ (by omega) (by unfold big; omega) hB2.size
 exact ⟨v', w', Lib.hid hrun, Lib.hid (by rw [hl']; exact ho'), Lib.hid (hB2.grown hg hB2.size (fun k e => (ho1.lt k e).1))⟩
theorem OwnI.appT {T : Nat → Prop} {w wr W : World} {out : Value} {l l2 l' : List Int} (ho : OwnI wr w.heap.size out l) (hB : Below w.heap.size w wr) (hb : Below wr.heap.size wr W) {a : Option Addr} {c : Nat} (hx : Ints T W a c l2) (hl' : l' = l ++ l2) (hl : l.length ≤ 1000) (hl2 : l2.length ≤ 1000) :
  ∃ v' w', RowKit.Hid ((Builtin.append_ #[26, 26] 26 #[out, .slice a l2.length c]).run Tryz.prog W = .ok v' w') ∧ RowKit.Hid (OwnI w' w.heap.size v' l') ∧ RowKit.Hid (Below w.heap.size w w') := by
 have hB2 := bcall hB hb
 have ho1 := OwnL.call ho hb
 obtain ⟨v', w', hrun, ho', hg, -⟩ := ho1.append_run (P := Tryz.prog) (t := 26) (ty := 26) Tryz.underlying26 infoInt rfl hx (fun _ _ _ h => h) (by omega) (by unfold big; omega) hB2.size
 exact ⟨v', w', Lib.hid hrun, Lib.hid (by rw [hl']; exact ho'), Lib.hid (hB2.grown hg hB2.size (fun k e => (ho1.lt k e).1))⟩
set_option maxRecDepth 20000 in
set_option maxHeartbeats 4000000 in
theorem rwhole_any {S : Nat → Prop} {xb : Nat} {a1 : Option Addr} {c1 : Nat} {s : Sg} {B : Bd} {θ : Int → List Int} {ρ : Int → Nat} (h : Slv s B θ ρ) (hr : RgB B) :
  ∀ (K : Nat) (t : List Int) (a : Option Addr) (c : Nat) (w : World), SolX S w xb a1 c1 s B → Ints S w a c t → Rg t → (∀ n ∈ t, n < 0 → ρ n < K) → (ap θ t).length ≤ 60 → t.length ≤ 60 →
   Calls Tryz.prog 237 #[.pointer (some ⟨xb, 0, none⟩), .slice a t.length c] w (retOwn w (ap θ t)) := by
 intro K
 induction K using Nat.strongRecOn with
 | ind K ih =>
 intro t a c w hS ht rt hK h60 hl
 have m2 := ht.le
 have hH := Lib.hid h
 have hrH := Lib.hid hr
 have hSH := Lib.hid hS
 have htH := Lib.hid ht
 have rtH := Lib.hid rt
 have hKH := Lib.hid hK
 have h60H := Lib.hid h60
 have ihH := Lib.hid ih
 clear h hr hS ht rt hK h60 ih
 go_enter Tryz.func237, Tryz.ntmps237
 go_wp2_with fail
 go_loopw [5, 6] (fun out i wr => whoRel w θ t out i wr) (fun _ i _ => t.length - (intOf i).toNat)
 case atStart => exact ⟨0, rfl, Nat.zero_le _, .nil _ _ _ _ _, .refl _ _⟩
 case round =>
  obtain ⟨k, rfl, hk, ho, hB⟩ := hrel
  by_cases hlt : k < t.length
  ·have ht' := htH.out.below hB
   obtain ⟨b, o, rfl, hbS, q0, hrg⟩ := htH.out.int k hlt
   have hS' := hSH.out.below hB
   have hmem := List.getElem_mem hlt
   have hts := ap_take_succ (θ := θ) hlt
   have hl1 := Nat.le_trans (ap_take_len (θ := θ) (t := t) k) h60H.out
   have hl2 := Nat.le_trans (ap_take_len (θ := θ) (t := t) (k + 1)) h60H.out
   obtain ⟨x, hx⟩ : ∃ x, t[k] = x := ⟨_, rfl⟩
   rw [hx] at q0 hrg hmem hts
   have q := cell_later hB q0
   by_cases h0 : 0 ≤ x
   ·rw [ap_pos (by omega), ap_nil] at hts
    have hdv : decide (x < 0) = false := by simpa using h0
    have htsH := Lib.hid hts
    have hoH := Lib.hid ho
    clear hts ho hS' hmem ht' hx hl2
    go_wp2_with fail
    go_quiet (fail)
    go_upto_region 7 with fail
    obtain ⟨W3, hW3⟩ : ∃ W3, wr.drewN nq = W3 := ⟨_, rfl⟩
    have hb3 : Below wr.heap.size wr W3 := by rw [← hW3]; exact (Drew.mk _ _).below _
    rw [hW3]
    have q3 := cell_later hb3 q
    obtain ⟨v', w', hrun, ho', hB'⟩ := OwnI.pushT hoH.out hB hb3 hrg htsH.out (by omega)
    clear hW3 q
    go_wp2_with (at_builtin; refine wpList_append_run rfl _ _ _ rfl rfl rfl hrun.out ?_)
    go_roundw
    case rel => exact ⟨k + 1, by go_num, by omega, ho'.out, hB'.out⟩
    case measure => simp [intOf]; omega
   ·have hx0 : x < 0 := by omega
    have hx24 := rtH.out x hmem hx0
    have hxK := hKH.out x hmem hx0
    obtain ⟨n, hn⟩ : ∃ n : Nat, x = -(n : Int) - 1 := ⟨(-x - 1).toNat, by omega⟩
    have hn24 : n < 24 := by omega
    obtain ⟨vl, qs0, hsl⟩ := hSH.out.slot hx0 hx24
    have hnx : (-x - 1).toNat = n := by omega
    rw [hnx] at qs0
    have hxn : -x - 1 = (n : Int) := by omega
    have hw1 : IntKind.i64.wrap (-x) = -x := IntWalk.i64_in _ (by omega)
    have hw2 : IntKind.i64.wrap (n : Int) = (n : Int) := IntWalk.i64_in _ (by omega)
    have hdv : decide (x < 0) = true := by simpa using hx0
    have hap1 : ap θ [x] = θ x := ap_one hx0
    rw [hap1] at hts
    clear hnx hn
    cases hBx : B x with
    | none =>
     rw [hBx] at hsl
     rw [show vl = .slice none 0 0 from hsl] at qs0
     have qs := cell_later hB qs0
     rw [hH.out.free x hx0 hBx] at hts
     have hnl := fun W => Lib.run_eql_slice_nil (P := Tryz.prog) W 26 3 none 0 0 0 0 Tryz.underlying26
     have htsH := Lib.hid hts
     have hoH := Lib.hid ho
     clear hts ho hS' hmem ht' hx hl2 hsl hBx hap1
     go_wp2_with fail
     go_quiet (fail)
     go_upto_region 7 with fail
     obtain ⟨W3, hW3⟩ : ∃ W3, wr.drewN nq = W3 := ⟨_, rfl⟩
     have hb3 : Below wr.heap.size wr W3 := by rw [← hW3]; exact (Drew.mk _ _).below _
     rw [hW3]
     have q3 := cell_later hb3 q
     obtain ⟨v', w', hrun, ho', hB'⟩ := OwnI.pushT hoH.out hB hb3 hrg htsH.out (by omega)
     clear hW3 q
     go_wp2_with (at_builtin; refine wpList_append_run rfl _ _ _ rfl rfl rfl hrun.out ?_)
     go_roundw
     case rel => exact ⟨k + 1, by go_num, by omega, ho'.out, hB'.out⟩
     case measure => simp [intOf]; omega
    | some u =>
     rw [hBx] at hsl
     obtain ⟨a3, c3, rfl, hu0⟩ := hsl
     have hu := hu0.below hB
     have qs := cell_later hB qs0
     have hbnd := hH.out.bnd x u hBx
     have hwu := (hH.out.wf x u hBx).1
     have hul := hwu.len
     have hu60 := hS'.len x u hBx
     obtain ⟨b3, o3, rfl, -, -, -⟩ := hu.int 0 (by omega)
     have hnl := fun W => Lib.run_eql_slice_nil (P := Tryz.prog) W 26 3 (some ⟨b3, o3, none⟩) u.length c3 0 0 Tryz.underlying26
     rw [hbnd] at hts
     have hl3 : (ap θ u).length ≤ 60 := by rw [hts, List.length_append] at hl2; omega
     have hcall := fun W (hb : Below wr.heap.size wr W) => ihH.out (ρ x) hxK u _ c3 W (hS'.below hb) (hu.below hb) (hrH.out x u hBx).1 (fun m hm hm0 => hH.out.rk x u hBx m hm hm0) hl3 hu60
     have happ := fun W (hb : Below wr.heap.size wr W) (T : Nat → Prop) a4 c4 (hi : Ints T W a4 c4 (ap θ u)) => OwnI.appT ho hB hb hi hts (by omega) (by omega)
     have hcallH := Lib.hid hcall
     have happH := Lib.hid happ
     clear hts ho hS' hmem ht' hx hl2 hBx hap1 hu0 hu hbnd hwu hul hcall happ hu60
     go_wp2_with fail
     go_quiet (fail)
     go_upto_region 6 with fail
     obtain ⟨W3, hW3⟩ : ∃ W3, wr.drewN nq = W3 := ⟨_, rfl⟩
     have hb3 : Below wr.heap.size wr W3 := by rw [← hW3]; exact (Drew.mk _ _).below _
     have hb3d : Below wr.heap.size wr W3.drew := Below.drew hb3
     rw [hW3]
     have q3 := cell_later hb3 q
     have qs3 := cell_later hb3 qs
     have hn24i : ((n : Nat) : Int) < 24 := by omega
     clear hW3 q qs
     have hbd : Below w.heap.size w W3.drew := bcall hB hb3d
     have hk0 := keepW q0 qs0 hbd
     go_region_held3 (fun w' => w'.cell? ⟨b, o + k, none⟩ = some (.int .i64 x) ∧ w'.cell? ⟨xb, 1 + n, none⟩ = some (.slice (some ⟨b3, o3, none⟩) u.length c3))
      ((first | exact hk0 | exact keepW q0 qs0 (bcall hbd hb2) | exact keepW q0 qs0 hB'.out))
      ((first
       | (go_at_call 237; (with_reducible refine (hcallH.out _ hb3d).mono ?_); rintro e w2 ⟨v2, rfl, ho2, hb2⟩; obtain ⟨a4, c4, rfl, hI2⟩ := OwnI.ints ho2; obtain ⟨v', w', hrun, ho', hB'⟩ := happH.out w2 (bcall hb3d hb2) _ a4 c4 hI2)
       | (refine oper_append_run (.tmp 32) (.tmp 45) _ rfl rfl rfl hrun.out ?_)))
     all_goals go_wp2_with fail
     all_goals go_roundw
     case rel => exact ⟨k + 1, by go_num, by omega, ho'.out, hB'.out⟩
     case measure => simp [intOf]; omega
  ·rw [List.take_of_length_le (by omega)] at ho
   have hoH := Lib.hid ho
   clear ho
   go_wp2_with fail
   go_ret
   exact ⟨_, rfl, hoH.out, hB⟩
end Go.Proofs.YtpmnnoopoblpgaaGreat

/- Walks of the reference's solver: Whole, Few. -/
namespace Go.Proofs.YtpmnnoopoblpgaaGreat
open Go Go.RowKit Go.Maps

theorem skw_lt {s : Sg} : ∀ (t : List Int) (k : Nat), skw s k t = some [] → ∀ x ∈ t, x < s.length
 | [], _, _, x, hx => by simp at hx
 | n :: r, 0, h, _, _ => by rw [skw_zero] at h; simp at h
 | n :: r, k + 1, h, x, hx => by
  rw [skw_cons] at h
  split at h
  ·rename_i hc
   rcases List.mem_cons.1 hx with e | e
   ·subst e; simpa [cw] using hc
   ·exact skw_lt r _ h x e
  ·cases h
theorem ap_rgT {s : Sg} {B : Bd} {θ : Int → List Int} {ρ : Int → Nat} (h : Slv s B θ ρ) (hr : RgB B) : ∀ (K : Nat) (t : List Int), Rg t → (∀ n ∈ t, n < 0 → ρ n < K) → Rg (ap θ t) := by
 intro K
 induction K using Nat.strongRecOn with
 | ind K ih =>
 intro t rt hK m hm hm0
 rcases mem_ap.1 hm with ⟨h1, -⟩ | ⟨n, hn, hn0, hmn⟩
 ·exact rt m h1 hm0
 ·cases hB : B n with
  | none =>
   rw [h.free n hn0 hB, List.mem_singleton] at hmn
   subst hmn
   exact rt m hn hm0
  | some u =>
   rw [h.bnd n u hB] at hmn
   exact ih (ρ n) (hK n hn hn0) u (hr n u hB).1 (h.rk n u hB) m hmn hm0
theorem ap_tame {s : Sg} {B : Bd} {θ : Int → List Int} {ρ : Int → Nat} (hok : okSign s = true) (h : Slv s B θ ρ) (hr : RgB B) {t : List Int} (ht : W1 s t) (rt : Rg t) : tame (ap θ t) := by
 obtain ⟨K, hK⟩ := rank_bd ρ t
 have hrg := ap_rgT h hr K t rt hK
 intro x hx
 have h1 := skw_lt _ _ (ht.ap h.th) x hx
 have h2 := (okSign_len hok).2
 by_cases h0 : x < 0
 ·have := hrg x hx h0; omega
 ·omega
theorem known_new (W : World) : MarkW (W.alloc (.cells #[.int .i64 0, .int .i64 0, .int .i64 0, .int .i64 0, .int .i64 0, .int .i64 0, .int .i64 0, .int .i64 0, .int .i64 0, .int .i64 0, .int .i64 0, .int .i64 0, .int .i64 0, .int .i64 0, .int .i64 0, .int .i64 0, .int .i64 0, .int .i64 0, .int .i64 0, .int .i64 0, .int .i64 0, .int .i64 0, .int .i64 0, .int .i64 0] 226)) W.heap.size 226 (fun j => .int .i64 ((fun _ => 0 : Nat → Nat) j)) := by
 unfold MarkW
 rw [heap_alloc_new]
 rfl
def whRet (w : World) (θ : Int → List Int) (t : List Int) (e : Ending) (w' : World) : Prop :=
 ∃ v, e = .returned (.tuple #[v, .bool (decide ((ap θ t).length ≤ 60))]) ∧ OwnI w' w.heap.size v (if (ap θ t).length ≤ 60 then ap θ t else []) ∧ Below w.heap.size w w'
set_option maxRecDepth 20000 in
set_option maxHeartbeats 4000000 in
theorem rWhole_any {S : Nat → Prop} {xb : Nat} {a1 : Option Addr} {c1 : Nat} {s : Sg} {B : Bd} {θ : Int → List Int} {ρ : Int → Nat} (h : Slv s B θ ρ) (hr : RgB B) (t : List Int) (a : Option Addr) (c : Nat) (w : World) (hS : SolX S w xb a1 c1 s B) (ht : Ints S w a c t) (rt : Rg t) (hl : t.length ≤ 60) :
  Calls Tryz.prog 230 #[.pointer (some ⟨xb, 0, none⟩), .slice a t.length c] w (whRet w θ t) := by
 have m2 := ht.le
 obtain ⟨K, hK⟩ := rank_bd ρ t
 obtain ⟨W, hW⟩ : ∃ W, w.alloc (.cells #[.int .i64 0, .int .i64 0, .int .i64 0, .int .i64 0, .int .i64 0, .int .i64 0, .int .i64 0, .int .i64 0, .int .i64 0, .int .i64 0, .int .i64 0, .int .i64 0, .int .i64 0, .int .i64 0, .int .i64 0, .int .i64 0, .int .i64 0, .int .i64 0, .int .i64 0, .int .i64 0, .int .i64 0, .int .i64 0, .int .i64 0, .int .i64 0] 226) = W := ⟨_, rfl⟩
 have hM : MarkW W w.heap.size 226 (fun j => .int .i64 ((fun _ => 0 : Nat → Nat) j)) := by rw [← hW]; exact known_new w
 have hbW : Below w.heap.size w W := by rw [← hW]; exact below1 _ _
 have hx := hS.lt
 have cs := rsize_any (S := fun b => S b ∧ b < w.heap.size) h hr (fun e => by have := e.2; omega) (show xb ≠ w.heap.size by omega) K t a c (fun _ => 0) W (hS.lts.below hbW) hM (ht.lt.below hbW) rt hK (fun _ _ h => absurd rfl h) hl
 have cw := fun W (hb : Below w.heap.size w W) h60 => rwhole_any h hr K t a c W (hS.below hb) (ht.below hb) rt hK h60 hl
 have csH := Lib.hid cs
 have cwH := Lib.hid cw
 have hWH := Lib.hid hW
 have hbWH := Lib.hid hbW
 have hle : w.heap.size ≤ W.heap.size := hbW.size
 clear cs cw hW hbW hM hS ht hK rt h hr
 go_enter Tryz.func230, Tryz.ntmps230
 go_wp2_with fail
 rw [hWH.out]
 (with_reducible refine csH.out.mono ?_)
 rintro e w2 ⟨f, rfl, hg, -, -⟩
 have hb2 := below_of_gby hbWH.out hg hle (Nat.le_refl _)
 have cw2 := cwH.out w2 hb2
 by_cases h60 : (ap θ t).length ≤ 60
 ·have cw3 := Lib.hid (cw2 h60)
  have hc : capL (ap θ t).length = (ap θ t).length := if_pos h60
  rw [hc]
  have hn60 : ((ap θ t).length : Int) ≤ 60 := by omega
  have hbH := Lib.hid hb2
  clear hg hb2 cw2 hc
  go_wp2_with fail
  (with_reducible refine cw3.out.mono ?_)
  rintro e w3 ⟨v, rfl, ho, hb3⟩
  have hoH := Lib.hid (OwnL.baseMono (base' := w.heap.size) ho hbH.out.size)
  clear ho
  go_wp2_with fail
  go_ret2
  exact ⟨v, by rw [decide_eq_true h60]; rfl, by rw [if_pos h60]; exact hoH.out, bcall hbH.out hb3⟩
 ·have hc : capL (ap θ t).length = 61 := if_neg h60
  rw [hc]
  have hbH := Lib.hid hb2
  clear hg hb2 cw2 hc
  go_wp2_with fail
  go_ret2
  exact ⟨.slice none 0 0, by rw [decide_eq_false h60]; rfl, by rw [if_neg h60]; exact .nil _ _ _ _ _, hbH.out⟩
set_option maxHeartbeats 2000000 in
theorem rFew_any {S : Nat → Prop} {xb : Nat} {a1 : Option Addr} {c1 : Nat} {s : Sg} {B : Bd} {θ : Int → List Int} {ρ : Int → Nat} (hok : okSign s = true) (h : Slv s B θ ρ) (hr : RgB B) (t : List Int) (a : Option Addr) (c : Nat) (w : World) (hS : SolX S w xb a1 c1 s B) (ht : Ints S w a c t) (wt : W1 s t) (rt : Rg t) (hl : t.length ≤ 60) :
  Calls Tryz.prog 217 #[.pointer (some ⟨xb, 0, none⟩), .slice a t.length c] w (retE (madeE θ t) w) := by
 have m2 := ht.le
 have cw := rWhole_any h hr t a c w hS ht rt hl
 have htm := ap_tame hok h hr wt rt
 have hne := (wt.ap h.th).ne
 obtain ⟨o, hod⟩ : ∃ o, ap θ t = o := ⟨_, rfl⟩
 have hmd : madeE θ t = if o.length ≤ 60 ∧ (varsC o).length ≤ 12 then (canon o, 0) else ([], 4) := by unfold madeE; rw [hod]
 unfold whRet at cw
 rw [hod] at cw htm hne
 have hmdH := Lib.hid hmd
 have cwH := Lib.hid cw
 have htmH := Lib.hid htm
 have hneH := Lib.hid hne
 clear cw hS ht wt rt h hr hod hmd htm hne
 go_enter Tryz.func217, Tryz.ntmps217
 go_wp2_with fail
 (with_reducible refine cwH.out.mono ?_)
 rintro e w1 ⟨v, rfl, ho, hb1⟩
 clear cwH
 by_cases h60 : o.length ≤ 60
 ·rw [if_pos h60] at ho
  rw [decide_eq_true h60]
  obtain ⟨a4, c4, rfl, hI⟩ := OwnI.ints ho
  have mI := hI.le
  have cv := Variables_any a4 c4 o w1 hI (by unfold lim; omega) htmH.out
  have cr := fun W (hb : Below w1.heap.size w1 W) => Renamed_any a4 c4 o W (hI.below hb) (by unfold lim; omega) htmH.out hneH.out
  have cvH := Lib.hid cv
  have crH := Lib.hid cr
  have hvl : (varsV o).length = (varsC o).length := by simp [varsV]
  clear cv cr ho hI
  go_wp2_with fail
  (with_reducible refine cvH.out.mono ?_)
  rintro e w2 ⟨v2, rfl, ho2, hb2⟩
  obtain ⟨a5, c5, rfl, hI5⟩ := OwnI.ints ho2
  have mI5 := hI5.le
  have cr2 := Lib.hid (crH.out w2 hb2)
  have hB2 := bcall hb1 hb2
  rw [hvl] at mI5 ⊢
  clear ho2 hI5 crH cvH hb1 hb2
  by_cases h12 : (varsC o).length ≤ 12
  ·have hm1 := Lib.hid (hmdH.out.trans (if_pos ⟨h60, h12⟩))
   have hn12 : ((varsC o).length : Int) ≤ 12 := by omega
   go_wp2_with fail
   (with_reducible refine cr2.out.mono ?_)
   rintro e w3 ⟨v3, rfl, ho3, hb3⟩
   have hoH := Lib.hid (OwnL.baseMono (base' := w.heap.size) ho3 hB2.size)
   clear ho3
   go_wp2_with fail
   go_ret2
   rw [hm1.out]
   exact ⟨_, rfl, hoH.out, bcall hB2 hb3⟩
  ·have hm1 := Lib.hid (hmdH.out.trans (if_neg (fun h => h12 h.2)))
   have hn12 : (12 : Int) < ((varsC o).length : Int) := by omega
   go_wp2_with fail
   go_ret2
   rw [hm1.out]
   exact ⟨_, rfl, .nil _ _ _ _ _, hB2⟩
 ·rw [if_neg h60] at ho
  rw [decide_eq_false h60]
  have hm1 := Lib.hid (hmdH.out.trans (if_neg (fun h => h60 h.1)))
  clear ho
  go_wp2_with fail
  go_ret2
  rw [hm1.out]
  exact ⟨_, rfl, .nil _ _ _ _ _, hb1⟩
end Go.Proofs.YtpmnnoopoblpgaaGreat

/- Walks: kernel.Detaches. -/
namespace Go.Proofs.YtpmnnoopoblpgaaGreat
open Go Go.RowKit Go.Maps

end Go.Proofs.YtpmnnoopoblpgaaGreat

/- Walks: ValidGivens of the reference. -/
namespace Go.Proofs.YtpmnnoopoblpgaaGreat
open Go Go.RowKit Go.Maps

set_option maxHeartbeats 1000000 in
theorem rValidGivens_any {S1 S2 : Nat → Prop} (a1 a2 : Option Addr) (c1 c2 : Nat) (s : Sg) (L : List (List Int)) (w : World) (h1 : Sign S1 w a1 c1 s) (h2 : Terms S2 w a2 c2 L) :
  Calls Tryz.prog 179 #[.slice a1 s.length c1, .slice a2 L.length c2] w fun e w' => e = .returned (.bool (givensB s L)) ∧ Below w.heap.size w w' := by
 have m2 := h2.le
 have v1 := rValidSign_any a1 c1 s w h1
 have v2 := fun W => isCount_any (L.length : Int) W
 have v3 := fun W (hd : Drew w W) => rAllValid_any a1 a2 c1 c2 s L W (h1.drew hd) (h2.drew hd)
 have hg : givensB s L = (okSign s && decide (L.length ≤ 60) && L.all (okT s)) := rfl
 have hc : (decide ((0 : Int) ≤ (L.length : Int)) && decide ((L.length : Int) ≤ 60)) = decide (L.length ≤ 60) := by
  rw [Bool.eq_iff_iff]; simp only [Bool.and_eq_true, decide_eq_true_eq]; omega
 rw [hc] at v2
 obtain ⟨x, hx⟩ : ∃ x, okSign s = x := ⟨_, rfl⟩
 obtain ⟨y, hy⟩ : ∃ x, decide (L.length ≤ 60) = x := ⟨_, rfl⟩
 obtain ⟨z, hz⟩ : ∃ x, L.all (okT s) = x := ⟨_, rfl⟩
 rw [hx, hy, hz] at hg
 rw [hx] at v1
 rw [hy] at v2
 rw [hz] at v3
 have v1H := Lib.hid v1
 have v2H := Lib.hid v2
 have v3H := Lib.hid v3
 have hgH := Lib.hid hg
 clear v1 v2 v3 h1 h2 hx hy hz hg hc
 cases x with
 | false =>
  go_enter Tryz.func179, Tryz.ntmps179
  go_wp2_with fail
  refine v1H.out.mono ?_
  rintro e w1 ⟨rfl, hd1⟩
  go_wp2_with fail
  go_ret
  exact ⟨by rw [hgH.out]; rfl, hd1.below _⟩
 | true =>
  cases y with
  | false =>
   go_enter Tryz.func179, Tryz.ntmps179
   go_wp2_with fail
   refine v1H.out.mono ?_
   rintro e w1 ⟨rfl, hd1⟩
   go_wp2_with fail
   refine (v2H.out _).mono ?_
   rintro e w2 ⟨rfl, rfl⟩
   go_wp2_with fail
   go_ret
   exact ⟨by rw [hgH.out]; rfl, hd1.below _⟩
  | true =>
   go_enter Tryz.func179, Tryz.ntmps179
   go_wp2_with fail
   refine v1H.out.mono ?_
   rintro e w1 ⟨rfl, hd1⟩
   go_wp2_with fail
   refine (v2H.out _).mono ?_
   rintro e w2 ⟨rfl, rfl⟩
   go_wp2_with fail
   refine (v3H.out _ hd1).mono ?_
   rintro e w2 ⟨rfl, hd2⟩
   go_wp2_with fail
   go_ret
   exact ⟨by rw [hgH.out]; rfl, bcall (hd1.below _) (hd2.below _)⟩
end Go.Proofs.YtpmnnoopoblpgaaGreat

/- Walks: kernel.up, Count, Height. -/
namespace Go.Proofs.YtpmnnoopoblpgaaGreat
open Go Go.RowKit

end Go.Proofs.YtpmnnoopoblpgaaGreat

/- Walks: kernel.Count, kernel.Height. -/
namespace Go.Proofs.YtpmnnoopoblpgaaGreat
open Go Go.RowKit

end Go.Proofs.YtpmnnoopoblpgaaGreat

/- Lists of bools of a call's own; lists made of zeros. -/
namespace Go.Proofs.YtpmnnoopoblpgaaGreat
open Go Go.RowKit

def boolE : Enc Bool where
 size := 1
 pos := by decide
 R _ _ vs x := vs = [.bool x]
 len h := by rw [h]; rfl
 one h := by rw [h]; simp [Value.oneCell']
 mono h _ _ := h
abbrev OwnB (w : World) (base : Nat) (v : Value) (l : List Bool) : Prop := OwnL boolE (fun _ => False) w base 4 v l
section
variable {w : World} {base : Nat} {v : Value} {l : List Bool}
theorem bools_rows {xs : List (List Value)} {T : Nat → Prop} (hl : xs.length = l.length) (hx : ∀ i (h1 : i < xs.length) (h2 : i < l.length), boolE.R T w xs[i] l[i]) : xs = l.map (fun x => [.bool x]) := by
 apply List.ext_getElem (by simpa using hl)
 intro i h1 h2
 rw [List.getElem_map]
 exact hx i h1 (by omega)
theorem flatten_singleB (l : List Bool) : (l.map (fun x => [Value.bool x])).flatten = l.map Value.bool := by
 induction l with
 | nil => rfl
 | cons x r ih => simp [ih]
theorem OwnB.row (h : OwnB w base v l) : w.ownsRow base 4 1 v l.length (l.map Value.bool) := by
 obtain ⟨xs, ho, hl, hx⟩ := h
 obtain rfl := bools_rows hl hx
 rw [flatten_singleB] at ho
 exact ho
theorem OwnB.of_row (h : w.ownsRow base 4 1 v l.length (l.map Value.bool)) : OwnB w base v l :=
 ⟨l.map (fun x => [.bool x]), by rw [flatten_singleB]; exact h, by simp, fun i h1 h2 => by simp [boolE]⟩
theorem OwnB.bools (h : OwnB w base v l) : ∃ a c, v = .slice a l.length c ∧ Sl boolE (fun b => base ≤ b) w a c l := by
 obtain ⟨a, c, rfl, hI⟩ := OwnL.sl h
 exact ⟨a, c, rfl, hI.weak (fun b hb => hb.elim id False.elim)⟩
theorem Sl.bool {S : Nat → Prop} {a : Option Addr} {c : Nat} (h : Sl boolE S w a c l) (i : Nat) (hi : i < l.length) : ∃ b off, a = some ⟨b, off, none⟩ ∧ S b ∧ w.cell? ⟨b, off + i, none⟩ = some (.bool l[i]) := by
 obtain ⟨b, off, ha, hb, _, vs, _, hv, hr⟩ := h.at1 i hi
 have hr' : vs = [.bool l[i]] := hr
 subst hr'
 have := hv 0 (by simp)
 simp [boolE] at this
 exact ⟨b, off, ha, hb, this⟩
theorem OwnB.cell {g cap n : Nat} (h : OwnB w base (.slice (some ⟨g, 0, none⟩) n cap) l) (hn : n = l.length) (i : Nat) (hi : i < l.length) : w.cell? ⟨g, i, none⟩ = some (.bool l[i]) ∧ w.frozen? ⟨g, i, none⟩ = false := by
 subst hn
 have ho := h.row
 exact ⟨by rw [ho.cellAt i (by omega)]; simp [hi], ho.frozenAt i⟩
theorem OwnB.set {g cap n : Nat} (h : OwnB w base (.slice (some ⟨g, 0, none⟩) n cap) l) (hn : n = l.length) (i : Nat) (x : Bool) :
  OwnB (w.setCell ⟨g, i, none⟩ (.bool x)) base (.slice (some ⟨g, 0, none⟩) n cap) (l.set i x) ∧ w.grownBy (w.setCell ⟨g, i, none⟩ (.bool x)) (some g) := by
 subst hn
 obtain ⟨h1, h2⟩ := h.row.stored i (.bool x)
 exact ⟨.of_row (by rw [List.length_set, List.map_set]; exact h1), h2⟩
theorem OwnB.lit (w : World) (l : List Bool) (hl : l.length ≤ maxLen) : OwnB (w.alloc (.cells (l.map Value.bool).toArray 4)) w.heap.size (.slice (some ⟨w.heap.size, 0, none⟩) l.length l.length) l :=
 .of_row (by have := World.ownsRow_lit (e := 4) (size := 1) w (l.map Value.bool).toArray l.length (Nat.le_refl _) hl (by simp); simpa using this)
end
theorem infoBool : (Tryz.prog.info? 4).map (fun i => (i.zero, i.size, i.bytes)) = some (some (.bool false), 1, 1) := by kernel_rfl
theorem makeFalse {W : World} (n : Nat) (hn : n ≤ 100) : (Instr.makeSlice 94 (.int .i64 (n : Int)) (.int .i64 (n : Int))).run Tryz.prog W = .ok (.slice (some ⟨W.heap.size, 0, none⟩) n n) (W.alloc (.cells (Array.replicate n (.bool false)) 4)) := by
 obtain ⟨i, hi, hz0, hz1, hz2⟩ := info_parts infoBool
 have := run_make (P := Tryz.prog) W 94 4 i (.bool false) Tryz.underlying94 hi hz0 .i64 .i64 n n (by omega) (by omega) (by rw [hz2]; omega) (by omega)
 rw [this, hz1, Int.toNat_natCast, Nat.mul_one]
 have hm : madeCells (Value.bool false).cells n = Array.replicate n (.bool false) := by
  apply Array.ext
  ·simp [madeCells]
  ·intro i h1 h2; simp [madeCells, Value.cells, Nat.mod_one]
 rw [hm]
theorem OwnB.made (w : World) (n : Nat) (hn : n ≤ 100) : OwnB (w.alloc (.cells (Array.replicate n (.bool false)) 4)) w.heap.size (.slice (some ⟨w.heap.size, 0, none⟩) n n) (List.replicate n false) := by
 have h := OwnB.lit w (List.replicate n false) (by rw [List.length_replicate]; unfold maxLen; omega)
 rw [List.length_replicate, List.map_replicate, List.toArray_replicate] at h
 exact h
def retB (w : World) (l : List Bool) (e : Ending) (w' : World) : Prop := ∃ v, e = .returned v ∧ OwnB w' w.heap.size v l ∧ Below w.heap.size w w'
end Go.Proofs.YtpmnnoopoblpgaaGreat

/- Walks: lemmaryref04.detach, Detach, Detaches. -/
namespace Go.Proofs.YtpmnnoopoblpgaaGreat
open Go Go.RowKit Go.Maps

theorem argsW_two {s : Sg} {m A B : List Int} (hm : W1 s m) (e : m = 0 :: (A ++ B)) (hA : W1 s A) (har : arW s 0 = 2) : argsW s m = [A, B] := by
 subst e
 obtain ⟨h1, h2, h3, -⟩ := hm.args
 obtain ⟨L, hL⟩ : ∃ L, argsW s (0 :: (A ++ B)) = L := ⟨_, rfl⟩
 rw [hL] at h1 h2 h3 ⊢
 rw [har] at h1
 match L, h1 with
 | [x, y], _ =>
  have h4 : x ++ (y ++ []) = A ++ B := by simpa using h2
  obtain ⟨e1, e2⟩ := W1.uniq (h3 x (by simp)) hA h4
  rw [e1]
  rw [List.append_nil] at e2
  rw [e2]
theorem arW_zero {s : Sg} (hok : okSign s = true) : arW s 0 = 2 := by
 have h := ar_zero hok
 have hl := (okSign_len hok).1
 unfold okSign at hok
 simp only [Bool.and_eq_true, decide_eq_true_eq] at hok
 unfold arW
 rw [if_neg (by omega)]
 have := hok.2
 simp only [Int.toNat_zero] at *
 rw [this]; rfl
theorem solx_new {w : World} {a1 : Option Addr} {c1 : Nat} {s : Sg} {S1 : Nat → Prop} (h1 : Sign S1 w a1 c1 s) :
  SolX (Nx w.heap.size) (w.alloc (.cells #[.slice a1 s.length c1, .slice none 0 0, .slice none 0 0, .slice none 0 0, .slice none 0 0, .slice none 0 0, .slice none 0 0, .slice none 0 0, .slice none 0 0, .slice none 0 0, .slice none 0 0, .slice none 0 0, .slice none 0 0, .slice none 0 0, .slice none 0 0, .slice none 0 0, .slice none 0 0, .slice none 0 0, .slice none 0 0, .slice none 0 0, .slice none 0 0, .slice none 0 0, .slice none 0 0, .slice none 0 0, .slice none 0 0] 202)) w.heap.size a1 c1 s (fun _ => none) := by
 refine ⟨⟨List.replicate 24 (.slice none 0 0), by rw [heap_alloc_new]; rfl, rfl, fun i hi => ?_⟩, ?_, fun _ _ h => by cases h⟩
 ·rw [List.getElem_replicate]; rfl
 ·exact (h1.lt.below (below1 _ _)).weak (fun b hb e => by have := hb.2; omega)
theorem wpList_box {P : Program} {ops : Array Oper} {Q : Exit → Act → World → Prop} {a : Act} {w : World} {o1 o2 o3 o4 : Oper} (ty : TypeId) (x0 xs xp xv : Operand) (v zv : Value) (cs : Array Value)
  (g1 : o1.guard = none) (g2 : o2.guard = none) (g3 : o3.guard = none) (g4 : o4.guard = none)
  (h1 : o1.op = .move x0) (h2 : o2.op = .build ty #[(0, xs)]) (h3 : o3.op = .alloc ty) (h4 : o4.op = .store ty xp xv)
  (e1 : a.eval x0 = v) (e2 : (a.put o1.dst v).eval xs = v) (e3 : (((a.put o1.dst v).put o2.dst (.agg cs)).put o3.dst (.pointer (some ⟨w.heap.size, 0, none⟩))).eval xp = .pointer (some ⟨w.heap.size, 0, none⟩))
  (e4 : (((a.put o1.dst v).put o2.dst (.agg cs)).put o3.dst (.pointer (some ⟨w.heap.size, 0, none⟩))).eval xv = .agg cs)
  (hb : (Instr.build ty #[(0, v)]).run P w = .ok (.agg cs) w) (hz : (zeroValue ty).run P w = .ok zv w) (hzs : zv.cells.size = cs.size) (hi : (P.info? ty).map (·.size) = some cs.size) (hc : cs.all (·.oneCell') = true)
  (h : wpList P ops Q [] ((((a.put o1.dst v).put o2.dst (.agg cs)).put o3.dst (.pointer (some ⟨w.heap.size, 0, none⟩))).put o4.dst undef) (w.alloc (.cells cs ty))) : wpList P ops Q [o1, o2, o3, o4] a w := by
 refine wpList_plain g1 fun _ hK => ?_
 unfold Oper.wp execOp
 simp only [h1, e1, Sem.run_pure]
 refine hK _ _ (wpList_plain g2 fun _ hK2 => ?_)
 unfold Oper.wp execOp
 simp only [h2, List.map_toArray, List.map_cons, List.map_nil, e2, Sem.run_bind, hb, Result.andThen_ok, Sem.run_pure]
 refine hK2 _ _ (wpList_plain g3 fun _ hK3 => ?_)
 unfold Oper.wp execOp
 simp only [h3, Instr.alloc, Sem.run_bind, hz, Result.andThen_ok, Sem.run_pure, newVar, newRow, newObj]
 refine hK3 _ _ (wpList_plain g4 fun _ hK4 => ?_)
 unfold Oper.wp execOp
 simp only [h4, e3, e4, Sem.run_bind]
 rw [show (Instr.storeAt ty (.pointer (some ⟨w.heap.size, 0, none⟩)) (.agg cs)).run P { heap := w.heap.push (.cells zv.cells ty), tape := w.tape, drawn := w.drawn, os := w.os, output := w.output } = _ from run_storeAt_new w ty zv.cells cs hi hzs hc]
 exact hK4 _ _ h
theorem solver_zero : (Tryz.prog.info? 202).map (fun i => (i.zero, i.size)) = some (some (.agg #[.slice none 0 0, .slice none 0 0, .slice none 0 0, .slice none 0 0, .slice none 0 0, .slice none 0 0, .slice none 0 0, .slice none 0 0, .slice none 0 0, .slice none 0 0, .slice none 0 0, .slice none 0 0, .slice none 0 0, .slice none 0 0, .slice none 0 0, .slice none 0 0, .slice none 0 0, .slice none 0 0, .slice none 0 0, .slice none 0 0, .slice none 0 0, .slice none 0 0, .slice none 0 0, .slice none 0 0, .slice none 0 0]), 25) := by kernel_rfl
theorem solver_build (w : World) (a : Option Addr) (n c : Nat) : (Instr.build 202 #[(0, .slice a n c)]).run Tryz.prog w = .ok (.agg #[.slice a n c, .slice none 0 0, .slice none 0 0, .slice none 0 0, .slice none 0 0, .slice none 0 0, .slice none 0 0, .slice none 0 0, .slice none 0 0, .slice none 0 0, .slice none 0 0, .slice none 0 0, .slice none 0 0, .slice none 0 0, .slice none 0 0, .slice none 0 0, .slice none 0 0, .slice none 0 0, .slice none 0 0, .slice none 0 0, .slice none 0 0, .slice none 0 0, .slice none 0 0, .slice none 0 0, .slice none 0 0]) w := by kernel_rfl
set_option maxHeartbeats 1000000 in
theorem rdetach_no {S2 : Nat → Prop} (v v3 : Value) (a2 : Option Addr) (c2 : Nat) (s : Sg) (m n : List Int) (w : World) (h2 : Ints S2 w a2 c2 m) (hm : okT s m = true) (hn : okT s n = true) (h0 : m.headD 0 ≠ 0) :
  Calls Tryz.prog 180 #[v, .slice a2 m.length c2, v3] w (retE (detE s m n) w) := by
 have m2 := h2.le
 have lm := (okT_parts hm).2.1
 obtain ⟨b, o, rfl, -, q, -⟩ := h2.int 0 (by omega)
 have hg : m[0] = m.headD 0 := by cases m with | nil => simp at lm | cons _ _ => rfl
 rw [hg, Nat.add_zero] at q
 have hne : (m.headD 0 != 0) = true := by simpa using h0
 rw [detE_state hm hn h0]
 obtain ⟨x, hx⟩ : ∃ x, m.headD 0 = x := ⟨_, rfl⟩
 rw [hx] at q hne
 clear h2 hg h0 hx hm hn
 go_enter Tryz.func180, Tryz.ntmps180
 go_wp2_with fail
 go_ret2
 exact ⟨_, rfl, .nil _ _ _ _ _, .refl _ _⟩
set_option maxRecDepth 20000 in
set_option maxHeartbeats 4000000 in
theorem rdetach_any {S1 S2 S3 : Nat → Prop} (a1 a2 a3 : Option Addr) (c1 c2 c3 : Nat) (s : Sg) (m n : List Int) (w : World) (h1 : Sign S1 w a1 c1 s) (h2 : Ints S2 w a2 c2 m) (h3 : Ints S3 w a3 c3 n) (hm : okT s m = true) (hn : okT s n = true) :
  Calls Tryz.prog 180 #[.slice a1 s.length c1, .slice a2 m.length c2, .slice a3 n.length c3] w (retE (detE s m n) w) := by
 by_cases h0 : m.headD 0 = 0
 case neg => exact rdetach_no _ _ a2 c2 s m n w h2 hm hn h0
 have m1 := h1.le
 have m2 := h2.le
 have m3 := h3.le
 obtain ⟨A, B, e1, e2, oA, oB⟩ := halves hm h0
 have hok := (okT_parts hm).1
 have wA := okT_w1 oA
 have wB := okT_w1 oB
 have wm := okT_w1 hm
 have hd := detE_at hm hn e2 wA
 have hlm := (okT_parts hm).2.2.1
 have hln := (okT_parts hn).2.2.1
 have hlA := (okT_parts oA).2.2.1
 have hlB := (okT_parts oB).2.2.1
 have hL := argsW_two wm e2 wA (arW_zero hok)
 obtain ⟨A1, A2, A3⟩ := args_all wm rfl
 have lm := wm.len
 obtain ⟨b, o, rfl, -, q, -⟩ := h2.int 0 lm
 have hg : m[0] = 0 := by rw [← h0]; cases m with | nil => simp at lm | cons _ _ => rfl
 rw [hg, Nat.add_zero] at q
 have hll : (argsW s m).length = 2 := by rw [hL]; rfl
 have hap : (aposL s m).length = 2 := by rw [aposL_len, hll]
 obtain ⟨f1, f2, f3, f4⟩ := A3 0 (by omega)
 obtain ⟨g1, g2, g3, g4⟩ := A3 1 (by omega)
 simp only [hL, List.getElem_cons_zero, List.getElem_cons_succ] at f4 g4 g1 f1
 have ca := wArguments_any a1 (some ⟨b, o, none⟩) c1 c2 s m w h1 h2 hok wm (by omega)
 have cP1 := fun W (hb : Below w.heap.size w W) => wPart_any a1 (some ⟨b, o, none⟩) c1 c2 s m _ _ A W (h1.below hb) (h2.below hb) hok f1 f2 f3 f4 (by omega)
 have cP2 := fun W (hb : Below w.heap.size w W) => wPart_any a1 (some ⟨b, o, none⟩) c1 c2 s m _ _ B W (h1.below hb) (h2.below hb) hok g1 g2 g3 g4 (by omega)
 have cA := fun W (hb : Below w.heap.size w W) => rApart_any a3 c3 n W (h3.below hb) (by unfold lim; omega) (okT_ne hn) (okT_rg hn)
 have hnew := fun W (hb : Below w.heap.size w W) => solx_new (h1.below hb)
 have cS := fun xb => rsolve_any (xb := xb) (a1 := a1) (c1 := c1) hok _ _ (fun _ => none) (fun n => [n]) (fun _ => 0) A (apartT n) (Slv.empty s) (fun _ _ h => by cases h) wA (apartT_w (okT_w1 hn)) (okT_Rg oA) (apartT_rg hn) hlA (by rw [apartT_len]; exact hln) (fun _ _ h => by cases h) (Nat.le_refl _) (Nat.le_refl _)
 have cF := fun xb B' θ' ρ' (h : Slv s B' θ' ρ') (hr : RgB B') aB cB W (hS : SolX (Nx xb) W xb a1 c1 s B') (hB : Ints (Nx xb) W aB cB B) => rFew_any hok h hr B aB cB W hS hB wB (okT_Rg oB) hlB
 have hno : (∀ η, Wsub s η → Sat (fun _ => none) η → ap η A ≠ ap η (apartT n)) → detE s m n = ([], 8) := fun h => by rw [hd]; exact uniE_none (fun η hw => h η hw (fun _ _ h => by cases h)) B
 have hyes : ∀ B' θ' ρ', Slv2 s (fun _ => none) (fun n => [n]) (fun _ => 0) A (apartT n) B' θ' ρ' → detE s m n = madeE θ' B := fun B' θ' ρ' h => by rw [hd]; exact uniE_some (IsMgu.of2 h) B
 have qz := World.block_lt_of_cell? w _ q
 have aL0 := aposL_at (s := s) (t := m) (k := 0) (by omega)
 have aL1 := aposL_at (s := s) (t := m) (k := 1) (by omega)
 obtain ⟨p0, hp0⟩ : ∃ p0, apos s m 0 = p0 := ⟨_, rfl⟩
 obtain ⟨p1, hp1⟩ : ∃ p1, apos s m 1 = p1 := ⟨_, rfl⟩
 rw [hp0] at aL0 cP1
 rw [hp1] at aL1
 simp only [hp1] at cP2
 have caH := Lib.hid ca
 have cP1H := Lib.hid cP1
 have cP2H := Lib.hid cP2
 have cAH := Lib.hid cA
 have hnewH := Lib.hid hnew
 have cSH := Lib.hid cS
 have cFH := Lib.hid cF
 have hnoH := Lib.hid hno
 have hyesH := Lib.hid hyes
 clear ca cP1 cP2 cA hnew cS cF hno hyes h1 h2 h3 hm hn e1 e2 oA oB hok wA wB wm hd hlm hln hlA hlB hL A1 A2 A3 hg hll f1 f2 f3 f4 g1 g2 g3 g4 hp0 hp1 h0
 go_enter Tryz.func180, Tryz.ntmps180
 go_wp2_with fail
 (with_reducible refine caH.out.mono ?_)
 rintro e w1 ⟨vL, rfl, hoL, hb1⟩
 obtain ⟨aL, cL, rfl, hIL⟩ := OwnI.ints hoL
 obtain ⟨bL, oL, rfl, hbL, qL0, -⟩ := hIL.int 0 (by omega)
 obtain ⟨bL', oL', e', -, qL1, -⟩ := hIL.int 1 (by omega)
 simp only [Option.some.injEq, Addr.mk.injEq, and_true] at e'
 obtain ⟨rfl, rfl⟩ := e'
 rw [aL0, Nat.add_zero] at qL0
 rw [aL1] at qL1
 have mL := hIL.le
 rw [hap] at mL ⊢
 have hltL : bL < w1.heap.size := World.block_lt_of_cell? _ _ qL0
 clear hoL hIL caH aL0 aL1 hap
 go_upto_region 4 with fail
 refine wp_region_lit (wpList_box 202 (.tmp 0) (.tmp 17) (.tmp 9) (.tmp 18) (.slice a1 s.length c1) _ _ rfl rfl rfl rfl rfl rfl rfl rfl rfl rfl rfl rfl (solver_build w1 a1 s.length c1) ((zero_of_info solver_zero).1 w1) rfl (zero_of_info solver_zero).2 (by kernel_rfl) ?_)
 have hS2 := hnewH.out w1 hb1
 obtain ⟨W2, hW2⟩ : ∃ W2, w1.alloc (.cells #[.slice a1 s.length c1, .slice none 0 0, .slice none 0 0, .slice none 0 0, .slice none 0 0, .slice none 0 0, .slice none 0 0, .slice none 0 0, .slice none 0 0, .slice none 0 0, .slice none 0 0, .slice none 0 0, .slice none 0 0, .slice none 0 0, .slice none 0 0, .slice none 0 0, .slice none 0 0, .slice none 0 0, .slice none 0 0, .slice none 0 0, .slice none 0 0, .slice none 0 0, .slice none 0 0, .slice none 0 0, .slice none 0 0] 202) = W2 := ⟨_, rfl⟩
 rw [hW2] at hS2 ⊢
 have hb2 : Below w1.heap.size w1 W2 := by rw [← hW2]; exact below1 _ _
 have qL0' := cell_later hb2 qL0
 have qL1' := cell_later hb2 qL1
 have hB2 := bcall hb1 hb2
 have hz1 := hb1.size
 have hz2 := hb2.size
 have hx2 := hS2.lt
 have cp := Lib.hid (cP1H.out W2 hB2)
 have hS2H := Lib.hid hS2
 clear hS2 hW2 qL0 qL1 cP1H hnewH
 go_wp2_with fail
 (with_reducible refine cp.out.mono ?_)
 rintro e w3 ⟨vA, rfl, hoA, hb3⟩
 obtain ⟨aA, cA, rfl, hIA⟩ := OwnI.ints hoA
 have hB3 := bcall hB2 hb3
 have ca2 := Lib.hid (cAH.out w3 hB3)
 clear hoA cp cAH
 go_wp2_with fail
 (with_reducible refine ca2.out.mono ?_)
 rintro e w4 ⟨vN, rfl, hoN, hb4⟩
 obtain ⟨aN, cN, rfl, hIN⟩ := OwnI.ints hoN
 have hB4 := bcall hB3 hb4
 have hb24 := bcall hb3 hb4
 have hz3 := hb3.size
 have hz4 := hb4.size
 have cc := Lib.hid (cSH.out w1.heap.size w4 aA aN cA cN (hS2H.out.below hb24) ((hIA.below hb4).weak (fun b hb e => by have hb' : W2.heap.size ≤ b := hb; omega)) (hIN.weak (fun b hb e => by have hb' : w3.heap.size ≤ b := hb; omega)))
 have qL1'' := cell_later hb24 qL1'
 clear hoN ca2 cSH hIA hIN hS2H qL0' qL1'
 go_wp2_with fail
 (with_reducible refine cc.out.mono ?_)
 rintro e w5 ⟨r, B', rfl, hg5, hS5, hf, ht⟩
 have hB5 := below_of_gby hB4 hg5 (by omega) hz1
 clear cc
 cases r with
 | false =>
  have hd := Lib.hid (hnoH.out (hf rfl))
  clear hf ht hS5 hnoH hyesH hg5 qL1''
  go_wp2_with fail
  go_ret2
  rw [hd.out]
  exact ⟨_, rfl, .nil _ _ _ _ _, hB5⟩
 | true =>
  obtain ⟨θ', ρ', h2⟩ := ht rfl
  have hd := Lib.hid (hyesH.out _ _ _ h2)
  have qL5 := (World.cell?_of_block (hg5.block bL (World.block_lt_of_cell? _ _ qL1'') (fun e => by cases e; omega))).trans qL1''
  have cp := Lib.hid (cP2H.out w5 hB5)
  have hS5H := Lib.hid hS5
  have h2H := Lib.hid h2
  have hx5 := hS5.lt
  clear hf ht hnoH hyesH hg5 qL1'' cP2H h2 hS5
  go_wp2_with fail
  (with_reducible refine cp.out.mono ?_)
  rintro e w6 ⟨vB, rfl, hoB, hb6⟩
  obtain ⟨aB, cB, rfl, hIB⟩ := OwnI.ints hoB
  have hB6 := bcall hB5 hb6
  have cf := Lib.hid (cFH.out w1.heap.size B' θ' ρ' h2H.out.slv h2H.out.rg aB cB w6 (hS5H.out.below hb6) (hIB.weak (fun b hb e => by have hb' : w5.heap.size ≤ b := hb; omega)))
  clear hoB hIB cp cFH hS5H h2H
  go_wp2_with fail
  (with_reducible refine cf.out.mono ?_)
  rintro e w7 ⟨v7, rfl, ho7, hb7⟩
  have ho7H := Lib.hid (OwnL.baseMono (base' := w.heap.size) ho7 hB6.size)
  clear ho7 cf
  go_wp2_with fail
  go_ret2
  rw [hd.out]
  exact ⟨_, rfl, ho7H.out, bcall hB6 hb7⟩
end Go.Proofs.YtpmnnoopoblpgaaGreat

/- Walks: lemmaryref06.Name, Has, Index. -/
namespace Go.Proofs.YtpmnnoopoblpgaaGreat
open Go Go.RowKit Go.Maps

theorem nmRel_next {s : ByteArray} {w : World} {k : Nat} (hk : k < s.size) (h : nmTo s (k + 1) = true) : nmRel s w (.int .i64 ((k : Int) + 1)) w ∧ s.size - (intOf (.int .i64 ((k : Int) + 1))).toNat < s.size - (intOf (.int .i64 (k : Int))).toNat :=
 ⟨⟨k + 1, by simp, hk, h, rfl⟩, by simp only [intOf]; omega⟩
theorem nmRel_one {s : ByteArray} {w : World} (hk : 0 < s.size) (h : nmTo s (0 + 1) = true) : nmRel s w (.int .i64 1) w ∧ s.size - (intOf (.int .i64 1)).toNat < s.size - (intOf (.int .i64 ((0 : Nat) : Int))).toNat :=
 ⟨⟨1, rfl, hk, h, rfl⟩, by simp only [intOf]; omega⟩
set_option maxHeartbeats 4000000 in
theorem rName_any (s : ByteArray) (hs : s.size ≤ big) (w : World) : Calls Tryz.prog 25 #[.string s] w fun e w' => e = .returned (.bool (nameB s)) ∧ w = w' := by
 unfold big at hs
 go_enter Tryz.func25, Tryz.ntmps25
 go_wp2_with fail
 go_loopw [3] (fun i wr => nmRel s w i wr) (fun i _ => s.size - (intOf i).toNat)
 case atStart => exact ⟨0, rfl, Nat.zero_le _, rfl, rfl⟩
 case round =>
  obtain ⟨k, rfl, hk, hn, rfl⟩ := hrel
  by_cases hlt : k < s.size
  ·have hg := getD_byte hlt
   have hsu := nmTo_succ s k
   rw [hn, Bool.true_and, hg] at hsu
   have hbad := fun h => nmTo_bad hlt (by rw [hg]; exact h)
   have hkl : ((k : Int) < (s.size : Int)) = True := eq_true (by omega)
   have hsuH := Lib.hid hsu
   have hbadH := Lib.hid hbad
   clear hg hsu hbad hn
   go_wp2_with fail
   all_goals try subst_vars
   all_goals first
    | (exfalso; omega)
    | (exfalso; simp only [Bool.not_eq_false', Bool.not_eq_true', decide_eq_true_eq, decide_eq_false_iff_not, beq_iff_eq, beq_eq_false_iff_ne, ne_eq] at *; omega)
    | exact nmRel_one hlt (hsuH.out.trans (by simp only [nmC, Bool.or_eq_true, Bool.and_eq_true, decide_eq_true_eq, ne_eq]; (try simp only [Bool.not_eq_true', decide_eq_false_iff_not] at *); omega))
    | exact nmRel_next hlt (hsuH.out.trans (by simp only [nmC, Bool.or_eq_true, Bool.and_eq_true, decide_eq_true_eq, ne_eq]; (try simp only [Bool.not_eq_false', Bool.not_eq_true', decide_eq_true_eq, decide_eq_false_iff_not, beq_iff_eq, beq_eq_false_iff_ne, ne_eq] at *); omega))
    | (go_ret; exact ⟨ret_bool (hbadH.out (by rw [Bool.eq_false_iff]; simp only [nmC, Bool.or_eq_true, Bool.and_eq_true, decide_eq_true_eq, ne_eq]; (try simp only [Bool.not_eq_true', decide_eq_false_iff_not, beq_iff_eq, beq_eq_false_iff_ne, ne_eq] at *); first | omega | (simp; done) | (simp; omega))).symm, rfl⟩)
  ·have hkk : k = s.size := by omega
   rw [hkk] at hn
   have hnb : nameB s = (decide (1 ≤ s.size) && decide (s.size ≤ 16)) := by unfold nameB; rw [hn, Bool.true_and]
   have hkl : ((k : Int) < (s.size : Int)) = False := eq_false (by omega)
   have hnbH := Lib.hid hnb
   have hkkH := Lib.hid hkk
   clear hn hnb hkk hlt hk
   by_cases h1 : 1 ≤ s.size
   ·have h1i : ((1 : Int) ≤ (s.size : Int)) = True := eq_true (by omega)
    by_cases h2 : s.size ≤ 16
    ·have h2i : ((s.size : Int) ≤ 16) = True := eq_true (by omega)
     go_wp2_with fail
     go_ret
     exact ⟨ret_bool (by rw [hnbH.out]; simp; omega), rfl⟩
    ·have h2i : ((s.size : Int) ≤ 16) = False := eq_false (by omega)
     go_wp2_with fail
     go_ret
     exact ⟨ret_bool (by rw [hnbH.out]; simp; omega), rfl⟩
   ·have h1i : ((1 : Int) ≤ (s.size : Int)) = False := eq_false (by omega)
    go_wp2_with fail
    go_ret
    exact ⟨ret_bool (by rw [hnbH.out]; simp; omega), rfl⟩
end Go.Proofs.YtpmnnoopoblpgaaGreat

/- Walks: ValidEntry of the reference. -/
namespace Go.Proofs.YtpmnnoopoblpgaaGreat
open Go Go.RowKit Go.Maps

theorem Sl.pre {α : Type} {E : Enc α} {S : Nat → Prop} {w : World} {a : Option Addr} {c : Nat} {l : List α} (h : Sl E S w a c l) (k : Nat) : Sl E S w a c (l.take k) := by
 refine ⟨by have := h.cap; rw [List.length_take]; omega, h.max, fun e => by obtain ⟨e1, e2⟩ := h.nil e; exact ⟨by rw [e1]; simp, e2⟩, fun hne => ?_⟩
 obtain ⟨b, off, ha, hb, hl, hc⟩ := h.dat (fun e => hne (by rw [e]; simp))
 refine ⟨b, off, ha, hb, hl, fun i hi => ?_⟩
 rw [List.length_take] at hi
 obtain ⟨vs, h1, h2, h3⟩ := hc i (by omega)
 exact ⟨vs, h1, h2, by rw [List.getElem_take]; exact h3⟩
theorem nodup_take {us : List ByteArray} {j : Nat} (hj : j < us.length) (h : (us.take j).Nodup) (hm : memB (us.take j) us[j] = false) : (us.take (j + 1)).Nodup := by
 rw [List.take_succ_eq_append_getElem hj, List.nodup_append]
 refine ⟨h, by simp, fun a ha b hb e => ?_⟩
 rw [List.mem_singleton] at hb
 have : memB (us.take j) us[j] = true := memB_iff.2 (by rw [← hb, ← e]; exact ha)
 rw [hm] at this; cases this
theorem nodup_bad {us : List ByteArray} {j : Nat} (hj : j < us.length) (hm : memB (us.take j) us[j] = true) : ¬ us.Nodup := by
 intro h
 obtain ⟨q, hq, e⟩ := List.getElem_of_mem (memB_iff.1 hm)
 rw [List.length_take] at hq
 rw [List.getElem_take] at e
 have := (List.getElem_inj (xs := us) (h₀ := by omega) (h₁ := hj) h).1 e
 omega
theorem all_take {us : List ByteArray} {j : Nat} (hj : j < us.length) (h : (us.take j).all nameB = true) (hn : nameB us[j] = true) : (us.take (j + 1)).all nameB = true := by
 rw [List.take_succ_eq_append_getElem hj, List.all_append, h]; simpa using hn
theorem all_bad {us : List ByteArray} {j : Nat} (hj : j < us.length) (hn : nameB us[j] = false) : us.all nameB = false := by
 rw [List.all_eq_false]; exact ⟨us[j], List.getElem_mem hj, by rw [hn]; simp⟩
def rvyRel (us : List ByteArray) (w2 : World) (i : Value) (wr : World) : Prop := ∃ j : Nat, i = .int .i64 j ∧ j ≤ us.length ∧ (us.take j).Nodup ∧ (us.take j).all nameB = true ∧ Drew w2 wr
set_option maxHeartbeats 4000000 in
theorem rValidEntry_any {S1 S2 : Nat → Prop} (sa : Option Addr) (sc : Nat) (s : Sg) (x : Ent) (a1 a2 a3 : Option Addr) (c1 c2 c3 : Nat) (w : World) (h1 : Sign S1 w sa sc s) (hn : (eNm x).size ≤ big) (hb : (eBy x).size ≤ big)
  (hI : Ints S2 w a1 c1 (eSays x)) (hU : Sl strE S2 w a2 c2 (eUses x)) (hP : Steps S2 w a3 c3 (ePf x)) :
  Calls Tryz.prog 19 #[.slice sa s.length sc, entV (eNm x) (eBy x) (eSays x).length (eUses x).length (ePf x).length a1 a2 a3 c1 c2 c3] w fun e w' => e = .returned (.bool (okEnt s x)) ∧ Below w.heap.size w w' := by
 have m1 := hI.le
 have m2 := hU.le
 have m3 := hP.le
 have hok : okEnt s x = ((nameB (eNm x) && (nameB (eBy x) && isCanonT s (eSays x))) && ((decide ((eUses x).length ≤ 12) && (decide (eUses x).Nodup && (eUses x).all nameB)) && ((decide (eUses x = []) && decide (ePf x = [])) || proofB (eUses x).length (ePf x)))) := rfl
 obtain ⟨W, hW⟩ : ∃ W, w.alloc (.cells #[.string (eNm x), .string (eBy x), .slice a1 (eSays x).length c1, .slice a2 (eUses x).length c2, .slice a3 (ePf x).length c3] 37) = W := ⟨_, rfl⟩
 have hB : Below w.heap.size w W := by rw [← hW]; exact below1 w _
 have q0 : W.cell? ⟨w.heap.size, 0, none⟩ = some (.string (eNm x)) := by rw [← hW]; clear hW; go_simp
 have q1 : W.cell? ⟨w.heap.size, 1, none⟩ = some (.string (eBy x)) := by rw [← hW]; clear hW; go_simp
 have q2 : W.cell? ⟨w.heap.size, 2, none⟩ = some (.slice a1 (eSays x).length c1) := by rw [← hW]; clear hW; go_simp
 have q3 : W.cell? ⟨w.heap.size, 3, none⟩ = some (.slice a2 (eUses x).length c2) := by rw [← hW]; clear hW; go_simp
 have q4 : W.cell? ⟨w.heap.size, 4, none⟩ = some (.slice a3 (ePf x).length c3) := by rw [← hW]; clear hW; go_simp
 have k1 := rName_any (eNm x) hn W
 have k2 := rName_any (eBy x) hb W
 have kv := rValid_any sa a1 sc c1 s (eSays x) W (h1.below hB) (hI.below hB)
 have k3 := fun W' (hb' : Below W.heap.size W W') => rIsCanonical_any sa a1 sc c1 s (eSays x) W' ((h1.below hB).below hb') ((hI.below hB).below hb')
 have k6 := fun W' (hb' : Below W.heap.size W W') => rValidProof_any ((eUses x).length : Int) a3 c3 (ePf x) W' ((hP.below hB).below hb')
 have hcv : okT s (eSays x) = false → isCanonT s (eSays x) = false := fun h => by unfold isCanonT; rw [h]; rfl
 have hUW := hU.below hB
 have hP0 : ePf x = [] → proofB (eUses x).length (ePf x) = false := fun h => by rw [h]; unfold proofB validP; simp
 clear h1 hI hU hP hn hb
 generalize okEnt s x = OK at hok ⊢
 generalize eNm x = nm at *
 generalize eBy x = bn at *
 generalize (eSays x).length = n1 at *
 generalize isCanonT s (eSays x) = b3 at *
 generalize okT s (eSays x) = bv at *
 generalize eUses x = us at *
 generalize ePf x = pf at *
 generalize proofB (us.length : Int) pf = b6 at *
 have hUH := Lib.hid hUW
 have k6H := Lib.hid k6
 have hokH := Lib.hid hok
 have hBH := Lib.hid hB
 have hP0H := Lib.hid hP0
 clear hUW k6 hok hB hP0
 cases hb1 : nameB nm with
 | false =>
  rw [hb1] at k1 hokH
  have k1H := Lib.hid k1
  clear k1 k2 kv k3 hb1 hcv
  go_enter Tryz.func19, Tryz.ntmps19
  go_wp2_with fail
  try rw [hW]
  refine k1H.out.mono ?_
  rintro e w1 ⟨rfl, rfl⟩
  go_wp2_with fail
  go_ret
  exact ⟨by rw [hokH.out]; rfl, hBH.out⟩
 | true =>
 cases hb2 : nameB bn with
 | false =>
  rw [hb1] at k1 hokH
  rw [hb2] at k2 hokH
  have k1H := Lib.hid k1
  have k2H := Lib.hid k2
  clear k1 k2 kv k3 hb1 hb2 hcv
  go_enter Tryz.func19, Tryz.ntmps19
  go_wp2_with fail
  try rw [hW]
  refine k1H.out.mono ?_
  rintro e w1 ⟨rfl, rfl⟩
  go_wp2_with fail
  refine k2H.out.mono ?_
  rintro e w1 ⟨rfl, rfl⟩
  go_wp2_with fail
  go_ret
  exact ⟨by rw [hokH.out]; rfl, hBH.out⟩
 | true =>
 rw [hb1] at k1 hokH
 rw [hb2] at k2 hokH
 have k1H := Lib.hid k1
 have k2H := Lib.hid k2
 clear k1 k2 hb1 hb2
 cases bv with
 | false =>
  have hc := hcv rfl
  subst hc
  have kvH := Lib.hid kv
  clear kv k3 hcv
  go_enter Tryz.func19, Tryz.ntmps19
  go_wp2_with fail
  try rw [hW]
  refine k1H.out.mono ?_
  rintro e w1 ⟨rfl, rfl⟩
  go_wp2_with fail
  refine k2H.out.mono ?_
  rintro e w1 ⟨rfl, rfl⟩
  go_wp2_with fail
  refine kvH.out.mono ?_
  rintro e w2 ⟨rfl, hd⟩
  have hfin := Lib.hid (bcall hBH.out (hd.below _))
  clear hd
  go_wp2_with fail
  go_ret
  exact ⟨by rw [hokH.out]; rfl, hfin.out⟩
 | true =>
 have kvH := Lib.hid kv
 have k3H := Lib.hid k3
 clear kv k3 hcv
 go_enter Tryz.func19, Tryz.ntmps19
 go_wp2_with fail
 try rw [hW]
 refine k1H.out.mono ?_
 rintro e w1 ⟨rfl, rfl⟩
 go_wp2_with fail
 refine k2H.out.mono ?_
 rintro e w1 ⟨rfl, rfl⟩
 go_wp2_with fail
 refine kvH.out.mono ?_
 rintro e w2 ⟨rfl, hd⟩
 have hb2 := hd.below W.heap.size
 have k3a := Lib.hid (k3H.out w2 hb2)
 have p2 := cell_later hb2 q2
 have p3 := cell_later hb2 q3
 have p4 := cell_later hb2 q4
 have hb2H := Lib.hid hb2
 clear hd hb2 q0 q1 q2 q3 q4
 cases b3 with
 | false =>
  go_wp2_with fail
  refine k3a.out.mono ?_
  rintro e w3 ⟨rfl, hb3⟩
  have hfin := Lib.hid (bcall (bcall hBH.out hb2H.out) hb3)
  clear hb3
  go_wp2_with fail
  go_ret
  exact ⟨by rw [hokH.out]; rfl, hfin.out⟩
 | true =>
 rw [Bool.true_and, Bool.true_and, Bool.true_and] at hokH
 go_wp2_with fail
 refine k3a.out.mono ?_
 rintro e w3 ⟨rfl, hb3⟩
 have r3 := cell_later hb3 p3
 have r4 := cell_later hb3 p4
 have hB3 := Lib.hid (bcall hb2H.out hb3)
 have hBw := Lib.hid (bcall (bcall hBH.out hb2H.out) hb3)
 clear hb3 p2 p3 p4
 by_cases h12 : us.length ≤ 12
 ·have h12i : ((12 : Int) < (us.length : Int)) = False := eq_false (by omega)
  have hok2 := hokH.out
  rw [decide_eq_true h12, Bool.true_and] at hok2
  have hok2H := Lib.hid hok2
  clear hok2
  have hU3 := Lib.hid (hUH.out.below hB3.out)
  clear h12
  go_wp2_with fail
  go_loopw [5] (fun i wr => rvyRel us w3 i wr) (fun i _ => us.length - (intOf i).toNat)
  case atStart => exact ⟨0, rfl, Nat.zero_le _, by simp, rfl, .refl _⟩
  case round =>
   obtain ⟨j, rfl, hj, hnd, hal, hD⟩ := hrel
   have s3 := cell_later (hD.below _) r3
   have s4 := cell_later (hD.below _) r4
   have hUr := Lib.hid (hU3.out.drew hD)
   have hDH := Lib.hid hD
   clear hD
   by_cases hjl : j < us.length
   ·obtain ⟨b2, o2, rfl, -, qu, hzu⟩ := hUr.out.str j hjl
    have hjj : (j : Int) < (us.length : Int) := by omega
    have hjl2 : (j : Int) ≤ (us.length : Int) := by omega
    have hlt2 : (us.take j).length = j := by rw [List.length_take]; omega
    have vn := fun m => rName_any us[j] hzu (wr.drewN m)
    have vh := fun m => rHas_any (some ⟨b2, o2, none⟩) c2 (us.take j) us[j] (wr.drewN m) ((hUr.out.pre j).drewN m)
    simp only [hlt2] at vh
    have hbadn : nameB us[j] = false → us.all nameB = false := all_bad hjl
    have hbadm : memB (us.take j) us[j] = true → ¬ us.Nodup := nodup_bad hjl
    have hnext : nameB us[j] = true → memB (us.take j) us[j] = false → ∀ q, rvyRel us w3 (.int .i64 ((j : Int) + 1)) (wr.drewN q) := fun h1 h2 q => ⟨j + 1, by simp, hjl, nodup_take hjl hnd h2, all_take hjl hal h1, drew_more hDH.out _⟩
    have hbadnH := Lib.hid hbadn
    have hbadmH := Lib.hid hbadm
    have hnextH := Lib.hid hnext
    have vnH := Lib.hid vn
    have vhH := Lib.hid vh
    clear hbadn hbadm hnext vn vh hnd hal hlt2
    generalize memB (us.take j) us[j] = bm at *
    generalize us[j] = u at *
    have hj0 : (0 : Int) ≤ (j : Int) := by omega
    have hcap := hUr.out.cap
    have hjc : (j : Int) ≤ (c2 : Int) := by omega
    have hc0 : ¬ c2 = 0 := by omega
    have hc1 : ¬ 0 = c2 := by omega
    clear hcap
    cases hbn : nameB u with
    | false =>
     have hf := Lib.hid (show OK = false by rw [hok2H.out, hbadnH.out hbn]; simp)
     rw [hbn] at vnH
     clear hbn
     go_wp2_with fail
     go_quiet ((go_at_call 25; (with_reducible exact quiet_left (vnH.out _))))
     all_goals go_wp2_with fail
     all_goals go_ret
     all_goals exact ⟨ret_bool hf.out.symm, below_drewN (bcall hBw.out (hDH.out.below _)) _⟩
    | true =>
     rw [hbn] at vnH
     cases bm with
     | true =>
      have hf := Lib.hid (show OK = false by rw [hok2H.out, decide_eq_false (hbadmH.out rfl)]; simp)
      clear hbn
      go_wp2_with fail
      go_quiet (first | (go_at_call 25; (with_reducible exact quiet_left (vnH.out _))) | (go_at_call 39; (with_reducible exact quiet_left (vhH.out _))))
      all_goals go_wp2_with fail
      all_goals go_ret
      all_goals exact ⟨ret_bool hf.out.symm, below_drewN (bcall hBw.out (hDH.out.below _)) _⟩
     | false =>
      have hf := Lib.hid (hnextH.out hbn rfl)
      clear hbn
      go_wp2_with fail
      go_quiet (first | (go_at_call 25; (with_reducible exact quiet_left (vnH.out _))) | (go_at_call 39; (with_reducible exact quiet_left (vhH.out _))))
      all_goals go_wp2_with fail
      all_goals go_roundw
      case rel => exact hf.out _
      case measure => simp [intOf]; omega
   ·have hjj : ((j : Int) < (us.length : Int)) = False := eq_false (by omega)
    rw [List.take_of_length_le (by omega)] at hnd hal
    have hok3 := hok2H.out
    rw [decide_eq_true hnd, hal, Bool.true_and, Bool.true_and] at hok3
    have k6a := Lib.hid (k6H.out wr (bcall hB3.out (hDH.out.below _)))
    have hBe := Lib.hid (bcall hBw.out (hDH.out.below _))
    clear hnd hal hjl hj
    by_cases hp : pf = []
    ·have hz : ((pf.length : Int) == 0) = true := by rw [hp]; rfl
     have hus : decide (us = []) = ((us.length : Int) == 0) := by rw [Bool.eq_iff_iff, decide_eq_true_eq, beq_iff_eq, ← List.length_eq_zero_iff]; omega
     have hf := Lib.hid (show OK = ((us.length : Int) == 0) by rw [hok3, hP0H.out hp, decide_eq_true hp, Bool.and_true, Bool.or_false, hus])
     clear hok3 hp hus
     go_wp2_with fail
     go_ret
     exact ⟨ret_bool hf.out.symm, hBe.out⟩
    ·have hz : ((pf.length : Int) == 0) = false := by rw [beq_eq_false_iff_ne]; intro e; exact hp (List.length_eq_zero_iff.1 (by omega))
     have hf := Lib.hid (show OK = b6 by rw [hok3, decide_eq_false hp, Bool.and_false, Bool.false_or])
     clear hok3 hp
     go_wp2_with fail
     refine k6a.out.mono ?_
     rintro e w6 ⟨rfl, hb6⟩
     have hfin := Lib.hid (bcall hBe.out hb6)
     clear hb6
     go_wp2_with fail
     go_ret
     exact ⟨ret_bool hf.out.symm, hfin.out⟩
 ·have h12i : ((12 : Int) < (us.length : Int)) = True := eq_true (by omega)
  have hok2 := hokH.out
  rw [decide_eq_false h12] at hok2
  have hok2H := Lib.hid hok2
  clear hok2 h12
  go_wp2_with fail
  go_ret
  exact ⟨by rw [hok2H.out]; rfl, hBw.out⟩
end Go.Proofs.YtpmnnoopoblpgaaGreat

/- A name put in its place in an ascending list: the list, and the cells. -/
namespace Go.Proofs.YtpmnnoopoblpgaaGreat
open Go Go.RowKit Go.Maps

theorem ins_asc {L : List ByteArray} (hA : AscN L) {x : ByteArray} {a : Nat} (hx : x ∉ L) (hlt : ∀ j (hj : j < L.length), j < a → ltN L[j] x) (hge : ∀ h : a < L.length, ¬ ltN L[a] x) : AscN (L.take a ++ x :: L.drop a) := by
 have hgt : ∀ y ∈ L.drop a, ltN x y := fun y hy => by
  obtain ⟨j, hj, rfl⟩ := List.getElem_of_mem hy
  rw [List.length_drop] at hj
  rw [List.getElem_drop]
  have ha : a < L.length := by omega
  have h1 : ltN x L[a] := by
   rcases ltN_tri L[a] x with h | h | h
   ·exact (hge ha h).elim
   ·exact (hx (by rw [← h]; exact List.getElem_mem ha)).elim
   ·exact h
  by_cases e : j = 0
  ·subst e; exact h1
  ·exact ltN_tr _ _ _ h1 ((List.pairwise_iff_getElem.1 hA) a (a + j) ha (by omega) (by omega))
 unfold AscN
 rw [List.pairwise_append]
 refine ⟨List.Pairwise.sublist (List.take_sublist _ _) hA, ?_, fun y hy z hz => ?_⟩
 ·rw [List.pairwise_cons]
  exact ⟨hgt, List.Pairwise.sublist (List.drop_sublist _ _) hA⟩
 ·obtain ⟨j, hj, rfl⟩ := List.getElem_of_mem hy
  rw [List.length_take] at hj
  rw [List.getElem_take]
  have h1 := hlt j (by omega) (by omega)
  rcases List.mem_cons.1 hz with e | e
  ·rw [e]; exact h1
  ·exact ltN_tr _ _ _ h1 (hgt z e)
theorem ins_mem {L : List ByteArray} {x y : ByteArray} {a : Nat} : y ∈ L.take a ++ x :: L.drop a ↔ y = x ∨ y ∈ L := by
 conv => rhs; rw [← List.take_append_drop a L]
 simp only [List.mem_append, List.mem_cons]
 constructor
 ·rintro (h | h | h)
  ·exact .inr (.inl h)
  ·exact .inl h
  ·exact .inr (.inr h)
 ·rintro (h | h | h)
  ·exact .inr (.inl h)
  ·exact .inl h
  ·exact .inr (.inr h)
theorem ins_set {L : List ByteArray} {z x : ByteArray} {a : Nat} (ha : a ≤ L.length) : ((L ++ [z]).take (a + 1) ++ L.drop a).set a x = L.take a ++ x :: L.drop a := by
 have hlen : a < (L ++ [z]).length := by simp; omega
 rw [List.take_succ_eq_append_getElem hlen, List.append_assoc, List.singleton_append, List.take_append_of_le_length ha]
 rw [List.set_append, if_neg (by simp; omega)]
 have : a - (L.take a).length = 0 := by simp; omega
 rw [this]; rfl
theorem OwnS.lifted {w : World} {base g cap : Nat} {L : List ByteArray} {z : ByteArray} (h : OwnS w base (.slice (some ⟨g, 0, none⟩) (L.length + 1) cap) (L ++ [z])) {a : Nat} (ha : a ≤ L.length) :
  ∃ cur : List Value, w.heap[g]? = some (.cells cur.toArray 9 (0, 0)) ∧ base ≤ g ∧ a + 1 + ((L.drop a).map Value.string).length ≤ cur.length ∧ (∀ j v, ((L.drop a).map Value.string)[j]? = some v → w.cell? ⟨g, a + j, none⟩ = some v) ∧
   ∀ w2 : World, w2.heap[g]? = some (.cells (splice cur (a + 1) ((L.drop a).map Value.string)).toArray 9 (0, 0)) → OwnS w2 base (.slice (some ⟨g, 0, none⟩) (L.length + 1) cap) ((L ++ [z]).take (a + 1) ++ L.drop a) := by
 obtain ⟨ho, hr⟩ := OwnS.row h
 have hll : (L ++ [z]).length = L.length + 1 := by simp
 rw [hll] at ho
 have hcell := fun j hj => ho.cellAt (g := g) (cap := cap) j hj
 rcases ho.2 with ⟨h0, -⟩ | ⟨g', cap', cur, hv, hb, hg, h1, h2, h3, h4⟩
 ·cases h0
 ·injection hv with e1 e2 e3
  injection e1 with e1
  injection e1 with e1
  subst e1 e3
  have hcl : cur.toList.length = cap := by rw [Array.length_toList, h3]; omega
  have hdl : ((L.drop a).map Value.string).length = L.length - a := by simp
  refine ⟨cur.toList, hg, hb, by rw [hcl, hdl]; omega, fun j v hjv => ?_, fun w2 h2' => ?_⟩
  ·have hj : j < L.length - a := by have := (List.getElem?_eq_some_iff.1 hjv).1; rw [hdl] at this; exact this
   have := hcell (a + j) (by omega)
   rw [this, ← hjv, List.getElem?_map, List.getElem?_map, List.getElem?_drop, List.getElem?_append_left (by omega)]
  ·refine OwnS.of_row ⟨by simp, .inr ⟨g, cap, (splice cur.toList (a + 1) ((L.drop a).map Value.string)).toArray, ?_, hb, h2', ?_, h2, ?_, ?_⟩⟩ (fun y hy => ?_)
   ·simp; omega
   ·simp; omega
   ·rw [List.size_toArray, length_splice _ _ _ (by rw [hcl, hdl]; omega), hcl]; omega
   ·have e5 : ((L ++ [z]).take (a + 1) ++ L.drop a).length * 1 = a + 1 + (L.length - a) := by simp; omega
    rw [e5, List.toList_toArray]
    unfold splice
    rw [List.map_append, List.map_take, ← h4, Nat.mul_one, List.take_take, show min (a + 1) (L.length + 1) = a + 1 by omega, ← List.append_assoc, List.take_append_of_le_length (by rw [List.length_append, List.length_take, hdl, hcl]; omega)]
    exact List.take_of_length_le (by rw [List.length_append, List.length_take, hdl, hcl]; omega)
   ·rcases List.mem_append.1 hy with k | k
    ·exact hr y (List.mem_of_mem_take k)
    ·exact hr y (List.mem_append_left _ (List.mem_of_mem_drop k))
theorem OwnS.setAt {w : World} {base g cap n : Nat} {L : List ByteArray} (h : OwnS w base (.slice (some ⟨g, 0, none⟩) n cap) L) (hn : n = L.length) (i : Nat) (x : ByteArray) (hx : x.size ≤ big) :
  OwnS (w.setCell ⟨g, i, none⟩ (.string x)) base (.slice (some ⟨g, 0, none⟩) n cap) (L.set i x) ∧ w.grownBy (w.setCell ⟨g, i, none⟩ (.string x)) (some g) := by
 subst hn
 obtain ⟨ho, hr⟩ := OwnS.row h
 obtain ⟨h1, h2⟩ := ho.stored i (.string x)
 refine ⟨OwnS.of_row (by rw [List.length_set, List.map_set]; exact h1) (fun y hy => ?_), h2⟩
 rcases List.mem_or_eq_of_mem_set hy with h | h
 ·exact hr y h
 ·rw [h]; exact hx
theorem OwnS.cellAt {w : World} {base g cap n : Nat} {L : List ByteArray} (h : OwnS w base (.slice (some ⟨g, 0, none⟩) n cap) L) (hn : n = L.length) (i : Nat) (hi : i < L.length) : w.cell? ⟨g, i, none⟩ = some (.string L[i]) ∧ w.frozen? ⟨g, i, none⟩ = false := by
 subst hn
 obtain ⟨ho, _⟩ := OwnS.row h
 exact ⟨by rw [ho.cellAt i (by omega)]; simp [hi], ho.frozenAt i⟩
end Go.Proofs.YtpmnnoopoblpgaaGreat

/- Walks: Sorted of the reference. -/
namespace Go.Proofs.YtpmnnoopoblpgaaGreat
open Go Go.RowKit Go.Maps

theorem bytesLess_ltB2 (x y : ByteArray) : Op.bytesLess x.toList y.toList = ltB x y := by
 unfold ltB
 rw [ByteArray.toList_eq, ByteArray.toList_eq, bytesLess_eq]
def srRel (l : List ByteArray) (w : World) (i v : Value) (wr : World) : Prop :=
 ∃ (k : Nat) (L : List ByteArray), i = .int .i64 k ∧ k ≤ l.length ∧ OwnS wr w.heap.size v L ∧ AscN L ∧ L.length ≤ k ∧ (∀ y, y ∈ L ↔ y ∈ l.take k) ∧ Below w.heap.size w wr
set_option maxRecDepth 100000 in
set_option maxHeartbeats 4000000 in
theorem rSorted_any {S : Nat → Prop} (a : Option Addr) (c : Nat) (l : List ByteArray) (w : World) (h : Sl strE S w a c l) (hl : l.length ≤ 2000) :
  Calls Tryz.prog 103 #[.slice a l.length c] w (SortedOut w (memB l)) := by
 have m := h.le
 have hlH := Lib.hid h
 clear h
 go_enter Tryz.func103, Tryz.ntmps103
 go_wp2_with fail
 go_loopw [4, 3] (fun i v wr => srRel l w i v wr) (fun i _ _ => l.length - (intOf i).toNat)
 case atStart => exact ⟨0, [], rfl, Nat.zero_le _, OwnL.nil _ _ _ _ _, .nil, Nat.le_refl _, by simp, .refl _ _⟩
 case round =>
  obtain ⟨k, L, rfl, hk, hO, hA, hLk, hmem, hB⟩ := hrel
  by_cases hlt : k < l.length
  ·obtain ⟨b, o, rfl, -, qx, hzx⟩ := (hlH.out.below hB).str k hlt
   obtain ⟨aL, cL, rfl, hS⟩ := OwnS.strs hO
   have vh := rHas_any aL cL L l[k] wr hS
   have mS := hS.le
   have hxt : ∀ y, y ∈ l.take (k + 1) ↔ y ∈ l.take k ∨ y = l[k] := fun y => by rw [List.take_succ_eq_append_getElem hlt, List.mem_append, List.mem_singleton]
   obtain ⟨x, hx⟩ : ∃ x, l[k] = x := ⟨_, rfl⟩
   rw [hx] at qx hzx vh
   simp only [hx] at hxt
   have hAH := Lib.hid hA
   have hmemH := Lib.hid hmem
   have hxtH := Lib.hid hxt
   have hOH := Lib.hid hO
   have hSH := Lib.hid hS
   have hzxH := Lib.hid hzx
   have hxH := Lib.hid hx
   cases hmb : memB L x with
   | true =>
    rw [hmb] at vh
    have vhH := Lib.hid vh
    have hxin := memB_iff.1 hmb
    have hfin := Lib.hid (show srRel l w (.int .i64 ((k : Int) + 1)) (.slice aL L.length cL) wr from ⟨k + 1, L, by simp, hlt, hO, hA, by omega, fun y => by rw [hxt y, ← hmem y]; exact ⟨.inl, fun h => h.elim id (fun e => by rw [e]; exact hxin)⟩, hB⟩)
    clear vh hO hA hmem hxt hS hmb hx hzx hB hxin
    go_wp2_with fail
    refine vhH.out.mono ?_
    rintro e w2 ⟨rfl, rfl⟩
    go_wp2_with fail
    go_roundw
    case rel => exact hfin.out
    case measure => simp [intOf]; omega
   | false =>
    rw [hmb] at vh
    have vhH := Lib.hid vh
    have hnxH := Lib.hid (show x ∉ L from fun h => by rw [memB_iff.2 h] at hmb; cases hmb)
    have hBH := Lib.hid hB
    clear vh hO hA hmem hxt hS hmb hx hzx hB
    go_wp2_with fail
    refine vhH.out.mono ?_
    rintro e w2 ⟨rfl, rfl⟩
    go_wp2_with fail
    go_loopw [5] (fun i w3 => ∃ j : Nat, i = .int .i64 j ∧ j ≤ L.length ∧ (∀ q (hq : q < L.length), q < j → ltN L[q] x) ∧ Drew wr w3) (fun i _ => L.length - (intOf i).toNat)
    case atStart => exact ⟨0, rfl, Nat.zero_le _, fun q _ h => by omega, .refl _⟩
    case round =>
     obtain ⟨j, rfl, hj, hjl, n, rfl⟩ := hrel
     by_cases hjt : j < L.length
     ·obtain ⟨b2, o2, rfl, -, q2, -⟩ := hSH.out.str j hjt
      have hjjT : ((j : Int) < (L.length : Int)) = True := eq_true (by omega)
      cases hlx : ltB L[j] x with
      | true =>
       have hq := (bytesLess_ltB2 L[j] x).trans hlx
       have hfin := Lib.hid (show ∀ q (hq : q < L.length), q < j + 1 → ltN L[q] x from fun q hq h => by
        by_cases e : q = j
        ·subst e; exact ltB_iff.1 hlx
        ·exact hjl q hq (by omega))
       clear hjl hlx
       generalize L[j] = y at *
       go_wp2_with fail
       go_quiet (fail)
       all_goals go_wp2_with fail
       all_goals exact ⟨⟨j + 1, by go_num, by omega, hfin.out, .mk _ _⟩, by simp [intOf]; omega⟩
      | false =>
       have hq := (bytesLess_ltB2 L[j] x).trans hlx
       have hjlH := Lib.hid hjl
       have hjgH := Lib.hid (show ∀ h : j < L.length, ¬ ltN L[j] x from fun _ h => by rw [ltB_iff.2 h] at hlx; cases hlx)
       clear hjl hlx
       generalize L[j] = y at q2 hq
       go_wp2_with fail
       go_quiet (fail)
       ·generalize hWg : (wr.drewN n).drewN _ = W2
        have hD2 : Drew wr W2 := by rw [← hWg]; exact .mk2 _ _ _
        clear hWg
        have hO2H := Lib.hid (OwnL.call hOH.out (hD2.below _))
        have hB2H := Lib.hid (bcall hBH.out (hD2.below _))
        obtain ⟨v', W', hrun, ho, hg, -⟩ := OwnL.push (P := Tryz.prog) (t := 29) (ty := 29) hO2H.out Tryz.underlying29 infoStr rfl (vs := [.string ⟨#[]⟩]) (x := ⟨#[]⟩) ⟨rfl, by decide⟩ (by omega) (by unfold big; omega) hB2H.out.size
        obtain ⟨g, cap, rfl, hg1, hg2⟩ := OwnL.form ho (by simp)
        have hll : (L ++ [(⟨#[]⟩ : ByteArray)]).length = L.length + 1 := by simp
        rw [hll] at ho hrun
        obtain ⟨cur, k1, k2, k3, k4, k5⟩ := OwnS.lifted ho hj
        have hcs : ((L.drop j).map Value.string).length = L.length - j := by simp
        obtain ⟨cs, hcsd⟩ : ∃ cs, (L.drop j).map Value.string = cs := ⟨_, rfl⟩
        rw [hcsd] at k3 k4 k5 hcs
        have hone : ∀ u ∈ cs, u.oneCell' = true := fun u hu => by
         rw [← hcsd] at hu
         obtain ⟨y, -, rfl⟩ := List.mem_map.1 hu
         rfl
        have k4' : ∀ q v, cs[q]? = some v → W'.drew.cell? ((⟨g, j, none⟩ : Addr).add q) = some v := fun q v hv => by
         have hadd : (⟨g, j, none⟩ : Addr).add q = ⟨g, j + q, none⟩ := by unfold Addr.add; split <;> simp_all
         rw [hadd]; exact k4 q v hv
        have hcap : L.length + 1 ≤ cap := by
         rcases ho.choose_spec.1.2 with ⟨h0, -⟩ | ⟨g', cap', cur', hv, -, -, h1, -⟩
         ·cases h0
         ·injection hv with e1 e2 e3
          subst e3; simpa using h1
        have hBW : Below w.heap.size w W' := hB2H.out.grown hg hB2H.out.size (fun k e => (OwnL.lt hO2H.out k e).1)
        have hk1 := Lib.hid k1
        have hkW := Lib.hid (fun (w3 : World) (h : Hid (w3.heap[g]? = some (.cells (splice cur (j + 1) cs).toArray 9 (0, 0)))) (hb : Below w.heap.size w w3) => by
         have ho3 := k5 w3 h.out
         have hlen3 : L.length + 1 = ((L ++ [(⟨#[]⟩ : ByteArray)]).take (j + 1) ++ L.drop j).length := by simp; omega
         have hc := OwnS.cellAt ho3 hlen3 j (by rw [← hlen3]; omega)
         have hs := OwnS.setAt ho3 hlen3 j x hzxH.out
         rw [ins_set hj] at hs
         exact show (∃ u, w3.cell? ⟨g, j, none⟩ = some u ∧ w3.frozen? ⟨g, j, none⟩ = false) ∧ srRel l w (.int .i64 ((k : Int) + 1)) (.slice (some ⟨g, 0, none⟩) (L.length + 1) cap) (w3.setCell ⟨g, j, none⟩ (.string x)) from
          ⟨⟨_, hc.1, hc.2⟩, k + 1, L.take j ++ x :: L.drop j, by simp, hlt, hs.1, ins_asc hAH.out hnxH.out hjlH.out hjgH.out, by simp; omega, (fun y => by rw [ins_mem, hmemH.out y, hxtH.out y]; exact Or.comm), hb.grown hs.2 hb.size (fun q e => by injection e with e; omega)⟩)
        clear ho hg k1 k5 hcsd hD2
        go_wp2_with (at_builtin; refine wpList_append_run rfl _ _ _ rfl rfl rfl hrun ?_)
        clear hrun
        have hj2 : j ≤ 2000 := by omega
        have hj3 : (j : Int) + 1 ≤ (L.length : Int) + 1 := by omega
        have hj4 : (j : Int) ≤ (L.length : Int) + 1 := by omega
        have hj5 : 0 ≤ (j : Int) + 1 := by omega
        have hj9 : (j : Int) < (L.length : Int) + 1 := by omega
        have hj6 : 0 ≤ (j : Int) := by omega
        have hj7 : IntKind.i64.wrap ((j : Int) + 1) = (j : Int) + 1 := IntWalk.i64_in _ (by omega)
        have hj8 : ((j : Int) + 1).toNat = j + 1 := by omega
        have hcj : ¬ cap = j := by omega
        have hc1 : ¬ cap = j + 1 := by omega
        go_region_law (refine step_copy_splice rfl (.tmp 41) (.tmp 44) 29 29 rfl 9 Tryz.underlying29 (by kernel_rfl) (some ⟨g, j + 1, none⟩) (some ⟨g, j, none⟩) (L.length + 1 - (j + 1)) (cap - (j + 1)) (L.length + 1 - j) (cap - j) (by simp [Act.eval, Act.put] <;> omega) (by simp [Act.eval, Act.put] <;> omega) g (j + 1) cur 9 hk1.out cs (by rw [hcs]; show L.length - j = min (L.length + 1 - j) (L.length + 1 - (j + 1)); omega) (fun h0 => ⟨rfl, _, rfl, k4'⟩) k3 hone w.heap.size w (Below.drew hBW) k2 ?_; intro w4 hg4 hb4)
        obtain ⟨⟨uu, e1, e2⟩, hf⟩ := hkW.out w4 hg4 hb4
        obtain ⟨b', o', hae, -, qx4, -⟩ := (hlH.out.below hb4).str k hlt
        have hae' : b' = b ∧ o' = o := by simpa using hae.symm
        obtain ⟨rfl, rfl⟩ := hae'
        rw [hxH.out] at qx4
        have hfH := Lib.hid hf
        clear hf hg4 hb4 hkW hk1 k3 k4' hone hcs k4 hBW
        go_wp2_with fail
        go_roundw
        case rel => exact hfH.out
        case measure => simp [intOf]; omega
     ·have hkk : ((j : Int) < (L.length : Int)) = False := eq_false (by omega)
      have hjlH := Lib.hid hjl
      have hjgH := Lib.hid (show ∀ h : j < L.length, ¬ ltN L[j] x from fun h => (hjt h).elim)
      clear hjl
      go_wp2_with fail
      go_quiet (fail)
      ·generalize hWg : (wr.drewN n).drewN _ = W2
       have hD2 : Drew wr W2 := by rw [← hWg]; exact .mk2 _ _ _
       clear hWg
       have hO2H := Lib.hid (OwnL.call hOH.out (hD2.below _))
       have hB2H := Lib.hid (bcall hBH.out (hD2.below _))
       obtain ⟨v', W', hrun, ho, hg, -⟩ := OwnL.push (P := Tryz.prog) (t := 29) (ty := 29) hO2H.out Tryz.underlying29 infoStr rfl (vs := [.string ⟨#[]⟩]) (x := ⟨#[]⟩) ⟨rfl, by decide⟩ (by omega) (by unfold big; omega) hB2H.out.size
       obtain ⟨g, cap, rfl, hg1, hg2⟩ := OwnL.form ho (by simp)
       have hll : (L ++ [(⟨#[]⟩ : ByteArray)]).length = L.length + 1 := by simp
       rw [hll] at ho hrun
       obtain ⟨cur, k1, k2, k3, k4, k5⟩ := OwnS.lifted ho hj
       have hcs : ((L.drop j).map Value.string).length = L.length - j := by simp
       obtain ⟨cs, hcsd⟩ : ∃ cs, (L.drop j).map Value.string = cs := ⟨_, rfl⟩
       rw [hcsd] at k3 k4 k5 hcs
       have hone : ∀ u ∈ cs, u.oneCell' = true := fun u hu => by
        rw [← hcsd] at hu
        obtain ⟨y, -, rfl⟩ := List.mem_map.1 hu
        rfl
       have k4' : ∀ q v, cs[q]? = some v → W'.drew.cell? ((⟨g, j, none⟩ : Addr).add q) = some v := fun q v hv => by
        have hadd : (⟨g, j, none⟩ : Addr).add q = ⟨g, j + q, none⟩ := by unfold Addr.add; split <;> simp_all
        rw [hadd]; exact k4 q v hv
       have hcap : L.length + 1 ≤ cap := by
        rcases ho.choose_spec.1.2 with ⟨h0, -⟩ | ⟨g', cap', cur', hv, -, -, h1, -⟩
        ·cases h0
        ·injection hv with e1 e2 e3
         subst e3; simpa using h1
       have hBW : Below w.heap.size w W' := hB2H.out.grown hg hB2H.out.size (fun k e => (OwnL.lt hO2H.out k e).1)
       have hk1 := Lib.hid k1
       have hkW := Lib.hid (fun (w3 : World) (h : Hid (w3.heap[g]? = some (.cells (splice cur (j + 1) cs).toArray 9 (0, 0)))) (hb : Below w.heap.size w w3) => by
        have ho3 := k5 w3 h.out
        have hlen3 : L.length + 1 = ((L ++ [(⟨#[]⟩ : ByteArray)]).take (j + 1) ++ L.drop j).length := by simp; omega
        have hc := OwnS.cellAt ho3 hlen3 j (by rw [← hlen3]; omega)
        have hs := OwnS.setAt ho3 hlen3 j x hzxH.out
        rw [ins_set hj] at hs
        exact show (∃ u, w3.cell? ⟨g, j, none⟩ = some u ∧ w3.frozen? ⟨g, j, none⟩ = false) ∧ srRel l w (.int .i64 ((k : Int) + 1)) (.slice (some ⟨g, 0, none⟩) (L.length + 1) cap) (w3.setCell ⟨g, j, none⟩ (.string x)) from
         ⟨⟨_, hc.1, hc.2⟩, k + 1, L.take j ++ x :: L.drop j, by simp, hlt, hs.1, ins_asc hAH.out hnxH.out hjlH.out hjgH.out, by simp; omega, (fun y => by rw [ins_mem, hmemH.out y, hxtH.out y]; exact Or.comm), hb.grown hs.2 hb.size (fun q e => by injection e with e; omega)⟩)
       clear ho hg k1 k5 hcsd hD2
       go_wp2_with (at_builtin; refine wpList_append_run rfl _ _ _ rfl rfl rfl hrun ?_)
       clear hrun
       have hj2 : j ≤ 2000 := by omega
       have hj3 : (j : Int) + 1 ≤ (L.length : Int) + 1 := by omega
       have hj4 : (j : Int) ≤ (L.length : Int) + 1 := by omega
       have hj5 : 0 ≤ (j : Int) + 1 := by omega
       have hj9 : (j : Int) < (L.length : Int) + 1 := by omega
       have hj6 : 0 ≤ (j : Int) := by omega
       have hj7 : IntKind.i64.wrap ((j : Int) + 1) = (j : Int) + 1 := IntWalk.i64_in _ (by omega)
       have hj8 : ((j : Int) + 1).toNat = j + 1 := by omega
       have hcj : ¬ cap = j := by omega
       by_cases hc1 : cap = j + 1
       ·subst hc1
        go_region_law (refine step_copy_splice rfl (.tmp 41) (.tmp 44) 29 29 rfl 9 Tryz.underlying29 (by kernel_rfl) (some ⟨g, 0, none⟩) (some ⟨g, j, none⟩) (L.length + 1 - (j + 1)) (j + 1 - (j + 1)) (L.length + 1 - j) (j + 1 - j) (by simp [Act.eval, Act.put] <;> omega) (by simp [Act.eval, Act.put] <;> omega) g (j + 1) cur 9 hk1.out cs (by rw [hcs]; show L.length - j = min (L.length + 1 - j) (L.length + 1 - (j + 1)); omega) (fun h0 => by omega) k3 hone w.heap.size w (Below.drew hBW) k2 ?_; intro w4 hg4 hb4)
        obtain ⟨⟨uu, e1, e2⟩, hf⟩ := hkW.out w4 hg4 hb4
        obtain ⟨b', o', hae, -, qx4, -⟩ := (hlH.out.below hb4).str k hlt
        have hae' : b' = b ∧ o' = o := by simpa using hae.symm
        obtain ⟨rfl, rfl⟩ := hae'
        rw [hxH.out] at qx4
        have hfH := Lib.hid hf
        clear hf hg4 hb4 hkW hk1 k3 k4' hone hcs k4 hBW
        go_wp2_with fail
        go_roundw
        case rel => exact hfH.out
        case measure => simp [intOf]; omega
       ·go_region_law (refine step_copy_splice rfl (.tmp 41) (.tmp 44) 29 29 rfl 9 Tryz.underlying29 (by kernel_rfl) (some ⟨g, j + 1, none⟩) (some ⟨g, j, none⟩) (L.length + 1 - (j + 1)) (cap - (j + 1)) (L.length + 1 - j) (cap - j) (by simp [Act.eval, Act.put] <;> omega) (by simp [Act.eval, Act.put] <;> omega) g (j + 1) cur 9 hk1.out cs (by rw [hcs]; show L.length - j = min (L.length + 1 - j) (L.length + 1 - (j + 1)); omega) (fun h0 => ⟨rfl, _, rfl, k4'⟩) k3 hone w.heap.size w (Below.drew hBW) k2 ?_; intro w4 hg4 hb4)
        obtain ⟨⟨uu, e1, e2⟩, hf⟩ := hkW.out w4 hg4 hb4
        obtain ⟨b', o', hae, -, qx4, -⟩ := (hlH.out.below hb4).str k hlt
        have hae' : b' = b ∧ o' = o := by simpa using hae.symm
        obtain ⟨rfl, rfl⟩ := hae'
        rw [hxH.out] at qx4
        have hfH := Lib.hid hf
        clear hf hg4 hb4 hkW hk1 k3 k4' hone hcs k4 hBW
        go_wp2_with fail
        go_roundw
        case rel => exact hfH.out
        case measure => simp [intOf]; omega
  ·have hkk : ((k : Int) < (l.length : Int)) = False := eq_false (by omega)
   have hkl : k = l.length := by omega
   rw [hkl, List.take_length] at hmem
   have hfin := Lib.hid (fun v (hv : OwnS wr w.heap.size v L) => show SortedOut w (memB l) (.returned v) wr from ⟨v, L, rfl, hv, hA, fun y => by rw [hmem y, memB_iff], hB⟩)
   have hOH := Lib.hid hO
   clear hO hA hmem hB hlt hk hkl
   go_wp2_with fail
   go_ret
   exact hfin.out _ hOH.out
end Go.Proofs.YtpmnnoopoblpgaaGreat


/- Walks: lemmaryref04.run, right, Run, Says. -/
namespace Go.Proofs.YtpmnnoopoblpgaaGreat
open Go Go.RowKit Go.Maps

theorem runL_drop {s : Sg} {g : List (List Int)} {p : List Stp} {k : Nat} (hk : k < p.length) (L : List (List Int)) :
  runL s g (p.drop k) L = if (stepE s g L p[k]).2 = 0 then runL s g (p.drop (k + 1)) (L ++ [(stepE s g L p[k]).1]) else (L, (stepE s g L p[k]).2) := by
 rw [List.drop_eq_getElem_cons hk, runL]
theorem keep4 {W0 w1 w2 : World} {p1 p2 p3 p4 : Addr} {v1 v2 v3 v4 : Value} (h : Below W0.heap.size W0 w1 ∧ w1.cell? p1 = some v1 ∧ w1.cell? p2 = some v2 ∧ w1.cell? p3 = some v3 ∧ w1.cell? p4 = some v4) (hb : Below w1.heap.size w1 w2) :
  Below W0.heap.size W0 w2 ∧ w2.cell? p1 = some v1 ∧ w2.cell? p2 = some v2 ∧ w2.cell? p3 = some v3 ∧ w2.cell? p4 = some v4 :=
 ⟨bcall h.1 hb, cell_later hb h.2.1, cell_later hb h.2.2.1, cell_later hb h.2.2.2.1, cell_later hb h.2.2.2.2⟩
theorem Ts_pushF {w wr w1 : World} {out : Value} {l : List (List Int)} (ho : OwnTs (fun _ => True) wr w.heap.size out l) (hB : Below w.heap.size w wr) (hB1 : Below wr.heap.size wr w1) {a : Option Addr} {c : Nat} {u : List Int} (hu : Ints (fun b => wr.heap.size ≤ b) w1 a c u) (hl : l.length + 1 ≤ 1000000) :
  ∃ v' w', RowKit.Hid ((Builtin.append_ #[77, 77] 77 #[out, .slice (some ⟨w1.heap.size, 0, none⟩) 1 1]).run Tryz.prog (w1.alloc (.cells #[.slice a u.length c] 26)) = .ok v' w') ∧ RowKit.Hid (OwnTs (fun _ => True) w' w.heap.size v' (l ++ [u])) ∧ RowKit.Hid (Below w.heap.size w w') :=
 Ts_push ho hB hB1 (hu.weak (fun b hb => ⟨trivial, fun e => by have h1 := (OwnL.lt ho b e.symm).2; have h2 : wr.heap.size ≤ b := hb; omega⟩)) hl
def rrunRel (s : Sg) (g : List (List Int)) (p : List Stp) (w : World) (out i : Value) (wr : World) : Prop :=
 ∃ (k : Nat) (L : List (List Int)), i = .int .i64 k ∧ k ≤ p.length ∧ L.length = k ∧ (∀ t ∈ L, okT s t = true) ∧ runL s g (p.drop k) L = runL s g p [] ∧ OwnTs (fun _ => True) wr w.heap.size out L ∧ Below w.heap.size w wr
set_option maxRecDepth 20000 in
set_option maxHeartbeats 4000000 in
theorem rrun_any {S1 S2 S3 : Nat → Prop} (a1 ag ap : Option Addr) (c1 cg cp : Nat) (s : Sg) (g : List (List Int)) (p : List Stp) (w : World) (h1 : Sign S1 w a1 c1 s) (h2 : Terms S2 w ag cg g) (h3 : Steps S3 w ap cp p)
  (hg : ∀ t ∈ g, okT s t = true) (hp : okSteps g.length 0 p = true) (hlp : p.length ≤ 60) :
  Calls Tryz.prog 149 #[.slice a1 s.length c1, .slice ag g.length cg, .slice ap p.length cp] w (retTE (runL s g p []) w) := by
 have m1 := h1.le
 have m2 := h2.le
 have m3 := h3.le
 have hgH := Lib.hid hg
 have hpH := Lib.hid hp
 have h1H := Lib.hid h1
 have h2H := Lib.hid h2
 have h3H := Lib.hid h3
 clear hg hp h1 h2 h3
 go_enter Tryz.func149, Tryz.ntmps149
 go_wp2_with fail
 go_loopw [8, 9] (fun out i wr => rrunRel s g p w out i wr) (fun _ i _ => p.length - (intOf i).toNat)
 case atStart => exact ⟨0, [], rfl, Nat.zero_le _, rfl, fun t h => (by cases h), rfl, .nil _ _ _ _ _, .refl _ _⟩
 case round =>
  obtain ⟨k, L, rfl, hk, hLk, hLo, hrun, ho, hB⟩ := hrel
  by_cases hlt : k < p.length
  ·rw [runL_drop hlt] at hrun
   have hrb := okSteps_at hpH.out k hlt
   have hs3 := h3H.out.below hB
   obtain ⟨bp, op, rfl, -, q1, q2, q3, -⟩ := hs3.stp k hlt
   obtain ⟨⟨x1, x2, x3⟩, hx⟩ : ∃ x, p[k] = x := ⟨_, rfl⟩
   rw [hx] at hrun hrb q1 q2 q3
   dsimp only at q1 q2 q3
   by_cases hx1 : x1 = 1
   ·-- a citation
    obtain ⟨r1, r2, -⟩ := rightB_cite hrb hx1
    dsimp only at r1 r2
    obtain ⟨j, rfl⟩ : ∃ j : Nat, x2 = (j : Int) := ⟨x2.toNat, by omega⟩
    have hj : j < g.length := by omega
    obtain ⟨bg, og, ag2, cg2, rfl, -, qg, hG⟩ := (h2H.out.below hB).sub j hj
    have hgo := hgH.out _ (List.getElem_mem hj)
    have hst : stepE s g L (x1, (j : Int), x3) = (canon g[j], 0) := by unfold stepE; rw [if_pos hx1]; simp [hj]
    rw [hst, if_pos rfl] at hrun
    obtain ⟨u, hu⟩ : ∃ u, g[j] = u := ⟨_, rfl⟩
    rw [hu] at hrun hgo qg hG
    have hcl := okT_canon hgo
    have cr := fun W (hb : Below wr.heap.size wr W) => Renamed_any ag2 cg2 u W (hG.below hb) (by have := (okT_parts hgo).2.2.1; unfold lim; omega) (okT_tame hgo) (okT_ne hgo)
    have hpush := fun W (hb : Below wr.heap.size wr W) a4 c4 (hi : Ints (fun b => wr.heap.size ≤ b) W a4 c4 (canon u)) => Ts_pushF ho hB hb hi (by omega)
    have hLo' : ∀ t ∈ L ++ [canon u], okT s t = true := fun t ht => by
     rcases List.mem_append.1 ht with h | h
     ·exact hLo t h
     ·rw [List.mem_singleton] at h; rw [h]; exact hcl
    have hLk' : (L ++ [canon u]).length = k + 1 := by rw [List.length_append, List.length_singleton, hLk]
    have crH := Lib.hid (cr wr (.refl _ _))
    have hpushH := Lib.hid hpush
    have hrunH := Lib.hid hrun
    have hLoH := Lib.hid hLo'
    have hLkH := Lib.hid hLk'
    subst hx1
    clear cr hpush hrun hLo hLo' hLk' hcl hgo hG hu hst hx hrb ho hs3 hLk
    go_wp2_with (first
     | (go_at_call 134; (with_reducible refine crH.out.mono ?_); rintro e w2 ⟨v2, rfl, ho2, hb2⟩; obtain ⟨a4, c4, rfl, hI2⟩ := OwnI.ints ho2; obtain ⟨v', w', hrun', ho', hB'⟩ := hpushH.out w2 hb2 a4 c4 hI2)
     | (at_builtin; refine wpList_append_run rfl _ _ _ rfl rfl rfl hrun'.out ?_))
    go_roundw
    case rel => exact ⟨k + 1, _, by go_num, by omega, hLkH.out, hLoH.out, hrunH.out, ho'.out, hB'.out⟩
    case measure => simp [intOf]; omega
   ·-- a detachment
    obtain ⟨r0, r1, r2, r3, r4⟩ := rightB_detach hrb hx1
    dsimp only at r0 r1 r2 r3 r4
    obtain ⟨i, rfl⟩ : ∃ j : Nat, x2 = (j : Int) := ⟨x2.toNat, by omega⟩
    obtain ⟨j, rfl⟩ : ∃ j : Nat, x3 = (j : Int) := ⟨x3.toNat, by omega⟩
    have hi : i < L.length := by omega
    have hj : j < L.length := by omega
    have hst : stepE s g L (x1, (i : Int), (j : Int)) = detE s L[i] L[j] := by unfold stepE; rw [if_neg hx1]; simp [hi, hj]
    rw [hst] at hrun
    have oi := hLo _ (List.getElem_mem hi)
    have oj := hLo _ (List.getElem_mem hj)
    obtain ⟨aL, cL, rfl, hT⟩ := OwnL.sl ho
    obtain ⟨bL, oL, ai, ci, rfl, -, qi, hIi⟩ := hT.sub i hi
    obtain ⟨bL', oL', aj, cj, e', -, qj, hIj⟩ := hT.sub j hj
    simp only [Option.some.injEq, Addr.mk.injEq, and_true] at e'
    obtain ⟨rfl, rfl⟩ := e'
    obtain ⟨u, hu⟩ : ∃ u, L[i] = u := ⟨_, rfl⟩
    obtain ⟨y, hy⟩ : ∃ u, L[j] = u := ⟨_, rfl⟩
    rw [hu] at hrun oi qi hIi
    rw [hy] at hrun oj qj hIj
    have mT := hT.le
    have hs1 := h1H.out.below hB
    have cd := fun W (hb : Below wr.heap.size wr W) => rdetach_any a1 ai aj c1 ci cj s u y W (hs1.below hb) (hIi.below hb) (hIj.below hb) oi oj
    have hok : (detE s u y).2 = 0 → okT s (detE s u y).1 = true := fun h => (det_ok h).2.2
    obtain ⟨T, E, hTE⟩ : ∃ T E, detE s u y = (T, E) := ⟨_, _, rfl⟩
    rw [hTE] at hrun hok
    simp only [hTE] at cd
    dsimp only at hrun hok
    have hpush := fun W (hb : Below wr.heap.size wr W) a4 c4 (hi : Ints (fun b => wr.heap.size ≤ b) W a4 c4 T) => Ts_pushF ho hB hb hi (by omega)
    have q2d := cell_later (Below.drew (.refl wr.heap.size _)) q2
    have q3d := cell_later (Below.drew (.refl wr.heap.size _)) q3
    have qid := cell_later (Below.drew (.refl wr.heap.size _)) qi
    have qjd := cell_later (Below.drew (.refl wr.heap.size _)) qj
    have hk0 : Below wr.heap.size wr wr.drew ∧ wr.drew.cell? ⟨bp, op + k * 3 + 1, none⟩ = some (.int .i64 (i : Int)) ∧ wr.drew.cell? ⟨bp, op + k * 3 + 2, none⟩ = some (.int .i64 (j : Int)) ∧ wr.drew.cell? ⟨bL, oL + i, none⟩ = some (.slice ai u.length ci) ∧ wr.drew.cell? ⟨bL, oL + j, none⟩ = some (.slice aj y.length cj) := ⟨Below.drew (.refl wr.heap.size _), q2d, q3d, qid, qjd⟩
    have cdH := Lib.hid cd
    have hpushH := Lib.hid hpush
    have hrunH := Lib.hid hrun
    have hokH := Lib.hid hok
    have hLoH := Lib.hid hLo
    have hoH := Lib.hid ho
    subst r0
    have hLkO := Lib.hid hLk
    clear cd hpush hrun hok hLo oi oj hIi hIj hT hTE hu hy hst hx hrb ho hs3 hs1 q2 q3 qi qj q2d q3d qid qjd hx1 hLk
    go_wp2_with fail
    go_region_held3 (fun w' => Below wr.heap.size wr w' ∧ w'.cell? ⟨bp, op + k * 3 + 1, none⟩ = some (.int .i64 (i : Int)) ∧ w'.cell? ⟨bp, op + k * 3 + 2, none⟩ = some (.int .i64 (j : Int)) ∧ w'.cell? ⟨bL, oL + i, none⟩ = some (.slice ai u.length ci) ∧ w'.cell? ⟨bL, oL + j, none⟩ = some (.slice aj y.length cj))
     ((first | exact hk0 | exact keep4 ‹_› hbD))
     ((go_at_call 180; (with_reducible refine (cdH.out _ ?_).mono ?_); exact (And.left ‹_›); rintro e w2 ⟨vD, rfl, hoD, hbD⟩; obtain ⟨a4, c4, rfl, hI4⟩ := OwnI.ints hoD))
    have hB2 := And.left (‹Below wr.heap.size wr w2 ∧ _›)
    have hrun := hrunH.out
    by_cases hE : E = 0
    ·rw [if_pos hE] at hrun
     have hoT := hokH.out hE
     subst hE
     obtain ⟨v', w', hrun', ho', hB'⟩ := hpushH.out w2 hB2 a4 c4 (hI4.weak (fun b hb => hb))
     have hLo' : ∀ t ∈ L ++ [T], okT s t = true := fun t ht => by
      rcases List.mem_append.1 ht with h | h
      ·exact hLoH.out t h
      ·rw [List.mem_singleton] at h; rw [h]; exact hoT
     have hLk' : (L ++ [T]).length = k + 1 := by rw [List.length_append, List.length_singleton, hLkO.out]
     have hrunH := Lib.hid hrun
     have hLoH := Lib.hid hLo'
     have hLkH := Lib.hid hLk'
     clear hrun hLo' hLk' hpushH hokH hoT hB2 hI4 hoD hbD hk0 cdH hoH
     go_wp2_with (at_builtin; refine wpList_append_run rfl _ _ _ rfl rfl rfl hrun'.out ?_)
     go_roundw
     case rel => exact ⟨k + 1, _, by go_num, by omega, hLkH.out, hLoH.out, hrunH.out, ho'.out, hB'.out⟩
     case measure => simp [intOf]; omega
    ·rw [if_neg hE] at hrun
     have hne : (E != 0) = true := by simpa using hE
     have hrunH := Lib.hid hrun
     have hoH := Lib.hid (OwnL.call hoH.out hB2)
     have hBH := Lib.hid (bcall hB hB2)
     clear hrun hpushH hokH hB2 hI4 hoD hbD hk0 cdH
     go_wp2_with fail
     go_ret2
     rw [← hrunH.out]
     exact ⟨_, rfl, hoH.out, hBH.out⟩
  ·rw [List.drop_eq_nil_of_le (by omega), runL] at hrun
   have hrunH := Lib.hid hrun
   have hoH := Lib.hid ho
   clear hrun ho
   go_wp2_with fail
   go_ret2
   rw [← hrunH.out]
   exact ⟨_, rfl, hoH.out, hB⟩
end Go.Proofs.YtpmnnoopoblpgaaGreat

/- Walks: lemmaryref04.right, Run, Says. -/
namespace Go.Proofs.YtpmnnoopoblpgaaGreat
open Go Go.RowKit Go.Maps

theorem rright_any {S1 S2 S3 : Nat → Prop} (a1 a2 a3 : Option Addr) (c1 c2 c3 : Nat) (s : Sg) (L : List (List Int)) (p : List Stp) (w : World) (h1 : Sign S1 w a1 c1 s) (h2 : Terms S2 w a2 c2 L) (h3 : Steps S3 w a3 c3 p) :
  Calls Tryz.prog 148 #[.slice a1 s.length c1, .slice a2 L.length c2, .slice a3 p.length c3] w fun e w' => e = .returned (.bool (askedB s L p)) ∧ Below w.heap.size w w' := by
 have m2 := h2.le
 have m3 := h3.le
 have v1 := rValidGivens_any a1 a2 c1 c2 s L w h1 h2
 have v2 := fun W (hb : Below w.heap.size w W) => rValidProof_any (L.length : Int) a3 c3 p W (h3.below hb)
 have hg : askedB s L p = (givensB s L && validP L.length p) := rfl
 have hl : givensB s L = true → proofB L.length p = validP L.length p := fun h => by
  have := (givensB_parts h).2.1
  unfold proofB
  rw [decide_eq_true (by omega), decide_eq_true (by omega)]; rfl
 obtain ⟨x, hx⟩ : ∃ x, givensB s L = x := ⟨_, rfl⟩
 rw [hx] at v1 hg hl
 have v1H := Lib.hid v1
 have hgH := Lib.hid hg
 cases x with
 | false =>
  clear v1 v2 h1 h2 h3 hx hg hl
  go_enter Tryz.func148, Tryz.ntmps148
  go_wp2_with fail
  refine v1H.out.mono ?_
  rintro e w1 ⟨rfl, hb1⟩
  go_wp2_with fail
  go_ret
  exact ⟨by rw [hgH.out]; rfl, hb1⟩
 | true =>
  simp only [hl rfl] at v2
  have v2H := Lib.hid v2
  clear v1 v2 h1 h2 h3 hx hg hl
  go_enter Tryz.func148, Tryz.ntmps148
  go_wp2_with fail
  refine v1H.out.mono ?_
  rintro e w1 ⟨rfl, hb1⟩
  go_wp2_with fail
  refine (v2H.out _ hb1).mono ?_
  rintro e w2 ⟨rfl, hb2⟩
  go_wp2_with fail
  go_ret
  exact ⟨by rw [hgH.out]; simp, bcall hb1 hb2⟩
theorem runL_ok0 {s : Sg} {g : List (List Int)} {p : List Stp} (h : askedB s g p = true) (h0 : (runL s g p []).2 = 0) : (runL s g p []).1.length = p.length := by
 obtain ⟨q1, q2, q4, q3⟩ := askedB_full h
 have := (runL_okT q1 p [] (fun t h => by cases h) q2).2.1 h0
 simpa using this
set_option maxHeartbeats 1000000 in
theorem rSays_any {S1 S2 S3 : Nat → Prop} (a1 ag ap : Option Addr) (c1 cg cp : Nat) (s : Sg) (g : List (List Int)) (p : List Stp) (w : World) (h1 : Sign S1 w a1 c1 s) (h2 : Terms S2 w ag cg g) (h3 : Steps S3 w ap cp p) :
  Calls Tryz.prog 100 #[.slice a1 s.length c1, .slice ag g.length cg, .slice ap p.length cp] w (retS (saysE s g p) w) := by
 have m1 := h1.le
 have m2 := h2.le
 have m3 := h3.le
 have v1 := rright_any a1 ag ap c1 cg cp s g p w h1 h2 h3
 cases hx : askedB s g p with
 | false =>
  rw [hx] at v1
  have hrH := Lib.hid (show saysE s g p = ([], 1) by rw [saysE, hx]; rfl)
  have v1H := Lib.hid v1
  clear v1 h1 h2 h3 hx
  go_enter Tryz.func100, Tryz.ntmps100
  go_wp2_with fail
  refine v1H.out.mono ?_
  rintro e w1 ⟨rfl, hb1⟩
  go_wp2_with fail
  go_ret2
  rw [hrH.out]
  exact ⟨_, _, rfl, Sl.empty, hb1⟩
 | true =>
  rw [hx] at v1
  obtain ⟨q1, q2, q4, q3⟩ := askedB_full hx
  have hok := runL_ok0 hx
  have v2 := fun W (hb : Below w.heap.size w W) => rrun_any a1 ag ap c1 cg cp s g p W (h1.below hb) (h2.below hb) (h3.below hb) q1 q2 q3
  have hs : saysE s g p = if (runL s g p []).2 = 0 then ((runL s g p []).1.getLastD [], 0) else ([], (runL s g p []).2) := by rw [saysE, if_pos hx]
  obtain ⟨L, E, hLE⟩ : ∃ L E, runL s g p [] = (L, E) := ⟨_, _, rfl⟩
  rw [hLE] at v2 hs hok
  dsimp only at hs hok
  have v1H := Lib.hid v1
  have v2H := Lib.hid v2
  clear v1 v2 h1 h2 h3 hx q1 q2 hLE
  by_cases hE : E = 0
  ·rw [if_pos hE] at hs
   have hl := hok hE
   have hl1 : 1 ≤ L.length := by omega
   have hl2 : L.length ≤ 60 := by omega
   subst hE
   have hSH := Lib.hid hs
   have e1 : IntKind.i64.wrap ((L.length : Int) - 1) = ((L.length - 1 : Nat) : Int) := by rw [IntWalk.i64_in _ (by omega)]; omega
   clear hs hok hl q3 q4
   go_enter Tryz.func100, Tryz.ntmps100
   go_wp2_with fail
   refine v1H.out.mono ?_
   rintro e w1 ⟨rfl, hb1⟩
   go_wp2_with fail
   refine (v2H.out _ hb1).mono ?_
   rintro e w2 ⟨v, rfl, ho, hb2⟩
   obtain ⟨a, c, rfl, hT⟩ := OwnL.sl ho
   obtain ⟨b1, o1, a4, c4, rfl, -, r1, hA⟩ := hT.sub (L.length - 1) (by simp only; omega)
   dsimp only at r1 hA
   have hq : L[L.length - 1] = L.getLastD [] := by
    rw [List.getLastD_eq_getLast?, List.getLast?_eq_getElem?, List.getElem?_eq_getElem (by omega)]; rfl
   obtain ⟨z, hz⟩ : ∃ z, L.getLastD [] = z := ⟨_, rfl⟩
   rw [hq, hz] at r1 hA
   have hS := hSH.out
   rw [hz] at hS
   have hSK := Lib.hid hS
   have hAH := Lib.hid hA.any
   clear ho hT hA hq hS hSH hz
   go_wp2_with fail
   all_goals go_ret2
   all_goals rw [hSK.out]
   all_goals exact ⟨_, _, rfl, hAH.out, bcall hb1 hb2⟩
  ·rw [if_neg hE] at hs
   have hne : (E != 0) = true := by simpa using hE
   have hSH := Lib.hid hs
   clear hs hE hok q3 q4
   go_enter Tryz.func100, Tryz.ntmps100
   go_wp2_with fail
   refine v1H.out.mono ?_
   rintro e w1 ⟨rfl, hb1⟩
   go_wp2_with fail
   refine (v2H.out _ hb1).mono ?_
   rintro e w2 ⟨v, rfl, ho, hb2⟩
   obtain ⟨aL, cL, rfl, -⟩ := OwnL.sl ho
   clear ho
   go_wp2_with fail
   go_ret2
   rw [hSH.out]
   exact ⟨_, _, rfl, Sl.empty, bcall hb1 hb2⟩
end Go.Proofs.YtpmnnoopoblpgaaGreat

/- Walks: Check and Proves, of package kernel and of the reference. -/
namespace Go.Proofs.YtpmnnoopoblpgaaGreat
open Go Go.RowKit Go.Maps

noncomputable def checkE (s : Sg) (g : List (List Int)) (p : List Stp) (t : List Int) : Int × Int :=
 if askedB s g p = true then (if okT s t = true then (if (runL s g p []).2 = 0 then (if (okT s ((runL s g p []).1.getLastD []) && okT s t && instB s ((runL s g p []).1.getLastD []) t) = true then (-1, 0) else (((runL s g p []).1.length : Int) - 1, 11)) else (((runL s g p []).1.length : Int), (runL s g p []).2)) else (0, 1)) else (0, 1)
set_option maxHeartbeats 2000000 in
theorem rCheck_any {S1 S2 S3 S4 : Nat → Prop} (a1 ag ap at_ : Option Addr) (c1 cg cp ct : Nat) (s : Sg) (g : List (List Int)) (p : List Stp) (t : List Int) (w : World) (h1 : Sign S1 w a1 c1 s) (h2 : Terms S2 w ag cg g) (h3 : Steps S3 w ap cp p) (h4 : Ints S4 w at_ ct t) :
  Calls Tryz.prog 178 #[.slice a1 s.length c1, .slice ag g.length cg, .slice ap p.length cp, .slice at_ t.length ct] w fun e w' => e = .returned (.tuple #[.int .i64 (checkE s g p t).1, .int .i64 (checkE s g p t).2]) ∧ Below w.heap.size w w' := by
 have m1 := h1.le
 have m2 := h2.le
 have m3 := h3.le
 have m4 := h4.le
 have v1 := rright_any a1 ag ap c1 cg cp s g p w h1 h2 h3
 cases hx : askedB s g p with
 | false =>
  rw [hx] at v1
  have hrH := Lib.hid (show checkE s g p t = (0, 1) by rw [checkE, hx]; rfl)
  have v1H := Lib.hid v1
  clear v1 h1 h2 h3 h4 hx
  go_enter Tryz.func178, Tryz.ntmps178
  go_wp2_with fail
  refine v1H.out.mono ?_
  rintro e w1 ⟨rfl, hb1⟩
  go_wp2_with fail
  go_ret2
  rw [hrH.out]
  exact ⟨rfl, hb1⟩
 | true =>
 rw [hx] at v1
 have v2 := fun W (hb : Below w.heap.size w W) => rValid_any a1 at_ c1 ct s t W (h1.below hb) (h4.below hb)
 cases hy : okT s t with
 | false =>
  simp only [hy] at v2
  have hrH := Lib.hid (show checkE s g p t = (0, 1) by rw [checkE, hx, hy]; rfl)
  have v1H := Lib.hid v1
  have v2H := Lib.hid v2
  clear v1 v2 h1 h2 h3 h4 hx hy
  go_enter Tryz.func178, Tryz.ntmps178
  go_wp2_with fail
  refine v1H.out.mono ?_
  rintro e w1 ⟨rfl, hb1⟩
  go_wp2_with fail
  refine (v2H.out _ hb1).mono ?_
  rintro e w2 ⟨rfl, hb2⟩
  have hb2 : Below w1.heap.size w1 w2 := hb2.below _
  go_wp2_with fail
  go_ret2
  rw [hrH.out]
  exact ⟨rfl, bcall hb1 hb2⟩
 | true =>
 simp only [hy] at v2
 obtain ⟨q1, q2, q4, q3⟩ := askedB_full hx
 have hok := runL_ok0 hx
 have v3 := fun W (hb : Below w.heap.size w W) => rrun_any a1 ag ap c1 cg cp s g p W (h1.below hb) (h2.below hb) (h3.below hb) q1 q2 q3
 have hs : checkE s g p t = if (runL s g p []).2 = 0 then (if (okT s ((runL s g p []).1.getLastD []) && okT s t && instB s ((runL s g p []).1.getLastD []) t) = true then (-1, 0) else (((runL s g p []).1.length : Int) - 1, 11)) else (((runL s g p []).1.length : Int), (runL s g p []).2) := by rw [checkE, if_pos hx, if_pos hy]
 obtain ⟨L, E, hLE⟩ : ∃ L E, runL s g p [] = (L, E) := ⟨_, _, rfl⟩
 rw [hLE] at v3 hs hok
 dsimp only at hs hok
 have v1H := Lib.hid v1
 have v2H := Lib.hid v2
 have v3H := Lib.hid v3
 by_cases hE : E = 0
 ·rw [if_pos hE] at hs
  have hl := hok hE
  have hl1 : 1 ≤ L.length := by omega
  have hl2 : L.length ≤ 60 := by omega
  subst hE
  have e1 : IntKind.i64.wrap ((L.length : Int) - 1) = ((L.length - 1 : Nat) : Int) := by rw [IntWalk.i64_in _ (by omega)]; omega
  obtain ⟨z, hz⟩ : ∃ z, L.getLastD [] = z := ⟨_, rfl⟩
  rw [hz] at hs
  have cI := fun (S : Nat → Prop) W (hb : Below w.heap.size w W) az cz (hi : Ints S W az cz z) => rInstance_any a1 az at_ c1 cz ct s z t W (h1.below hb) hi (h4.below hb)
  obtain ⟨d, hd⟩ : ∃ d, (okT s z && okT s t && instB s z t) = d := ⟨_, rfl⟩
  rw [hd] at hs
  simp only [hd] at cI
  have cIH := Lib.hid cI
  have hq : ∀ h : L.length - 1 < L.length, L[L.length - 1]'h = z := fun h => by
   rw [← hz, List.getLastD_eq_getLast?, List.getLast?_eq_getElem?, List.getElem?_eq_getElem h]; rfl
  have hqH := Lib.hid hq
  have hSH := Lib.hid hs
  clear v1 v2 v3 hs hok hl q1 q2 q3 q4 h1 h2 h3 h4 hd hx hy hLE cI hz hq
  go_enter Tryz.func178, Tryz.ntmps178
  go_wp2_with fail
  refine v1H.out.mono ?_
  rintro e w1 ⟨rfl, hb1⟩
  go_wp2_with fail
  refine (v2H.out _ hb1).mono ?_
  rintro e w2 ⟨rfl, hb2⟩
  have hb2 : Below w1.heap.size w1 w2 := hb2.below _
  have hb2' := bcall hb1 hb2
  clear hb1 hb2
  go_wp2_with fail
  refine (v3H.out _ hb2').mono ?_
  rintro e w3 ⟨v, rfl, ho, hb3⟩
  have hb3' := bcall hb2' hb3
  obtain ⟨a, c, rfl, hT⟩ := OwnL.sl ho
  obtain ⟨b1, o1, a4, c4, rfl, -, r1, hA⟩ := hT.sub (L.length - 1) (by simp only; omega)
  dsimp only at r1 hA
  simp only [hqH.out] at r1 hA
  have cc := Lib.hid (cIH.out _ _ hb3' _ _ hA)
  clear ho hT hA hqH hb2' hb3 cIH v1H v2H v3H
  go_wp2_with fail
  refine cc.out.mono ?_
  rintro e w4 ⟨rfl, hb4⟩
  have hb4' := Lib.hid (bcall hb3' hb4)
  clear hb3' hb4 cc
  have hS := hSH.out
  cases d with
  | false =>
   rw [if_neg (by decide)] at hS
   have hSK := Lib.hid hS
   clear hS hSH
   go_wp2_with fail
   go_ret2
   rw [hSK.out]
   exact ⟨by simp only [← e1]; rw [IntWalk.i64_in _ (by omega)]; rfl, hb4'.out⟩
  | true =>
   rw [if_pos rfl] at hS
   have hSK := Lib.hid hS
   clear hS hSH
   go_wp2_with fail
   go_ret2
   rw [hSK.out]
   exact ⟨rfl, hb4'.out⟩
 ·rw [if_neg hE] at hs
  have hne : (E != 0) = true := by simpa using hE
  have hSH := Lib.hid hs
  clear v1 v2 v3 hs hE hok q1 q2 q3 q4 h1 h2 h3 h4 hx hy hLE
  go_enter Tryz.func178, Tryz.ntmps178
  go_wp2_with fail
  refine v1H.out.mono ?_
  rintro e w1 ⟨rfl, hb1⟩
  go_wp2_with fail
  refine (v2H.out _ hb1).mono ?_
  rintro e w2 ⟨rfl, hb2⟩
  have hb2 : Below w1.heap.size w1 w2 := hb2.below _
  have hb2' := bcall hb1 hb2
  go_wp2_with fail
  refine (v3H.out _ hb2').mono ?_
  rintro e w3 ⟨v, rfl, ho, hb3⟩
  obtain ⟨aL, cL, rfl, -⟩ := OwnL.sl ho
  have hb3' := Lib.hid (bcall hb2' hb3)
  clear ho hb1 hb2 hb2' hb3
  go_wp2_with fail
  go_ret2
  rw [hSH.out]
  exact ⟨rfl, hb3'.out⟩
theorem rProves_any {S1 S2 S3 S4 : Nat → Prop} (a1 ag ap at_ : Option Addr) (c1 cg cp ct : Nat) (s : Sg) (g : List (List Int)) (p : List Stp) (t : List Int) (w : World) (h1 : Sign S1 w a1 c1 s) (h2 : Terms S2 w ag cg g) (h3 : Steps S3 w ap cp p) (h4 : Ints S4 w at_ ct t) :
  Calls Tryz.prog 143 #[.slice a1 s.length c1, .slice ag g.length cg, .slice ap p.length cp, .slice at_ t.length ct] w fun e w' => e = .returned (.bool ((checkE s g p t).2 == 0)) ∧ Below w.heap.size w w' := by
 have m1 := h1.le
 have m2 := h2.le
 have m3 := h3.le
 have m4 := h4.le
 have cc := Lib.hid (rCheck_any a1 ag ap at_ c1 cg cp ct s g p t w h1 h2 h3 h4)
 obtain ⟨⟨i, E⟩, hc⟩ : ∃ x, checkE s g p t = x := ⟨_, rfl⟩
 rw [hc] at cc
 rw [hc]
 clear h1 h2 h3 h4 hc
 go_enter Tryz.func143, Tryz.ntmps143
 go_wp2_with fail
 refine cc.out.mono ?_
 rintro e w1 ⟨rfl, hb1⟩
 go_wp2_with fail
 go_ret
 exact ⟨rfl, hb1⟩
end Go.Proofs.YtpmnnoopoblpgaaGreat

/- What the reference calls holding is what holds. No program is named. -/
namespace Go.Proofs.YtpmnnoopoblpgaaGreat

theorem hold_ref {s : Sg} {l : List Ent} (hok : ∀ x ∈ l, okEnt s x = true) {i : Nat} (hi : i < l.length) :
  (decide (ePf l[i] = []) || (inAll l (eUses l[i]) && ((checkE s (givF l (eUses l[i])) (ePf l[i]) (eSays l[i])).2 == 0))) = holdX s l i := by
 have ht := okEnt_says' (hok _ (List.getElem_mem hi))
 unfold holdX strX
 rw [getD_at hi]
 generalize eSays l[i] = t at *
 generalize eUses l[i] = us at *
 generalize ePf l[i] = p at *
 by_cases hp : p = []
 ·rw [if_pos hp, decide_eq_true hp, Bool.true_or]
  simp only
  rw [ht, instB_iff.2 (insSelf t)]; rfl
 ·rw [if_neg hp, decide_eq_false hp, Bool.false_or]
  by_cases hin : inAll l us = true
  ·rw [if_pos hin, hin, Bool.true_and]
   generalize givF l us = g
   unfold checkE saysE
   by_cases ha : askedB s g p = true
   ·rw [if_pos ha, if_pos ha, if_pos ht]
    by_cases hr : (runL s g p []).2 = 0
    ·rw [if_pos hr, if_pos hr, if_pos rfl]
     by_cases hc : (okT s ((runL s g p []).1.getLastD []) && okT s t && instB s ((runL s g p []).1.getLastD []) t) = true
     ·rw [if_pos hc]; simp only; rw [hc]; rfl
     ·rw [if_neg hc]; simp only
      cases e : (okT s ((runL s g p []).1.getLastD []) && okT s t && instB s ((runL s g p []).1.getLastD []) t) with
      | true => exact (hc e).elim
      | false => rfl
    ·rw [if_neg hr, if_neg hr]
     simp only
     rw [if_neg hr]
     simp only [beq_eq_false_iff_ne, ne_eq]
     exact hr
   ·rw [if_neg ha, if_neg ha]
    simp only
    rw [if_neg (by decide)]; rfl
  ·rw [if_neg hin]
   have : inAll l us = false := by cases e : inAll l us with | true => exact (hin e).elim | false => rfl
   rw [this]; rfl
end Go.Proofs.YtpmnnoopoblpgaaGreat

/- Walks: Index, Givens of the reference; blocked. -/
namespace Go.Proofs.YtpmnnoopoblpgaaGreat
open Go Go.RowKit Go.Maps

def ixN (l : List Ent) (n : ByteArray) : Int := match atN l n with | some i => (i : Int) | none => -1
theorem ixN_some' {l : List Ent} {n : ByteArray} {j : Nat} (h : atN l n = some j) : ixN l n = j := by unfold ixN; rw [h]
theorem ixN_none' {l : List Ent} {n : ByteArray} (h : atN l n = none) : ixN l n = -1 := by unfold ixN; rw [h]
theorem ixN_idx (l : List Ent) (n : ByteArray) : ixN l n = idxE l (fun x => decide (eNm x = n)) := rfl
def rixRel (l : List Ent) (n : ByteArray) (w : World) (i : Value) (wr : World) : Prop := ∃ k : Nat, i = .int .i64 k ∧ k ≤ l.length ∧ (∀ j (hj : j < k) (hl : j < l.length), eNm l[j] ≠ n) ∧ w = wr
set_option maxHeartbeats 1000000 in
theorem rIndex_any {S : Nat → Prop} (a : Option Addr) (c : Nat) (l : List Ent) (n : ByteArray) (w : World) (h : LibL S w a c l) :
  Calls Tryz.prog 14 #[.slice a l.length c, .string n] w fun e w' => e = .returned (.int .i64 (ixN l n)) ∧ w = w' := by
 have m := h.le
 have hH := Lib.hid h
 clear h
 go_enter Tryz.func14, Tryz.ntmps14
 go_wp2_with fail
 go_loopw [5] (fun i wr => rixRel l n w i wr) (fun i _ => l.length - (intOf i).toNat)
 case atStart => exact ⟨0, rfl, Nat.zero_le _, fun j hj => by omega, rfl⟩
 case round =>
  obtain ⟨k, rfl, hk, hno, rfl⟩ := hrel
  by_cases hlt : k < l.length
  ·obtain ⟨b, off, a1, c1, a2, c2, a3, c3, rfl, hbB, p0, p1, p2, p3, p4, z1, z2, hI, hU, hP⟩ := hH.out.ent k hlt
   clear p1 p2 p3 p4 hI hU hP z2
   obtain ⟨x, hx⟩ : ∃ x, eNm l[k] = x := ⟨_, rfl⟩
   rw [hx] at p0 z1
   by_cases he : x = n
   ·have hq := str_eq he
    have hfin := Lib.hid (show ixN l n = k by rw [ixN_idx]; exact idxE_some hlt (fun j hj => decide_eq_false (hno j hj (by omega))) (decide_eq_true (hx.trans he)))
    clear hno hx he
    go_wp2_with fail
    go_ret
    first | exact ⟨ret_int hfin.out.symm, rfl⟩ | exact ⟨ret_int hfin.out.symm, trivial⟩
   ·have hq := str_neq he
    have hfin := Lib.hid (show rixRel l n w (.int .i64 ((k : Int) + 1)) w from ⟨k + 1, by simp, hlt, fun j hj hl => by
     by_cases e : j = k
     ·subst e; rw [hx]; exact he
     ·exact hno j (by omega) hl, rfl⟩)
    clear hno hx he
    go_wp2_with fail
    go_roundw
    case rel => exact hfin.out
    case measure => simp [intOf]; omega
  ·have hkk : ((k : Int) < (l.length : Int)) = False := eq_false (by omega)
   have hfin := Lib.hid (show ixN l n = -1 by rw [ixN_idx]; exact idxE_none (fun j hj => decide_eq_false (hno j (by omega) hj)))
   clear hno hlt hk
   go_wp2_with fail
   go_ret
   first | exact ⟨ret_int hfin.out.symm, rfl⟩ | exact ⟨ret_int hfin.out.symm, trivial⟩
end Go.Proofs.YtpmnnoopoblpgaaGreat

/- Walks: missing of the reference. -/
namespace Go.Proofs.YtpmnnoopoblpgaaGreat
open Go Go.RowKit Go.Maps

def colN (l : List Ent) (us : List ByteArray) : List ByteArray := us.filter (fun u => (atN l u).isNone)
theorem colN_no {l : List Ent} {P us : List ByteArray} {j : Nat} (hj : j < us.length) {i : Nat} (h : atN l us[j] = some i) : colN l (P ++ us.take (j + 1)) = colN l (P ++ us.take j) := by
 unfold colN
 rw [List.take_succ_eq_append_getElem hj, ← List.append_assoc, List.filter_append (l₁ := P ++ us.take j), List.filter_cons_of_neg (by rw [h]; simp), List.filter_nil, List.append_nil]
theorem colN_yes {l : List Ent} {P us : List ByteArray} {j : Nat} (hj : j < us.length) (h : atN l us[j] = none) : colN l (P ++ us.take (j + 1)) = colN l (P ++ us.take j) ++ [us[j]] := by
 unfold colN
 rw [List.take_succ_eq_append_getElem hj, ← List.append_assoc, List.filter_append (l₁ := P ++ us.take j), List.filter_cons_of_pos (by rw [h]; rfl), List.filter_nil]
theorem flat_take {l : List Ent} {k : Nat} (hk : k < l.length) : (l.take (k + 1)).flatMap eUses = (l.take k).flatMap eUses ++ eUses l[k] := by
 rw [List.take_succ_eq_append_getElem hk, List.flatMap_append]; simp
theorem flat_len {l : List Ent} {k : Nat} : ((l.take k).flatMap eUses).length ≤ (allUses l).length := by
 unfold allUses
 conv => rhs; rw [← List.take_append_drop k l]
 rw [List.flatMap_append, List.length_append]; omega
theorem colN_mem {l : List Ent} : memB (colN l (allUses l)) = misB l := by
 funext u
 rw [Bool.eq_iff_iff, memB_iff]
 unfold colN misB allUses
 rw [List.mem_filter, List.mem_flatMap, Bool.and_eq_true, List.any_eq_true]
 constructor
 ·rintro ⟨⟨x, hx, h⟩, h2⟩; exact ⟨⟨x, hx, memB_iff.2 h⟩, h2⟩
 ·rintro ⟨⟨x, hx, h⟩, h2⟩; exact ⟨⟨x, hx, memB_iff.1 h⟩, h2⟩
def rm1Rel (l : List Ent) (w : World) (i v : Value) (wr : World) : Prop := ∃ k : Nat, i = .int .i64 k ∧ k ≤ l.length ∧ OwnS wr w.heap.size v (colN l ((l.take k).flatMap eUses)) ∧ Below w.heap.size w wr
def rm2Rel (l : List Ent) (P us : List ByteArray) (w : World) (i v : Value) (wr : World) : Prop := ∃ j : Nat, i = .int .i64 j ∧ j ≤ us.length ∧ OwnS wr w.heap.size v (colN l (P ++ us.take j)) ∧ Below w.heap.size w wr
set_option maxHeartbeats 4000000 in
theorem rmissing_any {S : Nat → Prop} (a : Option Addr) (c : Nat) (s : Sg) (l : List Ent) (w : World) (h : LibL S w a c l) (hok : okLib s l = true) :
  Calls Tryz.prog 84 #[.slice a l.length c] w (SortedOut w (misB l)) := by
 have m := h.le
 have hH := Lib.hid h
 have hokH := Lib.hid hok
 have hUl := allUses_len hok
 clear h hok
 go_enter Tryz.func84, Tryz.ntmps84
 go_wp2_with fail
 go_loopw [4, 3] (fun i v wr => rm1Rel l w i v wr) (fun i _ _ => l.length - (intOf i).toNat)
 case atStart => exact ⟨0, rfl, Nat.zero_le _, OwnL.nil _ _ _ _ _, .refl _ _⟩
 case round =>
  obtain ⟨k, rfl, hk, hO, hB⟩ := hrel
  by_cases hlt : k < l.length
  ·have hst := Lib.hid (show rm2Rel l ((l.take k).flatMap eUses) (eUses l[k]) w (.int .i64 0) _ wr from ⟨0, rfl, Nat.zero_le _, by rw [List.take_zero, List.append_nil]; exact hO, hB⟩)
   have hftH := Lib.hid (flat_take hlt)
   have hflH := Lib.hid (flat_len (l := l) (k := k + 1))
   clear hO hB
   go_wp2_with fail
   go_loopw [5, 3] (fun i v w2 => rm2Rel l ((l.take k).flatMap eUses) (eUses l[k]) w i v w2) (fun i _ _ => (eUses l[k]).length - (intOf i).toNat)
   case atStart => exact hst.out
   case round =>
    obtain ⟨j, rfl, hj, hO, hB⟩ := hrel
    obtain ⟨b, off, a1, c1, a2, c2, a3, c3, rfl, -, s0, s1, s2, s3, s4, z1, z2, hI, hU, hP⟩ := (hH.out.below hB).ent k hlt
    clear s0 s1 s2 s4 hI hP z1 z2
    have hft := hftH.out
    have hfl := hflH.out
    rw [hft, List.length_append] at hfl
    obtain ⟨us, hus⟩ : ∃ us, eUses l[k] = us := ⟨_, rfl⟩
    rw [hus] at hU s3 hj hO hft hfl
    have husH := Lib.hid hus
    have mU := hU.le
    by_cases hjl : j < us.length
    ·obtain ⟨b2, o2, rfl, -, qu, hzu⟩ := hU.str j hjl
     have vi := rIndex_any (some ⟨b, off, none⟩) c l us[j] _ (hH.out.below hB)
     cases hat : atN l us[j] with
     | some i =>
      rw [ixN_some' hat] at vi
      have hi0 : ((i : Int) < 0) = False := eq_false (by omega)
      rw [← colN_no hjl hat] at hO
      have viH := Lib.hid vi
      have hfin := Lib.hid (show ∀ v, OwnS _ w.heap.size v (colN l ((l.take k).flatMap eUses ++ us.take (j + 1))) → rm2Rel l ((l.take k).flatMap eUses) (eUses l[k]) w (.int .i64 ((j : Int) + 1)) v _ from fun v hv => ⟨j + 1, by simp, by rw [husH.out]; exact hjl, by rw [husH.out]; exact hv, hB⟩)
      have hOH := Lib.hid hO
      clear vi hO hB hat hft hfl hU hus
      generalize us[j] = u at *
      go_wp2_with fail
      refine viH.out.mono ?_
      rintro e w3 ⟨rfl, rfl⟩
      go_wp2_with fail
      go_roundw
      case rel => exact hfin.out _ hOH.out
      case measure => rw [husH.out]; simp [intOf]; omega
     | none =>
      rw [ixN_none' hat] at vi
      have hcl : (colN l ((l.take k).flatMap eUses ++ us.take j)).length ≤ 720 := by
       have : (colN l ((l.take k).flatMap eUses ++ us.take j)).length ≤ ((l.take k).flatMap eUses ++ us.take j).length := List.length_filter_le _ _
       rw [List.length_append, List.length_take] at this
       omega
      have hcy := colN_yes (P := (l.take k).flatMap eUses) hjl hat
      obtain ⟨v', W', hrun, ho, hg, -⟩ := OwnL.push (P := Tryz.prog) (t := 29) (ty := 29) hO Tryz.underlying29 infoStr rfl (vs := [.string us[j]]) (x := us[j]) ⟨rfl, hzu⟩ (by omega) (by unfold big; omega) hB.size
      rw [← hcy] at ho
      have viH := Lib.hid vi
      have hfin := Lib.hid (show rm2Rel l ((l.take k).flatMap eUses) (eUses l[k]) w (.int .i64 ((j : Int) + 1)) v' W' from ⟨j + 1, by simp, by rw [husH.out]; exact hjl, by rw [husH.out]; exact ho, hB.grown hg hB.size (fun q e => (OwnL.lt hO q e).1)⟩)
      clear vi hO hB hat hft hfl hU hus ho hg hcy hcl
      generalize us[j] = u at *
      go_wp2_with fail
      refine viH.out.mono ?_
      rintro e w3 ⟨rfl, rfl⟩
      go_wp2_with (at_builtin; refine wpList_append_run rfl _ _ _ rfl rfl rfl hrun ?_)
      go_roundw
      case rel => exact hfin.out
      case measure => rw [husH.out]; simp [intOf]; omega
    ·have hjj : ((j : Int) < (us.length : Int)) = False := eq_false (by omega)
     have etk : us.take j = us := List.take_of_length_le (by omega)
     rw [etk, ← hft] at hO
     clear etk
     have hfin := Lib.hid (show ∀ v, OwnS _ w.heap.size v (colN l ((l.take (k + 1)).flatMap eUses)) → rm1Rel l w (.int .i64 ((k : Int) + 1)) v _ from fun v hv => ⟨k + 1, by simp, hlt, hv, hB⟩)
     have hOH := Lib.hid hO
     clear hO hB hft hfl hU hus hjl hj
     go_wp2_with fail
     go_roundw
     case rel => exact hfin.out _ hOH.out
     case measure => simp [intOf]; omega
  ·have hkk : ((k : Int) < (l.length : Int)) = False := eq_false (by omega)
   have hkl : k = l.length := by omega
   rw [hkl, List.take_length] at hO
   have hO' : OwnS wr w.heap.size _ (colN l (allUses l)) := hO
   obtain ⟨av, cv, rfl, hS⟩ := OwnS.strs hO'
   have hcl : (colN l (allUses l)).length ≤ 720 := Nat.le_trans (List.length_filter_le _ _) hUl
   have vs := rSorted_any av cv (colN l (allUses l)) wr hS (by omega)
   rw [colN_mem] at vs
   have vsH := Lib.hid vs
   have hBH := Lib.hid hB
   clear vs hS hO' hO hB hlt hk hkl
   go_wp2_with fail
   refine vsH.out.mono ?_
   rintro e w2 ⟨v, L, rfl, h1, h2, h3, h4⟩
   have hfin := Lib.hid (show SortedOut w (misB l) (.returned v) w2 from ⟨v, L, rfl, OwnS.base h1 hBH.out.size, h2, h3, bcall hBH.out h4⟩)
   clear h1 h2 h3 h4
   go_wp2_with fail
   go_ret
   exact hfin.out
end Go.Proofs.YtpmnnoopoblpgaaGreat

/- If an entry says something more general, nothing breaks but itself. No program is named. -/
namespace Go.Proofs.YtpmnnoopoblpgaaGreat

end Go.Proofs.YtpmnnoopoblpgaaGreat

/- Walks: Valid, Find, Missing of the reference. -/
namespace Go.Proofs.YtpmnnoopoblpgaaGreat
open Go Go.RowKit Go.Maps

def rvlRel (s : Sg) (l : List Ent) (w : World) (i : Value) (wr : World) : Prop := ∃ k : Nat, i = .int .i64 k ∧ k ≤ l.length ∧ (l.take k).all (okEnt s) = true ∧ ((l.take k).map eNm).Nodup ∧ Below w.heap.size w wr
theorem okLib_bad1 {s : Sg} {l : List Ent} {k : Nat} (hk : k < l.length) (h : okEnt s l[k] = false) : okLib s l = false := by
 have : l.all (okEnt s) = false := by rw [List.all_eq_false]; exact ⟨l[k], List.getElem_mem hk, by rw [h]; simp⟩
 unfold okLib; rw [this]; simp
theorem okLib_bad2 {s : Sg} {l : List Ent} {k j : Nat} (hk : k < l.length) (h : atN (l.take k) (eNm l[k]) = some j) : okLib s l = false := by
 obtain ⟨hj, e⟩ := atN_some h
 rw [List.length_take] at hj
 rw [List.getElem_take] at e
 have : ¬ (l.map eNm).Nodup := fun hd => by
  have := (List.getElem_inj (xs := l.map eNm) (i := j) (j := k) (h₀ := by rw [List.length_map]; omega) (h₁ := by rw [List.length_map]; exact hk) hd).1 (by rw [List.getElem_map, List.getElem_map]; exact e)
  omega
 unfold okLib; rw [decide_eq_false this]; simp
theorem okLib_next {s : Sg} {l : List Ent} {k : Nat} (hk : k < l.length) (hall : (l.take k).all (okEnt s) = true) (hnd : ((l.take k).map eNm).Nodup) (h : okEnt s l[k] = true) (hat : atN (l.take k) (eNm l[k]) = none) :
  (l.take (k + 1)).all (okEnt s) = true ∧ ((l.take (k + 1)).map eNm).Nodup := by
 rw [List.take_succ_eq_append_getElem hk, List.all_append, hall, List.map_append]
 refine ⟨by simpa using h, ?_⟩
 rw [List.nodup_append]
 refine ⟨hnd, by simp, fun a ha b hb e => ?_⟩
 obtain ⟨x, hx, e1⟩ := List.mem_map.1 ha
 simp at hb
 exact atN_none hat x hx (by rw [e1, e, hb])
set_option maxRecDepth 100000 in
set_option maxHeartbeats 8000000 in
theorem rVld_any {S1 S2 : Nat → Prop} (sa la : Option Addr) (sc lc : Nat) (s : Sg) (l : List Ent) (w : World) (h1 : Sign S1 w sa sc s) (h2 : LibL S2 w la lc l) :
  Calls Tryz.prog 27 #[.slice sa s.length sc, .slice la l.length lc] w fun e w' => e = .returned (.bool (okLib s l)) ∧ Below w.heap.size w w' := by
 have m := h2.le
 have m1 := h1.le
 have vs := rValidSign_any sa sc s w h1
 have h1H := Lib.hid h1
 have h2H := Lib.hid h2
 clear h1 h2
 cases hs : okSign s with
 | false =>
  rw [hs] at vs
  have vsH := Lib.hid vs
  have hf := Lib.hid (show okLib s l = false by unfold okLib; rw [hs]; rfl)
  clear vs hs
  go_enter Tryz.func27, Tryz.ntmps27
  go_wp2_with fail
  refine vsH.out.mono ?_
  rintro e w1 ⟨rfl, hd⟩
  have hB := Lib.hid (hd.below w.heap.size)
  clear hd
  go_wp2_with fail
  go_ret
  exact ⟨ret_bool hf.out.symm, hB.out⟩
 | true =>
 rw [hs] at vs
 have vsH := Lib.hid vs
 have hsH := Lib.hid hs
 clear vs hs
 by_cases h60 : l.length ≤ 60
 ·have h60i : ((60 : Int) < (l.length : Int)) = False := eq_false (by omega)
  go_enter Tryz.func27, Tryz.ntmps27
  go_wp2_with fail
  refine vsH.out.mono ?_
  rintro e w1 ⟨rfl, hd⟩
  have hB := Lib.hid (hd.below w.heap.size)
  clear hd
  go_wp2_with fail
  go_loopw [5] (fun i wr => rvlRel s l w i wr) (fun i _ => l.length - (intOf i).toNat)
  case atStart => exact ⟨0, rfl, Nat.zero_le _, rfl, by simp, hB.out⟩
  case round =>
   obtain ⟨k, rfl, hk, hall, hnd, hBr⟩ := hrel
   by_cases hlt : k < l.length
   ·obtain ⟨b, off, a1, c1, a2, c2, a3, c3, rfl, -, p0, p1, p2, p3, p4, z1, z2, hI, hU, hP⟩ := (h2H.out.below hBr).ent k hlt
    have hcap := h2H.out.cap
    have hkc : (k : Int) ≤ (lc : Int) := by omega
    have hlc0 : ¬ lc = 0 := by omega
    have hkk : (k : Int) < (l.length : Int) := by omega
    have hk0 : (0 : Int) ≤ (k : Int) := by omega
    have hlt2 : (l.take k).length = k := by rw [List.length_take]; omega
    have ve := fun W (hb : Below wr.heap.size wr W) => rValidEntry_any sa sc s l[k] a1 a2 a3 c1 c2 c3 W ((h1H.out.below hBr).below hb) z1 z2 (hI.below hb) (hU.below hb) (hP.below hb)
    have vi := fun W (hb : Below wr.heap.size wr W) => rIndex_any (some ⟨b, off, none⟩) lc (l.take k) (eNm l[k]) W (((h2H.out.pre k).below hBr).below hb)
    simp only [hlt2] at vi
    have hbad := okLib_bad1 (s := s) hlt
    have hbad2 := fun j => okLib_bad2 (s := s) (j := j) hlt
    have hnx := fun h hat => okLib_next hlt hall hnd h hat
    have hixs := fun j (h : atN (l.take k) (eNm l[k]) = some j) => ixN_some' h
    have hixn := fun (h : atN (l.take k) (eNm l[k]) = none) => ixN_none' h
    have hbd : Below wr.heap.size wr wr.drew := Below.drew (.refl _ _)
    have hS0 := (⟨cell_later hbd p0, cell_later hbd p1, cell_later hbd p2, cell_later hbd p3, cell_later hbd p4⟩ : wr.drew.cell? ⟨b, off + k * 5, none⟩ = some (.string (eNm l[k])) ∧ wr.drew.cell? ⟨b, off + k * 5 + 1, none⟩ = some (.string (eBy l[k])) ∧ wr.drew.cell? ⟨b, off + k * 5 + 2, none⟩ = some (.slice a1 (eSays l[k]).length c1) ∧ wr.drew.cell? ⟨b, off + k * 5 + 3, none⟩ = some (.slice a2 (eUses l[k]).length c2) ∧ wr.drew.cell? ⟨b, off + k * 5 + 4, none⟩ = some (.slice a3 (ePf l[k]).length c3))
    have hBrH := Lib.hid hBr
    have hixsH := Lib.hid hixs
    have hixnH := Lib.hid hixn
    have hnxH := Lib.hid hnx
    have hbadH := Lib.hid hbad
    have hbad2H := Lib.hid hbad2
    have viF := Lib.hid vi
    have veH := Lib.hid ve
    clear hall hnd hBr hI hU hP z1 z2 ve vi hbad hbad2 hnx hixs hixn p0 p1 p2 p3 p4 hlt2 hcap
    generalize atN (l.take k) (eNm l[k]) = at_ at *
    generalize ixN (l.take k) (eNm l[k]) = ix at *
    generalize okEnt s l[k] = ok at *
    generalize eNm l[k] = nm at *
    generalize eBy l[k] = bn at *
    generalize (eSays l[k]).length = n1 at *
    generalize (eUses l[k]).length = n2 at *
    generalize (ePf l[k]).length = n3 at *
    cases ok with
    | false =>
     go_wp2_with fail
     refine wp_region_held_drew (S := fun w' => w'.cell? ⟨b, off + k * 5, none⟩ = some (.string nm) ∧ w'.cell? ⟨b, off + k * 5 + 1, none⟩ = some (.string bn) ∧ w'.cell? ⟨b, off + k * 5 + 2, none⟩ = some (.slice a1 n1 c1) ∧ w'.cell? ⟨b, off + k * 5 + 3, none⟩ = some (.slice a2 n2 c2) ∧ w'.cell? ⟨b, off + k * 5 + 4, none⟩ = some (.slice a3 n3 c3)) (by kernel_rfl) hS0 (fun hS => ?_)
     refine rtk 0 20 (v := ?_) hS ?_ ?_; rotate_left; · (intro w9 hS9; obtain ⟨z0, z1, z2, z3, z4⟩ := hS9; go_simp; try (with_reducible rfl))
     refine rtk 1 21 (v := ?_) hS ?_ ?_; rotate_left; · (intro w9 hS9; obtain ⟨z0, z1, z2, z3, z4⟩ := hS9; go_simp; try (with_reducible rfl))
     refine rtk 2 22 (v := ?_) hS ?_ ?_; rotate_left; · (intro w9 hS9; obtain ⟨z0, z1, z2, z3, z4⟩ := hS9; go_simp; try (with_reducible rfl))
     refine rtk 3 23 (v := ?_) hS ?_ ?_; rotate_left; · (intro w9 hS9; obtain ⟨z0, z1, z2, z3, z4⟩ := hS9; go_simp; try (with_reducible rfl))
     refine rtk 4 24 (v := ?_) hS ?_ ?_; rotate_left; · (intro w9 hS9; obtain ⟨z0, z1, z2, z3, z4⟩ := hS9; go_simp; try (with_reducible rfl))
     refine region_call 5 rfl (by kernel_rfl) (fun K hK => ?_)
     go_simp
     (with_reducible refine (veH.out _ hbd).mono ?_)
     rintro e w5 ⟨rfl, hb5⟩
     go_simp
     refine hK.out _ _ ⟨cell_later hb5 hS.1, cell_later hb5 hS.2.1, cell_later hb5 hS.2.2.1, cell_later hb5 hS.2.2.2.1, cell_later hb5 hS.2.2.2.2⟩ ?_
     clear hK hS K
     intro hS
     try simp only [Act.put, List.setIfInBounds_toArray, List.set_cons_zero, List.set_cons_succ]
     have hB5 := Lib.hid (bcall hBrH.out (bcall hbd hb5))
     have hW5 := Lib.hid (bcall hbd hb5)
     clear hb5
     refine rtk 6 26 (v := ?_) hS ?_ ?_; rotate_left; · (intro w9 hS9; obtain ⟨z0, z1, z2, z3, z4⟩ := hS9; go_simp; try (with_reducible rfl))
     refine rtk 7 27 (v := ?_) hS ?_ ?_; rotate_left; · (intro w9 hS9; obtain ⟨z0, z1, z2, z3, z4⟩ := hS9; go_simp; try (with_reducible rfl))
     refine rsk 8 28 hS ?_
     refine rsk 9 29 hS ?_
     refine rsk 10 30 hS ?_
     refine rsk 11 31 hS ?_
     refine rsk 12 32 hS ?_
     refine rsk 13 33 hS ?_
     refine rsk 14 34 hS ?_
     refine rsk 15 35 hS ?_
     refine rsk 16 36 hS ?_
     refine rsk 17 37 hS ?_
     refine rtk 18 38 (v := ?_) hS ?_ ?_; rotate_left; · (intro w9 hS9; obtain ⟨z0, z1, z2, z3, z4⟩ := hS9; go_simp; try (with_reducible rfl))
     refine wpAnyH_done (by kernel_rfl) ?_ _
     clear hS
     go_wp2_with fail
     go_ret
     exact ⟨ret_bool (hbadH.out (by simp)).symm, hB5.out⟩
    | true =>
     cases at_ with
     | none =>
      have hix := hixnH.out rfl
      subst hix
      have hnx := Lib.hid (fun W hb => (show rvlRel s l w (.int .i64 ((k : Int) + 1)) W from ⟨k + 1, by simp, hlt, (hnxH.out rfl rfl).1, (hnxH.out rfl rfl).2, hb⟩))
      clear hixsH hixnH hnxH hbad2H hbadH
      go_wp2_with fail
      refine wp_region_held_drew (S := fun w' => w'.cell? ⟨b, off + k * 5, none⟩ = some (.string nm) ∧ w'.cell? ⟨b, off + k * 5 + 1, none⟩ = some (.string bn) ∧ w'.cell? ⟨b, off + k * 5 + 2, none⟩ = some (.slice a1 n1 c1) ∧ w'.cell? ⟨b, off + k * 5 + 3, none⟩ = some (.slice a2 n2 c2) ∧ w'.cell? ⟨b, off + k * 5 + 4, none⟩ = some (.slice a3 n3 c3)) (by kernel_rfl) hS0 (fun hS => ?_)
      refine rtk 0 20 (v := ?_) hS ?_ ?_; rotate_left; · (intro w9 hS9; obtain ⟨z0, z1, z2, z3, z4⟩ := hS9; go_simp; try (with_reducible rfl))
      refine rtk 1 21 (v := ?_) hS ?_ ?_; rotate_left; · (intro w9 hS9; obtain ⟨z0, z1, z2, z3, z4⟩ := hS9; go_simp; try (with_reducible rfl))
      refine rtk 2 22 (v := ?_) hS ?_ ?_; rotate_left; · (intro w9 hS9; obtain ⟨z0, z1, z2, z3, z4⟩ := hS9; go_simp; try (with_reducible rfl))
      refine rtk 3 23 (v := ?_) hS ?_ ?_; rotate_left; · (intro w9 hS9; obtain ⟨z0, z1, z2, z3, z4⟩ := hS9; go_simp; try (with_reducible rfl))
      refine rtk 4 24 (v := ?_) hS ?_ ?_; rotate_left; · (intro w9 hS9; obtain ⟨z0, z1, z2, z3, z4⟩ := hS9; go_simp; try (with_reducible rfl))
      refine region_call 5 rfl (by kernel_rfl) (fun K hK => ?_)
      go_simp
      (with_reducible refine (veH.out _ hbd).mono ?_)
      rintro e w5 ⟨rfl, hb5⟩
      go_simp
      refine hK.out _ _ ⟨cell_later hb5 hS.1, cell_later hb5 hS.2.1, cell_later hb5 hS.2.2.1, cell_later hb5 hS.2.2.2.1, cell_later hb5 hS.2.2.2.2⟩ ?_
      clear hK hS K
      intro hS
      try simp only [Act.put, List.setIfInBounds_toArray, List.set_cons_zero, List.set_cons_succ]
      have hB5 := Lib.hid (bcall hBrH.out (bcall hbd hb5))
      have hW5 := Lib.hid (bcall hbd hb5)
      clear hb5
      refine rtk 6 26 (v := ?_) hS ?_ ?_; rotate_left; · (intro w9 hS9; obtain ⟨z0, z1, z2, z3, z4⟩ := hS9; go_simp; try (with_reducible rfl))
      refine rtk 7 27 (v := ?_) hS ?_ ?_; rotate_left; · (intro w9 hS9; obtain ⟨z0, z1, z2, z3, z4⟩ := hS9; go_simp; try (with_reducible rfl))
      refine rtk 8 28 (v := ?_) hS ?_ ?_; rotate_left; · (intro w9 hS9; obtain ⟨z0, z1, z2, z3, z4⟩ := hS9; go_simp; try (with_reducible rfl))
      refine rtk 9 29 (v := ?_) hS ?_ ?_; rotate_left; · (intro w9 hS9; obtain ⟨z0, z1, z2, z3, z4⟩ := hS9; go_simp; try (with_reducible rfl))
      refine rtk 10 30 (v := ?_) hS ?_ ?_; rotate_left; · (intro w9 hS9; obtain ⟨z0, z1, z2, z3, z4⟩ := hS9; go_simp; try (with_reducible rfl))
      refine rtk 11 31 (v := ?_) hS ?_ ?_; rotate_left; · (intro w9 hS9; obtain ⟨z0, z1, z2, z3, z4⟩ := hS9; go_simp; try (with_reducible rfl))
      refine rtk 12 32 (v := ?_) hS ?_ ?_; rotate_left; · (intro w9 hS9; obtain ⟨z0, z1, z2, z3, z4⟩ := hS9; go_simp; try (with_reducible rfl))
      refine rtk 13 33 (v := ?_) hS ?_ ?_; rotate_left; · (intro w9 hS9; obtain ⟨z0, z1, z2, z3, z4⟩ := hS9; go_simp; try (with_reducible rfl))
      refine rtk 14 34 (v := ?_) hS ?_ ?_; rotate_left; · (intro w9 hS9; obtain ⟨z0, z1, z2, z3, z4⟩ := hS9; go_simp; try (with_reducible rfl))
      refine rtk 15 35 (v := ?_) hS ?_ ?_; rotate_left; · (intro w9 hS9; obtain ⟨z0, z1, z2, z3, z4⟩ := hS9; go_simp; try (with_reducible rfl))
      have viH := Lib.hid (viF.out w5 hW5.out)
      refine region_call 16 rfl (by kernel_rfl) (fun K hK => ?_)
      go_simp
      (with_reducible refine viH.out.mono ?_)
      rintro e w6 ⟨rfl, rfl⟩
      go_simp
      refine hK.out _ _ hS ?_
      clear hK hS K
      intro hS
      try simp only [Act.put, List.setIfInBounds_toArray, List.set_cons_zero, List.set_cons_succ]
      refine rtk 17 37 (v := ?_) hS ?_ ?_; rotate_left; · (intro w9 hS9; obtain ⟨z0, z1, z2, z3, z4⟩ := hS9; go_simp; try (with_reducible rfl))
      refine rtk 18 38 (v := ?_) hS ?_ ?_; rotate_left; · (intro w9 hS9; obtain ⟨z0, z1, z2, z3, z4⟩ := hS9; go_simp; try (with_reducible rfl))
      refine wpAnyH_done (by kernel_rfl) ?_ _
      clear hS
      go_wp2_with fail
      go_roundw
      case rel => exact hnx.out _ hB5.out
      case measure => simp [intOf]; omega
     | some j =>
      have hix := hixsH.out j rfl
      subst hix
      have hbd2 := Lib.hid (hbad2H.out j rfl)
      have hjj : (0 : Int) ≤ (j : Int) := by omega
      clear hixsH hixnH hnxH hbad2H hbadH
      go_wp2_with fail
      refine wp_region_held_drew (S := fun w' => w'.cell? ⟨b, off + k * 5, none⟩ = some (.string nm) ∧ w'.cell? ⟨b, off + k * 5 + 1, none⟩ = some (.string bn) ∧ w'.cell? ⟨b, off + k * 5 + 2, none⟩ = some (.slice a1 n1 c1) ∧ w'.cell? ⟨b, off + k * 5 + 3, none⟩ = some (.slice a2 n2 c2) ∧ w'.cell? ⟨b, off + k * 5 + 4, none⟩ = some (.slice a3 n3 c3)) (by kernel_rfl) hS0 (fun hS => ?_)
      refine rtk 0 20 (v := ?_) hS ?_ ?_; rotate_left; · (intro w9 hS9; obtain ⟨z0, z1, z2, z3, z4⟩ := hS9; go_simp; try (with_reducible rfl))
      refine rtk 1 21 (v := ?_) hS ?_ ?_; rotate_left; · (intro w9 hS9; obtain ⟨z0, z1, z2, z3, z4⟩ := hS9; go_simp; try (with_reducible rfl))
      refine rtk 2 22 (v := ?_) hS ?_ ?_; rotate_left; · (intro w9 hS9; obtain ⟨z0, z1, z2, z3, z4⟩ := hS9; go_simp; try (with_reducible rfl))
      refine rtk 3 23 (v := ?_) hS ?_ ?_; rotate_left; · (intro w9 hS9; obtain ⟨z0, z1, z2, z3, z4⟩ := hS9; go_simp; try (with_reducible rfl))
      refine rtk 4 24 (v := ?_) hS ?_ ?_; rotate_left; · (intro w9 hS9; obtain ⟨z0, z1, z2, z3, z4⟩ := hS9; go_simp; try (with_reducible rfl))
      refine region_call 5 rfl (by kernel_rfl) (fun K hK => ?_)
      go_simp
      (with_reducible refine (veH.out _ hbd).mono ?_)
      rintro e w5 ⟨rfl, hb5⟩
      go_simp
      refine hK.out _ _ ⟨cell_later hb5 hS.1, cell_later hb5 hS.2.1, cell_later hb5 hS.2.2.1, cell_later hb5 hS.2.2.2.1, cell_later hb5 hS.2.2.2.2⟩ ?_
      clear hK hS K
      intro hS
      try simp only [Act.put, List.setIfInBounds_toArray, List.set_cons_zero, List.set_cons_succ]
      have hB5 := Lib.hid (bcall hBrH.out (bcall hbd hb5))
      have hW5 := Lib.hid (bcall hbd hb5)
      clear hb5
      refine rtk 6 26 (v := ?_) hS ?_ ?_; rotate_left; · (intro w9 hS9; obtain ⟨z0, z1, z2, z3, z4⟩ := hS9; go_simp; try (with_reducible rfl))
      refine rtk 7 27 (v := ?_) hS ?_ ?_; rotate_left; · (intro w9 hS9; obtain ⟨z0, z1, z2, z3, z4⟩ := hS9; go_simp; try (with_reducible rfl))
      refine rtk 8 28 (v := ?_) hS ?_ ?_; rotate_left; · (intro w9 hS9; obtain ⟨z0, z1, z2, z3, z4⟩ := hS9; go_simp; try (with_reducible rfl))
      refine rtk 9 29 (v := ?_) hS ?_ ?_; rotate_left; · (intro w9 hS9; obtain ⟨z0, z1, z2, z3, z4⟩ := hS9; go_simp; try (with_reducible rfl))
      refine rtk 10 30 (v := ?_) hS ?_ ?_; rotate_left; · (intro w9 hS9; obtain ⟨z0, z1, z2, z3, z4⟩ := hS9; go_simp; try (with_reducible rfl))
      refine rtk 11 31 (v := ?_) hS ?_ ?_; rotate_left; · (intro w9 hS9; obtain ⟨z0, z1, z2, z3, z4⟩ := hS9; go_simp; try (with_reducible rfl))
      refine rtk 12 32 (v := ?_) hS ?_ ?_; rotate_left; · (intro w9 hS9; obtain ⟨z0, z1, z2, z3, z4⟩ := hS9; go_simp; try (with_reducible rfl))
      refine rtk 13 33 (v := ?_) hS ?_ ?_; rotate_left; · (intro w9 hS9; obtain ⟨z0, z1, z2, z3, z4⟩ := hS9; go_simp; try (with_reducible rfl))
      refine rtk 14 34 (v := ?_) hS ?_ ?_; rotate_left; · (intro w9 hS9; obtain ⟨z0, z1, z2, z3, z4⟩ := hS9; go_simp; try (with_reducible rfl))
      refine rtk 15 35 (v := ?_) hS ?_ ?_; rotate_left; · (intro w9 hS9; obtain ⟨z0, z1, z2, z3, z4⟩ := hS9; go_simp; try (with_reducible rfl))
      have viH := Lib.hid (viF.out w5 hW5.out)
      refine region_call 16 rfl (by kernel_rfl) (fun K hK => ?_)
      go_simp
      (with_reducible refine viH.out.mono ?_)
      rintro e w6 ⟨rfl, rfl⟩
      go_simp
      refine hK.out _ _ hS ?_
      clear hK hS K
      intro hS
      try simp only [Act.put, List.setIfInBounds_toArray, List.set_cons_zero, List.set_cons_succ]
      refine rtk 17 37 (v := ?_) hS ?_ ?_; rotate_left; · (intro w9 hS9; obtain ⟨z0, z1, z2, z3, z4⟩ := hS9; go_simp; try (with_reducible rfl))
      refine rtk 18 38 (v := ?_) hS ?_ ?_; rotate_left; · (intro w9 hS9; obtain ⟨z0, z1, z2, z3, z4⟩ := hS9; go_simp; try (with_reducible rfl))
      refine wpAnyH_done (by kernel_rfl) ?_ _
      clear hS
      go_wp2_with fail
      go_ret
      exact ⟨ret_bool hbd2.out.symm, hB5.out⟩
   ·have hkk : ((k : Int) < (l.length : Int)) = False := eq_false (by omega)
    rw [List.take_of_length_le (by omega)] at hall hnd
    have hf := Lib.hid (show okLib s l = true by unfold okLib; rw [hsH.out, hall, decide_eq_true h60, decide_eq_true hnd]; rfl)
    have hBH := Lib.hid hBr
    clear hall hnd hBr hlt hk
    go_wp2_with fail
    go_ret
    exact ⟨ret_bool hf.out.symm, hBH.out⟩
 ·have h60i : ((60 : Int) < (l.length : Int)) = True := eq_true (by omega)
  have hf := Lib.hid (show okLib s l = false by unfold okLib; rw [decide_eq_false h60]; simp)
  clear h60
  go_enter Tryz.func27, Tryz.ntmps27
  go_wp2_with fail
  refine vsH.out.mono ?_
  rintro e w1 ⟨rfl, hd⟩
  have hB := Lib.hid (hd.below w.heap.size)
  clear hd
  go_wp2_with fail
  go_ret
  exact ⟨ret_bool hf.out.symm, hB.out⟩
end Go.Proofs.YtpmnnoopoblpgaaGreat

/- Walks: Givens of the reference; blocked. -/
namespace Go.Proofs.YtpmnnoopoblpgaaGreat
open Go Go.RowKit Go.Maps

def rGivRet (l : List Ent) (us : List ByteArray) (w : World) (e : Ending) (w' : World) : Prop :=
 Below w.heap.size w w' ∧ ((inAll l us = false ∧ e = .returned (.tuple #[.slice none 0 0, .bool false])) ∨ (inAll l us = true ∧ ∃ v, e = .returned (.tuple #[v, .bool true]) ∧ OwnG w.heap.size w' w.heap.size v (givF l us)))
def rgRel (B : Nat) (l : List Ent) (us : List ByteArray) (W0 : World) (i v : Value) (wr : World) : Prop :=
 ∃ k : Nat, i = .int .i64 k ∧ k ≤ us.length ∧ inAll l (us.take k) = true ∧ OwnG B wr W0.heap.size v (givF l (us.take k)) ∧ Below W0.heap.size W0 wr
set_option maxHeartbeats 4000000 in
theorem rGivens_any {S S2 : Nat → Prop} (a : Option Addr) (c : Nat) (l : List Ent) (us : List ByteArray) (nm bn : ByteArray) (n1 n3 : Nat) (a1 a2 a3 : Option Addr) (c1 c2 c3 : Nat) (w : World) (h : LibL S w a c l) (hU : Sl strE S2 w a2 c2 us) (hl : us.length ≤ 60) :
  Calls Tryz.prog 72 #[.slice a l.length c, entV nm bn n1 us.length n3 a1 a2 a3 c1 c2 c3] w (rGivRet l us w) := by
 have m := h.le
 have mu := hU.le
 obtain ⟨W0, hW0⟩ : ∃ W0, w.alloc (.cells #[.string nm, .string bn, .slice a1 n1 c1, .slice a2 us.length c2, .slice a3 n3 c3] 37) = W0 := ⟨_, rfl⟩
 have hB0 : Below w.heap.size w W0 := by rw [← hW0]; exact below1 w _
 have q3 : W0.cell? ⟨w.heap.size, 3, none⟩ = some (.slice a2 us.length c2) := by rw [← hW0]; clear hW0; go_simp
 have hH := Lib.hid (h.lt.below hB0)
 have hUH := Lib.hid (hU.below hB0)
 have hBH := Lib.hid hB0
 clear h hU hB0
 go_enter Tryz.func72, Tryz.ntmps72
 go_wp2_with fail
 try rw [hW0]
 clear hW0
 go_loopw [7, 6] (fun i v wr => rgRel w.heap.size l us W0 i v wr) (fun i _ _ => us.length - (intOf i).toNat)
 case atStart => exact ⟨0, rfl, Nat.zero_le _, rfl, OwnL.nil _ _ _ _ _, .refl _ _⟩
 case round =>
  obtain ⟨k, rfl, hk, hin, ho, hB⟩ := hrel
  have r3 := cell_later hB q3
  by_cases hlt : k < us.length
  ·obtain ⟨b2, o2, rfl, -, qu, hzu⟩ := (hUH.out.below hB).str k hlt
   have vi := rIndex_any a c l us[k] wr (hH.out.below hB)
   cases hat : atN l us[k] with
   | none =>
    rw [ixN_none' hat] at vi
    have viH := Lib.hid vi
    have hfin := Lib.hid (show rGivRet l us w (.returned (.tuple #[.slice none 0 0, .bool false])) wr from ⟨bcall hBH.out hB, .inl ⟨inAll_bad hlt hat, rfl⟩⟩)
    clear hin ho hB hat vi
    generalize us[k] = u at *
    go_wp2_with fail
    refine viH.out.mono ?_
    rintro e w1 ⟨rfl, rfl⟩
    go_wp2_with fail
    go_ret2
    exact hfin.out
   | some j =>
    rw [ixN_some' hat] at vi
    have viH := Lib.hid vi
    obtain ⟨hj, -⟩ := atN_some hat
    obtain ⟨b, off, d1, e1, d2, e2, d3, e3, rfl, hbB', s0, s1, s2, s3, s4, -, -, hI, -, -⟩ := (hH.out.below hB).ent j hj
    have hjj : (j : Int) < (l.length : Int) := by omega
    have hj0 : ((j : Int) < 0) = False := eq_false (by omega)
    have hg := givF_take hlt hat hj
    have hin2 : inAll l (us.take (k + 1)) = true := by rw [inAll_take hlt, hin, hat]; rfl
    have hgl : (givF l (us.take k)).length ≤ 60 := by rw [givF_len, List.length_take]; omega
    have hszB := hBH.out.size
    obtain ⟨v', W', hrun, ho', hg2, -⟩ := OwnL.push (P := Tryz.prog) (t := 77) (ty := 77) ho Tryz.underlying77 infoTerm rfl (vs := [.slice d1 (eSays l[j]).length e1]) (x := eSays l[j])
     ⟨d1, e1, rfl, hI.weak (fun b hb => ⟨hb.2, fun e => by have := (OwnL.lt ho b e.symm).1; have := hb.2; omega⟩)⟩ (by omega) (by unfold big; omega) hB.size
    rw [← hg] at ho'
    have hfin := Lib.hid (show rgRel w.heap.size l us W0 (.int .i64 ((k : Int) + 1)) v' W' from ⟨k + 1, by simp, hlt, hin2, ho', hB.grown hg2 hB.size (fun j e => (OwnL.lt ho j e).1)⟩)
    clear hin ho hB hat hg hin2 ho' hg2 hI s0 s1 s3 s4 hgl vi hszB
    generalize us[k] = u at *
    generalize (eSays l[j]).length = n1 at *
    go_wp2_with fail
    refine viH.out.mono ?_
    rintro e w1 ⟨rfl, rfl⟩
    go_wp2_with (at_builtin; refine wpList_append_run rfl _ _ _ rfl rfl rfl hrun ?_)
    go_roundw
    case rel => exact hfin.out
    case measure => simp [intOf]; omega
  ·have hkk : ((k : Int) < (us.length : Int)) = False := eq_false (by omega)
   have hkl : k = us.length := by omega
   rw [hkl, List.take_length] at hin ho
   have hfin := Lib.hid (show ∀ v, OwnG w.heap.size wr W0.heap.size v (givF l us) → rGivRet l us w (.returned (.tuple #[v, .bool true])) wr from fun v hv => ⟨bcall hBH.out hB, .inr ⟨hin, v, rfl, OwnL.baseMono hv hBH.out.size⟩⟩)
   have hoH := Lib.hid ho
   clear hin ho hB hlt hk hkl
   go_wp2_with fail
   go_ret2
   exact hfin.out _ hoH.out
end Go.Proofs.YtpmnnoopoblpgaaGreat

/- Walks: Find, Missing of the reference. -/
namespace Go.Proofs.YtpmnnoopoblpgaaGreat
open Go Go.RowKit Go.Maps

set_option maxHeartbeats 1000000 in
theorem rFind_any {S1 S2 : Nat → Prop} (sa la : Option Addr) (sc lc : Nat) (s : Sg) (l : List Ent) (n : ByteArray) (w : World) (h1 : Sign S1 w sa sc s) (h2 : LibL S2 w la lc l) :
  Calls Tryz.prog 21 #[.slice sa s.length sc, .slice la l.length lc, .string n] w fun e w' => e = .returned (.tuple #[.int .i64 (findE s l n).1, .int .i64 (findE s l n).2]) ∧ Below w.heap.size w w' := by
 have v := rVld_any sa la sc lc s l w h1 h2
 have vi := fun W (hb : Below w.heap.size w W) => rIndex_any la lc l n W (h2.below hb)
 have vH := Lib.hid v
 have viH := Lib.hid vi
 clear v vi h1 h2
 cases hok : okLib s l with
 | false =>
  rw [hok] at vH
  have hf := Lib.hid (show findE s l n = (0, 1) by unfold findE; rw [hok]; rfl)
  clear hok
  go_enter Tryz.func21, Tryz.ntmps21
  go_wp2_with fail
  refine vH.out.mono ?_
  rintro e w1 ⟨rfl, hb⟩
  have hbH := Lib.hid hb
  clear hb
  go_wp2_with fail
  go_ret2
  rw [hf.out]
  exact ⟨rfl, hbH.out⟩
 | true =>
  rw [hok] at vH
  cases hat : atN l n with
  | none =>
   have hf := Lib.hid (show findE s l n = (0, 5) by unfold findE; rw [hok, hat]; rfl)
   have hix := Lib.hid (ixN_none' hat)
   clear hok hat
   go_enter Tryz.func21, Tryz.ntmps21
   go_wp2_with fail
   refine vH.out.mono ?_
   rintro e w1 ⟨rfl, hb⟩
   have vi1 := viH.out w1 hb
   rw [hix.out] at vi1
   have vi1H := Lib.hid vi1
   have hbH := Lib.hid hb
   clear hb vi1
   go_wp2_with fail
   refine vi1H.out.mono ?_
   rintro e w2 ⟨rfl, rfl⟩
   go_wp2_with fail
   go_ret2
   rw [hf.out]
   exact ⟨rfl, hbH.out⟩
  | some i =>
   have hf := Lib.hid (show findE s l n = ((i : Int), 0) by unfold findE; rw [hok, hat]; rfl)
   have hix := Lib.hid (ixN_some' hat)
   have hi0 : ((i : Int) < 0) = False := eq_false (by omega)
   clear hok hat
   go_enter Tryz.func21, Tryz.ntmps21
   go_wp2_with fail
   refine vH.out.mono ?_
   rintro e w1 ⟨rfl, hb⟩
   have vi1 := viH.out w1 hb
   rw [hix.out] at vi1
   have vi1H := Lib.hid vi1
   have hbH := Lib.hid hb
   clear hb vi1
   go_wp2_with fail
   refine vi1H.out.mono ?_
   rintro e w2 ⟨rfl, rfl⟩
   go_wp2_with fail
   go_ret2
   rw [hf.out]
   exact ⟨rfl, hbH.out⟩
end Go.Proofs.YtpmnnoopoblpgaaGreat

/- Walks: good. -/
namespace Go.Proofs.YtpmnnoopoblpgaaGreat
open Go Go.RowKit Go.Maps

theorem badB_fai (s : Sg) (l : List Ent) : badB s l = faiB s l := rfl
theorem strK_inv {v : Value} {kl : Lit} (h : keyOf Tryz.prog 9 v = some kl) : ∃ x : ByteArray, v = .string x := by
 obtain ⟨x, rfl, -, -⟩ := keyStr_inv h
 exact ⟨x, rfl⟩
noncomputable def goodL (s : Sg) (l : List Ent) (k : Nat) : List Bool := (List.range k).map (goodB s l)
theorem goodL_succ (s : Sg) (l : List Ent) (k : Nat) : goodL s l (k + 1) = goodL s l k ++ [goodB s l k] := by unfold goodL; rw [List.range_succ, List.map_append]; rfl
theorem goodL_len (s : Sg) (l : List Ent) (k : Nat) : (goodL s l k).length = k := by simp [goodL]
def gdRel (s : Sg) (l : List Ent) (w1 : World) (i v : Value) (wr : World) : Prop := ∃ k : Nat, i = .int .i64 k ∧ k ≤ l.length ∧ OwnB wr w1.heap.size v (goodL s l k) ∧ Below w1.heap.size w1 wr
def gd2Rel (f bad : ByteArray → Bool) (a0 : Bool) (D : DataW Unit) (ob r n : Nat) (w2 : World) (v : Value) (wr : World) : Prop :=
 ∃ (left : Lit → Bool) (cnt : Nat) (b : Bool), v = .bool b ∧ wr.ranges Tryz.prog 9 (plainElem Tryz.prog 4) ob r n D left cnt ∧ Below w2.heap.size w2 wr ∧
  (b = true ↔ a0 = true ∧ ∀ x : ByteArray, f x = true → left (.string (bs x)) = false → bad x = false)
theorem sameKey_str {x y : ByteArray} : (Lit.string (bs y)).sameKey (.string (bs x)) = decide (y = x) := by
 rw [Bool.eq_iff_iff, decide_eq_true_eq]
 simp only [Lit.sameKey, beq_iff_eq]
 constructor
 ·intro h; exact bs_inj h
 ·intro h; rw [h]
set_option maxRecDepth 100000 in
set_option maxHeartbeats 8000000 in
theorem good_any {B xb : Nat} {w : World} {s : Sg} {l : List Ent} (h : DLib B w xb s l) : Calls Tryz.prog 95 #[.pointer (some ⟨xb, 0, none⟩)] w (retB w (goodL s l l.length)) := by
 have vf := failing_any h
 have hl60 := (okLib_parts h.2.2.1).2.1
 have vfH := Lib.hid vf
 have hH := Lib.hid h
 clear vf h
 go_enter Tryz.func95, Tryz.ntmps95
 go_wp2_with fail
 refine vfH.out.mono ?_
 rintro e w1 ⟨ob, M0, m0, rfl, hob, hM0, hm0, hS0, hb1⟩
 obtain ⟨sa, sc, la, lc, bm, hO⟩ := (hH.out.call hb1).op
 have ml := hO.hL.le
 have q1 := hO.q1
 have hOH := Lib.hid hO
 have hS0H := Lib.hid hS0
 have hb1H := Lib.hid hb1
 have hoblt := hS0.lt
 clear hO hS0 hb1 hm0
 go_wp2_with fail
 go_loopw [16, 4] (fun i v wr => gdRel s l w1 i v wr) (fun i _ _ => l.length - (intOf i).toNat)
 case atStart => exact ⟨0, rfl, Nat.zero_le _, OwnL.nil _ _ _ _ _, .refl _ _⟩
 case round =>
  obtain ⟨k, rfl, hk, hOw, hB⟩ := hrel
  by_cases hlt : k < l.length
  ·have hD := (hH.out.call hb1H.out).call hB
   obtain ⟨b, off, a1, c1, a2, c2, a3, c3, rfl, hbB, p0, p1, p2, p3, p4, z1, z2, hI, hU, hP⟩ := (hOH.out.call hB).hL.ent k hlt
   obtain ⟨W, hW⟩ : ∃ W, wr.alloc (.cells #[.string (eNm l[k]), .string (eBy l[k]), .slice a1 (eSays l[k]).length c1, .slice a2 (eUses l[k]).length c2, .slice a3 (ePf l[k]).length c3] 37) = W := ⟨_, rfl⟩
   have hBW : Below wr.heap.size wr W := by rw [← hW]; exact below1 wr _
   have q0 : W.cell? ⟨wr.heap.size, 0, none⟩ = some (.string (eNm l[k])) := by rw [← hW]; clear hW; go_simp
   have hSW := ((hS0H.out.below hB hoblt).below hBW (hS0H.out.below hB hoblt).lt)
   have hlk := hSW.look (tm := 88) Tryz.underlying88 Tryz.underlying9 Tryz.underlying4 (zBool W) (eNm l[k]) (big_max z1)
   have vl := leans_any (hD.call hBW) (eNm l[k]) z1
   unfold RchRet at vl
   have hgB : goodB s l k = true ↔ faiB s l (eNm l[k]) = false ∧ ∀ x, rchB l (fun _ => true) (eNm l[k]) x = true → faiB s l x = false := by
    have := goodB_iff (s := s) (l := l) (i := k)
    rw [nmI_at hlt, badB_fai] at this
    exact this
   rw [← hW] at hlk
   have hgl := goodL_succ s l k
   have hgn := goodL_len s l k
   have hOW := OwnL.call hOw hBW
   have vlH := Lib.hid vl
   have hgBH := Lib.hid hgB
   have hglH := Lib.hid hgl
   have hOWH := Lib.hid hOW
   have hSWH := Lib.hid hSW
   have hBWH := Lib.hid (bcall hB hBW)
   have hWH := Lib.hid hW
   have hgnH := Lib.hid hgn
   clear vl hgB hgl hOW hOw hSW hB hBW hI hU hP hD z2 hW hgn
   generalize eNm l[k] = nm at *
   generalize eBy l[k] = bn at *
   generalize (eSays l[k]).length = n1 at *
   generalize (eUses l[k]).length = n2 at *
   generalize (ePf l[k]).length = n3 at *
   obtain ⟨g, hg⟩ : ∃ g, goodB s l k = g := ⟨_, rfl⟩
   rw [hg] at hgBH hglH
   clear hg
   obtain ⟨bad, hbad⟩ : ∃ bad, faiB s l = bad := ⟨_, rfl⟩
   rw [hbad] at hgBH hSWH hlk
   obtain ⟨rc, hrc⟩ : ∃ rc, rchB l (fun _ => true) nm = rc := ⟨_, rfl⟩
   rw [hrc] at hgBH vlH
   clear hrc hbad
   go_wp2_with fail
   rw [hWH.out]
   refine vlH.out.mono ?_
   rintro e w2 ⟨ob2, m2, rfl, hob2, hm2, hS2, hb2⟩
   obtain ⟨D, hown, hty, hsz, hf⟩ := hS2
   have hb2H := Lib.hid hb2
   have hob2lt := hown.lt
   clear hb2 hty hsz
   go_wp2_with (at_range; refine wpList_range_own _ rfl _ 88 rfl 9 4 (string_keyed Tryz.underlying9) Tryz.underlying88 _ ob2 m2 D rfl hown ?_; intro w3 hrg0 hg0 hs0)
   go_frame
   have hst := Lib.hid (show gd2Rel rc bad (!bad nm) D ob2 w2.heap.size m2 w2 (.bool (!bad nm)) w3 from ⟨_, _, _, rfl, hrg0, (Below.refl w2.heap.size w2).grown hg0 (Nat.le_refl _) (fun j e => by cases e), by
    constructor
    ·intro h; exact ⟨h, fun x hx hl => by rw [(hf x).1, hx] at hl; cases hl⟩
    ·intro h; exact h.1⟩)
   clear hrg0 hg0 hs0 hown
   go_loopw [7] (fun v wr => gd2Rel rc bad (!bad nm) D ob2 w2.heap.size m2 w2 v wr) (fun _ wr => wr.rangeLeft ob2 w2.heap.size)
   case atStart => exact hst.out
   case round =>
    obtain ⟨left, cnt, bb, rfl, hrg, hBr, hiff⟩ := hrel
    have hiffH := Lib.hid hiff
    have hBrH := Lib.hid hBr
    clear hiff hBr
    go_wp2_with (at_next; refine wpList_next_ranges _ rfl _ rfl 9 (string_keyed Tryz.underlying9) (plainElem Tryz.prog 4) (fun x : ByteArray => .string x) (fun v : Value => v) (fun _ _ h => strK_inv h) (fun v _ _ => ⟨v, rfl⟩) ob2 w2.heap.size m2 D left cnt rfl hrg ?_ ?_)
    ·intro hc0 hl0
     have hbb : bb = g := by
      rw [Bool.eq_iff_iff, hiffH.out, hgBH.out]
      constructor
      ·rintro ⟨h1, h2⟩; exact ⟨by simpa using h1, fun x hx => h2 x hx (hl0 _)⟩
      ·rintro ⟨h1, h2⟩; exact ⟨by simpa using h1, fun x hx _ => h2 x hx⟩
     have hBn := bcall hBWH.out (bcall hb2H.out hBrH.out)
     have hln := hgnH.out
     obtain ⟨v', W', hrun, ho, hgr, -⟩ := OwnL.push (P := Tryz.prog) (t := 94) (ty := 94) (OwnL.call hOWH.out (bcall hb2H.out hBrH.out)) Tryz.underlying94 infoBool rfl (vs := [.bool bb]) (x := bb) rfl (by omega) (by unfold big; omega) hBn.size
     rw [hbb, ← hglH.out] at ho
     have hfin := Lib.hid (show gdRel s l w1 (.int .i64 ((k : Int) + 1)) v' W' from ⟨k + 1, by simp, hlt, ho, hBn.grown hgr hBn.size (fun j e => (OwnL.lt (OwnL.call hOWH.out (bcall hb2H.out hBrH.out)) j e).1)⟩)
     clear hbb ho hgr hBn hrg hl0 hc0 hln hlk
     go_wp2_with (at_builtin; refine wpList_append_run rfl _ _ _ rfl rfl rfl hrun ?_)
     go_roundw
     case rel => exact hfin.out
     case measure => simp [intOf]; omega
    ·intro x c kl ya yb w4 cnt' hkey hlx hv hat hrg' hlt' hg' hs' hen
     obtain ⟨x', hx1, hkl, hx2⟩ := keyStr_inv hkey
     injection hx1 with hx1
     subst hx1
     subst hkl
     have hB4 := hBrH.out.grown hg' hBrH.out.size (fun j e => by injection e with e; omega)
     have hSx := (hSWH.out.below hb2H.out hSWH.out.lt).below hB4 (hSWH.out.below hb2H.out hSWH.out.lt).lt
     have hlk2 := hSx.look (tm := 88) Tryz.underlying88 Tryz.underlying9 Tryz.underlying4 (zBool w4) x (big_max hx2)
     have hmeas := Lib.hid (show w4.rangeLeft ob2 w2.heap.size < wr.rangeLeft ob2 w2.heap.size by rw [hrg'.left_eq, hrg.left_eq]; exact hlt')
     have hfx : rc x = true := by
      have h1 := (hf x).1
      obtain ⟨es, clock, since, seen, c0, g1, g2, g3, g4, g5, g6, g7, g8, g9, -⟩ := hrg
      obtain ⟨en, he1, he2⟩ := g9 _ hlx
      have : has D (.string (bs x)) = true := by
       rw [g4]
       refine List.any_eq_true.2 ⟨_, mem_sorted.2 (List.mem_map.2 ⟨en, he1, rfl⟩), ?_⟩
       rw [he2]
       exact WideAt.sameKey_self (isKey_string _)
      rw [← h1]; exact this
     have hfin := Lib.hid (show ∀ nb : Bool, nb = (bb && !bad x) → gd2Rel rc bad (!bad nm) D ob2 w2.heap.size m2 w2 (.bool nb) w4 from fun nb hnb => ⟨_, cnt', nb, rfl, hrg', hB4, by
      rw [hnb, Bool.and_eq_true, hiffH.out]
      constructor
      ·rintro ⟨⟨h1, h2⟩, h3⟩
       refine ⟨h1, fun z hz hl => ?_⟩
       rw [Bool.and_eq_false_iff] at hl
       rcases hl with hl | hl
       ·exact h2 z hz hl
       ·rw [sameKey_str] at hl
        have : z = x := by simpa using hl
        rw [this]; simpa using h3
      ·rintro ⟨h1, h2⟩
       refine ⟨⟨h1, fun z hz hl => h2 z hz (by rw [hl]; rfl)⟩, ?_⟩
       have := h2 x hfx (by rw [sameKey_str]; simp)
       rw [this]; rfl⟩)
     clear hrg hrg' hlt' hg' hs' hat hv hkey hlx hB4 hSx hfx
     generalize bad x = bx at *
     cases bb with
     | false =>
      go_wp2_with fail
      go_roundw
      case rel => exact hfin.out _ (by simp)
      case measure => exact hmeas.out
     | true =>
      go_wp2_with fail
      go_roundw
      case rel => exact hfin.out _ (by simp)
      case measure => exact hmeas.out
  ·have hkk : ((k : Int) < (l.length : Int)) = False := eq_false (by omega)
   have hkl : k = l.length := by omega
   rw [hkl] at hOw
   have hfin := Lib.hid (show ∀ v, OwnB wr w1.heap.size v (goodL s l l.length) → retB w (goodL s l l.length) (.returned v) wr from fun v hv => ⟨v, rfl, OwnL.baseMono hv hb1H.out.size, bcall hb1H.out hB⟩)
   have hOH2 := Lib.hid hOw
   clear hOw hB hlt hk hkl
   go_wp2_with fail
   go_ret
   exact hfin.out _ hOH2.out
end Go.Proofs.YtpmnnoopoblpgaaGreat

/- Walks: Failing, Shaken, Holds, Strongest. -/
namespace Go.Proofs.YtpmnnoopoblpgaaGreat
open Go Go.RowKit Go.Maps

theorem fai1_fn {B xb b1 : Nat} {w : World} {s : Sg} {l : List Ent} (h : DLib B w xb s l) (hb1 : b1 < B) (hc1 : w.cell? ⟨b1, 0, none⟩ = some (.pointer (some ⟨xb, 0, none⟩))) :
  IxFn 88 #[.pointer (some ⟨b1, 0, none⟩)] l.length (fun i => !holdX s l i) B w := by
 refine ⟨enters_of Tryz.func88 (by kernel_rfl) rfl, fun i hi W hB => ?_⟩
 have q1 := (hB.cell (p := ⟨b1, 0, none⟩) hb1).trans hc1
 have v1 := holds_call h i hi W hB
 obtain ⟨r, hr⟩ : ∃ r, holdX s l i = r := ⟨_, rfl⟩
 rw [hr] at v1
 have v1H := Lib.hid v1
 have hrH := Lib.hid hr
 clear v1 hB h hc1 hr
 go_enter Tryz.func88, Tryz.ntmps88
 go_wp2_with fail
 refine v1H.out.mono ?_
 rintro e w1 ⟨rfl, hb⟩
 have hbH := Lib.hid hb
 clear hb
 go_wp2_with fail
 go_ret
 exact ⟨ret_bool (show (!r) = (!holdX s l i) by rw [hrH.out]), hbH.out⟩
noncomputable def failE (s : Sg) (l : List Ent) : (ByteArray → Bool) × Int := if okLib s l = true then (chB l (fun i => !holdX s l i), 0) else (fun _ => false, 1)
set_option maxHeartbeats 1000000 in
theorem Failing_any {S1 S2 : Nat → Prop} (sa la : Option Addr) (sc lc : Nat) (s : Sg) (l : List Ent) (w : World) (h1 : Sign S1 w sa sc s) (h2 : LibL S2 w la lc l) (hl : l.length ≤ 1000) :
  Calls Tryz.prog 30 #[.slice sa s.length sc, .slice la l.length lc] w (NamesRet (failE s l).1 (failE s l).2 w) := by
 have v := open_any sa la sc lc s l w h1 h2 hl
 have m := h2.le
 have m1 := h1.le
 obtain ⟨r, hr⟩ : ∃ r, failE s l = r := ⟨_, rfl⟩
 rw [hr]
 have vH := Lib.hid v
 have hrH := Lib.hid hr
 clear v h1 h2 hr
 go_enter Tryz.func30, Tryz.ntmps30
 go_wp2_with fail
 refine vH.out.mono ?_
 rintro e w1 ⟨hb, h⟩
 rcases h with ⟨hok, rfl⟩ | ⟨hok, xb, hxb, rfl, hD⟩
 ·have hf : failE s l = (fun _ => false, 1) := by unfold failE; rw [hok]; rfl
  have hfH := Lib.hid (hrH.out.symm.trans hf)
  have hbH := Lib.hid (bcall hb (below1 w1 (.cells #[.pointer none] 61)))
  clear hb hok vH hf
  go_wp2_with fail
  go_ret2
  rw [hfH.out]
  exact NamesRet.nil hbH.out
 ·obtain ⟨W, hW⟩ : ∃ W, w1.alloc (.cells #[.pointer (some ⟨xb, 0, none⟩)] 61) = W := ⟨_, rfl⟩
  have hBW : Below w1.heap.size w1 W := by rw [← hW]; exact below1 w1 _
  have q0 : W.cell? ⟨w1.heap.size, 0, none⟩ = some (.pointer (some ⟨xb, 0, none⟩)) := by rw [← hW]; clear hW; go_simp
  have hws : w1.heap.size < W.heap.size := by rw [← hW]; simp
  have hDW := (hD.call hBW).mono (hD.call hBW).1 (Nat.le_refl W.heap.size)
  have vc := chosen_any hDW (fai1_fn hDW hws q0)
  have hf : failE s l = (chB l (fun i => !holdX s l i), 0) := by unfold failE; rw [hok]; rfl
  have hfH := Lib.hid (hrH.out.symm.trans hf)
  have hbH := Lib.hid (bcall hb hBW)
  have vcH := Lib.hid vc
  clear hb hok vH hf hxb hD hDW vc hBW hws
  go_wp2_with fail
  try rw [hW]
  refine vcH.out.mono ?_
  rintro e w2 hso
  obtain ⟨v, rfl, hN⟩ := hso.names hbH.out
  have hNH := Lib.hid (hN 0)
  clear hN hso
  go_wp2_with fail
  go_ret2
  rw [hfH.out]
  exact hNH.out
theorem goodL_getD {s : Sg} {l : List Ent} {i : Nat} (hi : i < l.length) : ∃ h : i < (goodL s l l.length).length, (goodL s l l.length)[i] = goodB s l i := by
 refine ⟨by rw [goodL_len]; exact hi, ?_⟩
 unfold goodL
 rw [List.getElem_map, List.getElem_range]
theorem shk1_fn {B xb b1 b2 : Nat} {w : World} {s : Sg} {l : List Ent} {ag : Option Addr} {cg : Nat} (h : DLib B w xb s l) (hb1 : b1 < B) (hb2 : b2 < B) (hc1 : w.cell? ⟨b1, 0, none⟩ = some (.pointer (some ⟨xb, 0, none⟩)))
  (hc2 : w.cell? ⟨b2, 0, none⟩ = some (.slice ag l.length cg)) (hg : Sl boolE (fun b => b < B) w ag cg (goodL s l l.length)) :
  IxFn 96 #[.pointer (some ⟨b1, 0, none⟩), .pointer (some ⟨b2, 0, none⟩)] l.length (fun i => holdX s l i && !goodB s l i) B w := by
 refine ⟨enters_of Tryz.func96 (by kernel_rfl) rfl, fun i hi W hB => ?_⟩
 have q1 := (hB.cell (p := ⟨b1, 0, none⟩) hb1).trans hc1
 have q2 := (hB.cell (p := ⟨b2, 0, none⟩) hb2).trans hc2
 have v1 := holds_call h i hi W hB
 obtain ⟨hil, hge⟩ := goodL_getD (s := s) hi
 obtain ⟨gb, go, rfl, hgb, hgc⟩ := hg.bool i hil
 rw [hge] at hgc
 have q3 := (hB.cell (p := ⟨gb, go + i, none⟩) hgb).trans hgc
 have hii : (i : Int) < (l.length : Int) := by omega
 obtain ⟨r, hr⟩ : ∃ r, holdX s l i = r := ⟨_, rfl⟩
 rw [hr] at v1
 have hrH := Lib.hid hr
 obtain ⟨g, hgg⟩ : ∃ g, goodB s l i = g := ⟨_, rfl⟩
 rw [hgg] at q3
 have hggH := Lib.hid hgg
 have v1H := Lib.hid v1
 clear v1 hB h hc1 hc2 hg hgc hge hil hgb hr hgg
 cases r with
 | false =>
  go_enter Tryz.func96, Tryz.ntmps96
  go_wp2_with fail
  refine v1H.out.mono ?_
  rintro e w1 ⟨rfl, hb⟩
  have hbH := Lib.hid hb
  clear hb
  go_wp2_with fail
  go_ret
  exact ⟨ret_bool (show false = (holdX s l i && !goodB s l i) by rw [hrH.out]; rfl), hbH.out⟩
 | true =>
  go_enter Tryz.func96, Tryz.ntmps96
  go_wp2_with fail
  refine v1H.out.mono ?_
  rintro e w1 ⟨rfl, hb⟩
  have r2 := cell_later hb q2
  have r3 := cell_later hb q3
  have hbH := Lib.hid hb
  clear hb
  go_wp2_with fail
  go_ret
  exact ⟨ret_bool (show (!g) = (holdX s l i && !goodB s l i) by rw [hrH.out, hggH.out]; rfl), hbH.out⟩
noncomputable def shakE (s : Sg) (l : List Ent) : (ByteArray → Bool) × Int := if okLib s l = true then (chB l (fun i => holdX s l i && !goodB s l i), 0) else (fun _ => false, 1)
set_option maxHeartbeats 1000000 in
theorem Shaken_any {S1 S2 : Nat → Prop} (sa la : Option Addr) (sc lc : Nat) (s : Sg) (l : List Ent) (w : World) (h1 : Sign S1 w sa sc s) (h2 : LibL S2 w la lc l) (hl : l.length ≤ 1000) :
  Calls Tryz.prog 34 #[.slice sa s.length sc, .slice la l.length lc] w (NamesRet (shakE s l).1 (shakE s l).2 w) := by
 have v := open_any sa la sc lc s l w h1 h2 hl
 have m := h2.le
 have m1 := h1.le
 obtain ⟨r, hr⟩ : ∃ r, shakE s l = r := ⟨_, rfl⟩
 rw [hr]
 have vH := Lib.hid v
 have hrH := Lib.hid hr
 clear v h1 h2 hr
 go_enter Tryz.func34, Tryz.ntmps34
 go_wp2_with fail
 refine vH.out.mono ?_
 rintro e w1 ⟨hb, h⟩
 rcases h with ⟨hok, rfl⟩ | ⟨hok, xb, hxb, rfl, hD⟩
 ·have hf : shakE s l = (fun _ => false, 1) := by unfold shakE; rw [hok]; rfl
  have hfH := Lib.hid (hrH.out.symm.trans hf)
  have hbH := Lib.hid (bcall hb (below1 w1 (.cells #[.pointer none] 61)))
  clear hb hok vH hf
  go_wp2_with fail
  go_ret2
  rw [hfH.out]
  exact NamesRet.nil hbH.out
 ·obtain ⟨W, hW⟩ : ∃ W, w1.alloc (.cells #[.pointer (some ⟨xb, 0, none⟩)] 61) = W := ⟨_, rfl⟩
  have hBW : Below w1.heap.size w1 W := by rw [← hW]; exact below1 w1 _
  have q0 : W.cell? ⟨w1.heap.size, 0, none⟩ = some (.pointer (some ⟨xb, 0, none⟩)) := by rw [← hW]; clear hW; go_simp
  have hws : w1.heap.size < W.heap.size := by rw [← hW]; simp
  have hDW := hD.call hBW
  have vg := good_any hDW
  have hf : shakE s l = (chB l (fun i => holdX s l i && !goodB s l i), 0) := by unfold shakE; rw [hok]; rfl
  have hfH := Lib.hid (hrH.out.symm.trans hf)
  have hbH := Lib.hid (bcall hb hBW)
  have vgH := Lib.hid vg
  have hDH := Lib.hid hDW
  have hwsH := Lib.hid hws
  clear hb hok vH hf hxb hD hDW vg hBW hws
  go_wp2_with fail
  try rw [hW]
  refine vgH.out.mono ?_
  rintro e w2 ⟨v, rfl, hO, hb2⟩
  obtain ⟨ag, cg, rfl, hS⟩ := OwnB.bools hO
  rw [goodL_len] at *
  obtain ⟨W2, hW2⟩ : ∃ W2, w2.alloc (.cells #[.slice ag l.length cg] 94) = W2 := ⟨_, rfl⟩
  have hBW2 : Below w2.heap.size w2 W2 := by rw [← hW2]; exact below1 w2 _
  have r0 := cell_later hb2 q0
  have r0' := cell_later hBW2 r0
  have r1 : W2.cell? ⟨w2.heap.size, 0, none⟩ = some (.slice ag l.length cg) := by rw [← hW2]; clear hW2; go_simp
  have hws2 : w2.heap.size < W2.heap.size := by rw [← hW2]; simp
  have hD2 := ((hDH.out.call hb2).call hBW2)
  have hD2' := hD2.mono hD2.1 (Nat.le_refl W2.heap.size)
  have vc := chosen_any hD2' (shk1_fn hD2' (Nat.lt_trans (Nat.lt_of_lt_of_le hwsH.out hb2.size) hws2) hws2 r0' r1 (((hS.lt.below hBW2).weak (fun b hb => Nat.lt_trans hb.2 hws2))))
  have hb3H := Lib.hid (bcall hbH.out (bcall hb2 hBW2))
  have vcH := Lib.hid vc
  clear vc hD2 hD2' hws2 hBW2 hb2 hS hO q0
  go_wp2_with fail
  try rw [hW2]
  refine vcH.out.mono ?_
  rintro e w3 hso
  obtain ⟨v, rfl, hN⟩ := hso.names hb3H.out
  have hNH := Lib.hid (hN 0)
  clear hN hso
  go_wp2_with fail
  go_ret2
  rw [hfH.out]
  exact hNH.out
end Go.Proofs.YtpmnnoopoblpgaaGreat

/- Walks: axiom, holds, holding, opposite, chosen, Failing of the reference. -/
namespace Go.Proofs.YtpmnnoopoblpgaaGreat
open Go Go.RowKit Go.Maps

theorem raxiom_any (a1 a2 a3 : Option Addr) (c1 c2 c3 n1 n2 : Nat) (nm bn : ByteArray) (n3 : Nat) (w : World) :
  Calls Tryz.prog 99 #[entV nm bn n1 n2 n3 a1 a2 a3 c1 c2 c3] w fun e w' => e = .returned (.bool ((n3 : Int) == 0)) ∧ Below w.heap.size w w' := by
 obtain ⟨W, hW⟩ : ∃ W, w.alloc (.cells #[.string nm, .string bn, .slice a1 n1 c1, .slice a2 n2 c2, .slice a3 n3 c3] 37) = W := ⟨_, rfl⟩
 have hB := Lib.hid (show Below w.heap.size w W by rw [← hW]; exact below1 w _)
 have q4 : W.cell? ⟨w.heap.size, 4, none⟩ = some (.slice a3 n3 c3) := by rw [← hW]; clear hW; go_simp
 go_enter Tryz.func99, Tryz.ntmps99
 go_wp2_with fail
 go_ret
 try rw [hW]
 exact ⟨rfl, hB.out⟩
theorem pf_len {p : List Stp} : decide (p = []) = ((p.length : Int) == 0) := by rw [Bool.eq_iff_iff, decide_eq_true_eq, beq_iff_eq, ← List.length_eq_zero_iff]; omega
set_option maxRecDepth 100000 in
set_option maxHeartbeats 8000000 in
theorem rholds_any {S1 S2 : Nat → Prop} (sa la : Option Addr) (sc lc : Nat) (s : Sg) (l : List Ent) (w : World) (h1 : Sign S1 w sa sc s) (h2 : LibL S2 w la lc l) (hok : okLib s l = true) (i : Nat) (hi : i < l.length) :
  Calls Tryz.prog 87 #[.slice sa s.length sc, .slice la l.length lc, .int .i64 i] w fun e w' => e = .returned (.bool (holdX s l i)) ∧ Below w.heap.size w w' := by
 have m := h2.le
 have m1 := h1.le
 have hp := okLib_parts hok
 obtain ⟨b, off, a1, c1, a2, c2, a3, c3, rfl, -, p0, p1, p2, p3, p4, z1, z2, hI, hU, hP⟩ := h2.ent i hi
 have hu12 := (okLib_uses hok (List.getElem_mem hi)).1
 have vg := rGivens_any (some ⟨b, off, none⟩) lc l (eUses l[i]) (eNm l[i]) (eBy l[i]) (eSays l[i]).length (ePf l[i]).length a1 a2 a3 c1 c2 c3 w h2 hU (by omega)
 have href := hold_ref (s := s) hp.2.2.1 hi
 rw [pf_len] at href
 have hii : (i : Int) < (l.length : Int) := by omega
 have hm3 := hP.le
 have va0 := fun W => raxiom_any a1 a2 a3 c1 c2 c3 (eSays l[i]).length (eUses l[i]).length (eNm l[i]) (eBy l[i]) (ePf l[i]).length W
 have hgl := givF_len l (eUses l[i])
 have vgH := Lib.hid vg
 have hrefH := Lib.hid href
 have h1H := Lib.hid h1
 have hPH := Lib.hid hP
 have hIH := Lib.hid hI
 have va0H := Lib.hid va0
 have hgH := Lib.hid (show (givF l (eUses l[i])).length ≤ 60 by rw [hgl]; omega)
 clear vg href h1 hp hu12 z1 z2 hI hU hP va0 hgl
 generalize holdX s l i = HX at *
 generalize eNm l[i] = nm at *
 generalize eBy l[i] = bn at *
 generalize eUses l[i] = us at *
 generalize ePf l[i] = pf at *
 generalize eSays l[i] = t at *
 generalize hn1 : t.length = n1 at *
 generalize us.length = n2 at *
 generalize hn3 : pf.length = n3 at *
 have hn1H := Lib.hid hn1
 have hn3H := Lib.hid hn3
 clear hn1 hn3
 go_enter Tryz.func87, Tryz.ntmps87
 go_wp2_with fail
 refine vgH.out.mono ?_
 rintro e w1 ⟨hb1, hg⟩
 have hbd : Below w1.heap.size w1 w1.drew := Below.drew (.refl _ _)
 have hbx := hb1.mono (Nat.le_refl _)
 have hS0 := (⟨cell_later (bcall hb1 hbd) p0, cell_later (bcall hb1 hbd) p1, cell_later (bcall hb1 hbd) p2, cell_later (bcall hb1 hbd) p3, cell_later (bcall hb1 hbd) p4⟩ : w1.drew.cell? ⟨b, off + i * 5, none⟩ = some (.string nm) ∧ w1.drew.cell? ⟨b, off + i * 5 + 1, none⟩ = some (.string bn) ∧ w1.drew.cell? ⟨b, off + i * 5 + 2, none⟩ = some (.slice a1 n1 c1) ∧ w1.drew.cell? ⟨b, off + i * 5 + 3, none⟩ = some (.slice a2 n2 c2) ∧ w1.drew.cell? ⟨b, off + i * 5 + 4, none⟩ = some (.slice a3 n3 c3))
 have hbGH := Lib.hid hb1
 clear p0 p1 p2 p3 p4 hbx
 have vaH := Lib.hid (fun W (_ : Below w1.heap.size w1 W) => va0H.out W)
 cases hz : ((n3 : Int) == 0) with
 | true =>
  simp only [hz] at vaH
  have hf := Lib.hid (show true = HX by have := hrefH.out; rw [hz, Bool.true_or] at this; exact this)
  rcases hg with ⟨hin, rfl⟩ | ⟨hin, v, rfl, ho⟩
  ·clear hb1 hin hz
   go_wp2_with fail
   refine wp_region_held_drew (S := fun w' => w'.cell? ⟨b, off + i * 5, none⟩ = some (.string nm) ∧ w'.cell? ⟨b, off + i * 5 + 1, none⟩ = some (.string bn) ∧ w'.cell? ⟨b, off + i * 5 + 2, none⟩ = some (.slice a1 n1 c1) ∧ w'.cell? ⟨b, off + i * 5 + 3, none⟩ = some (.slice a2 n2 c2) ∧ w'.cell? ⟨b, off + i * 5 + 4, none⟩ = some (.slice a3 n3 c3)) (by kernel_rfl) hS0 (fun hS => ?_)
   refine rtk 0 18 (v := ?_) hS ?_ ?_; rotate_left; · (intro w9 hS9; obtain ⟨z0, z1, z2, z3, z4⟩ := hS9; go_simp; try (with_reducible rfl))
   refine rtk 1 19 (v := ?_) hS ?_ ?_; rotate_left; · (intro w9 hS9; obtain ⟨z0, z1, z2, z3, z4⟩ := hS9; go_simp; try (with_reducible rfl))
   refine rtk 2 20 (v := ?_) hS ?_ ?_; rotate_left; · (intro w9 hS9; obtain ⟨z0, z1, z2, z3, z4⟩ := hS9; go_simp; try (with_reducible rfl))
   refine rtk 3 21 (v := ?_) hS ?_ ?_; rotate_left; · (intro w9 hS9; obtain ⟨z0, z1, z2, z3, z4⟩ := hS9; go_simp; try (with_reducible rfl))
   refine region_call 4 rfl (by kernel_rfl) (fun K hK => ?_)
   go_simp
   (with_reducible refine (vaH.out _ hbd).mono ?_)
   rintro e w5 ⟨rfl, hb5⟩
   go_simp
   refine hK.out _ _ ⟨cell_later hb5 hS.1, cell_later hb5 hS.2.1, cell_later hb5 hS.2.2.1, cell_later hb5 hS.2.2.2.1, cell_later hb5 hS.2.2.2.2⟩ ?_
   clear hK hS K
   intro hS
   try simp only [Act.put, List.setIfInBounds_toArray, List.set_cons_zero, List.set_cons_succ]
   have hb5H := Lib.hid (bcall hbd hb5)
   clear hb5
   refine rtk 5 23 (v := ?_) hS ?_ ?_; rotate_left; · (intro w9 hS9; obtain ⟨z0, z1, z2, z3, z4⟩ := hS9; go_simp; try (with_reducible rfl))
   refine rsk 6 24 hS ?_
   refine rsk 7 25 hS ?_
   refine rsk 8 26 hS ?_
   refine rsk 9 27 hS ?_
   refine rsk 10 28 hS ?_
   refine rsk 11 29 hS ?_
   refine rsk 12 30 hS ?_
   refine rsk 13 31 hS ?_
   refine rsk 14 32 hS ?_
   refine rsk 15 33 hS ?_
   refine rsk 16 34 hS ?_
   refine rsk 17 35 hS ?_
   refine rsk 18 36 hS ?_
   refine rsk 19 37 hS ?_
   refine rsk 20 38 hS ?_
   refine rsk 21 39 hS ?_
   refine rtk 22 40 (v := ?_) hS ?_ ?_; rotate_left; · (intro w9 hS9; obtain ⟨z0, z1, z2, z3, z4⟩ := hS9; go_simp; try (with_reducible rfl))
   refine rtk 23 6 (v := ?_) hS ?_ ?_; rotate_left; · (intro w9 hS9; obtain ⟨z0, z1, z2, z3, z4⟩ := hS9; go_simp; try (with_reducible rfl))
   refine wpAnyH_done (by kernel_rfl) ?_ _
   clear hS
   go_wp2_with fail
   go_ret
   exact ⟨ret_bool hf.out, bcall hbGH.out hb5H.out⟩
  ·obtain ⟨ag, cg, rfl, hT⟩ := OwnL.sl ho
   clear hb1 hin hz ho hT
   have hgm := hgH.out
   generalize (givF l us).length = ng at *
   go_wp2_with fail
   refine wp_region_held_drew (S := fun w' => w'.cell? ⟨b, off + i * 5, none⟩ = some (.string nm) ∧ w'.cell? ⟨b, off + i * 5 + 1, none⟩ = some (.string bn) ∧ w'.cell? ⟨b, off + i * 5 + 2, none⟩ = some (.slice a1 n1 c1) ∧ w'.cell? ⟨b, off + i * 5 + 3, none⟩ = some (.slice a2 n2 c2) ∧ w'.cell? ⟨b, off + i * 5 + 4, none⟩ = some (.slice a3 n3 c3)) (by kernel_rfl) hS0 (fun hS => ?_)
   refine rtk 0 18 (v := ?_) hS ?_ ?_; rotate_left; · (intro w9 hS9; obtain ⟨z0, z1, z2, z3, z4⟩ := hS9; go_simp; try (with_reducible rfl))
   refine rtk 1 19 (v := ?_) hS ?_ ?_; rotate_left; · (intro w9 hS9; obtain ⟨z0, z1, z2, z3, z4⟩ := hS9; go_simp; try (with_reducible rfl))
   refine rtk 2 20 (v := ?_) hS ?_ ?_; rotate_left; · (intro w9 hS9; obtain ⟨z0, z1, z2, z3, z4⟩ := hS9; go_simp; try (with_reducible rfl))
   refine rtk 3 21 (v := ?_) hS ?_ ?_; rotate_left; · (intro w9 hS9; obtain ⟨z0, z1, z2, z3, z4⟩ := hS9; go_simp; try (with_reducible rfl))
   refine region_call 4 rfl (by kernel_rfl) (fun K hK => ?_)
   go_simp
   (with_reducible refine (vaH.out _ hbd).mono ?_)
   rintro e w5 ⟨rfl, hb5⟩
   go_simp
   refine hK.out _ _ ⟨cell_later hb5 hS.1, cell_later hb5 hS.2.1, cell_later hb5 hS.2.2.1, cell_later hb5 hS.2.2.2.1, cell_later hb5 hS.2.2.2.2⟩ ?_
   clear hK hS K
   intro hS
   try simp only [Act.put, List.setIfInBounds_toArray, List.set_cons_zero, List.set_cons_succ]
   have hb5H := Lib.hid (bcall hbd hb5)
   clear hb5
   refine rtk 5 23 (v := ?_) hS ?_ ?_; rotate_left; · (intro w9 hS9; obtain ⟨z0, z1, z2, z3, z4⟩ := hS9; go_simp; try (with_reducible rfl))
   refine rsk 6 24 hS ?_
   refine rsk 7 25 hS ?_
   refine rsk 8 26 hS ?_
   refine rsk 9 27 hS ?_
   refine rsk 10 28 hS ?_
   refine rsk 11 29 hS ?_
   refine rsk 12 30 hS ?_
   refine rsk 13 31 hS ?_
   refine rsk 14 32 hS ?_
   refine rsk 15 33 hS ?_
   refine rsk 16 34 hS ?_
   refine rsk 17 35 hS ?_
   refine rsk 18 36 hS ?_
   refine rsk 19 37 hS ?_
   refine rsk 20 38 hS ?_
   refine rsk 21 39 hS ?_
   refine rtk 22 40 (v := ?_) hS ?_ ?_; rotate_left; · (intro w9 hS9; obtain ⟨z0, z1, z2, z3, z4⟩ := hS9; go_simp; try (with_reducible rfl))
   refine rtk 23 6 (v := ?_) hS ?_ ?_; rotate_left; · (intro w9 hS9; obtain ⟨z0, z1, z2, z3, z4⟩ := hS9; go_simp; try (with_reducible rfl))
   refine wpAnyH_done (by kernel_rfl) ?_ _
   clear hS
   go_wp2_with fail
   go_ret
   exact ⟨ret_bool hf.out, bcall hbGH.out hb5H.out⟩
 | false =>
  simp only [hz] at vaH
  have href2 := hrefH.out
  rw [hz, Bool.false_or] at href2
  have href2H := Lib.hid href2
  clear hz href2
  rcases hg with ⟨hin, rfl⟩ | ⟨hin, v, rfl, ho⟩
  ·have hf := Lib.hid (show false = HX by have := href2H.out; rw [hin, Bool.false_and] at this; exact this)
   clear hb1 hin
   go_wp2_with fail
   refine wp_region_held_drew (S := fun w' => w'.cell? ⟨b, off + i * 5, none⟩ = some (.string nm) ∧ w'.cell? ⟨b, off + i * 5 + 1, none⟩ = some (.string bn) ∧ w'.cell? ⟨b, off + i * 5 + 2, none⟩ = some (.slice a1 n1 c1) ∧ w'.cell? ⟨b, off + i * 5 + 3, none⟩ = some (.slice a2 n2 c2) ∧ w'.cell? ⟨b, off + i * 5 + 4, none⟩ = some (.slice a3 n3 c3)) (by kernel_rfl) hS0 (fun hS => ?_)
   refine rtk 0 18 (v := ?_) hS ?_ ?_; rotate_left; · (intro w9 hS9; obtain ⟨z0, z1, z2, z3, z4⟩ := hS9; go_simp; try (with_reducible rfl))
   refine rtk 1 19 (v := ?_) hS ?_ ?_; rotate_left; · (intro w9 hS9; obtain ⟨z0, z1, z2, z3, z4⟩ := hS9; go_simp; try (with_reducible rfl))
   refine rtk 2 20 (v := ?_) hS ?_ ?_; rotate_left; · (intro w9 hS9; obtain ⟨z0, z1, z2, z3, z4⟩ := hS9; go_simp; try (with_reducible rfl))
   refine rtk 3 21 (v := ?_) hS ?_ ?_; rotate_left; · (intro w9 hS9; obtain ⟨z0, z1, z2, z3, z4⟩ := hS9; go_simp; try (with_reducible rfl))
   refine region_call 4 rfl (by kernel_rfl) (fun K hK => ?_)
   go_simp
   (with_reducible refine (vaH.out _ hbd).mono ?_)
   rintro e w5 ⟨rfl, hb5⟩
   go_simp
   refine hK.out _ _ ⟨cell_later hb5 hS.1, cell_later hb5 hS.2.1, cell_later hb5 hS.2.2.1, cell_later hb5 hS.2.2.2.1, cell_later hb5 hS.2.2.2.2⟩ ?_
   clear hK hS K
   intro hS
   try simp only [Act.put, List.setIfInBounds_toArray, List.set_cons_zero, List.set_cons_succ]
   have hb5H := Lib.hid (bcall hbd hb5)
   clear hb5
   refine rtk 5 23 (v := ?_) hS ?_ ?_; rotate_left; · (intro w9 hS9; obtain ⟨z0, z1, z2, z3, z4⟩ := hS9; go_simp; try (with_reducible rfl))
   refine rtk 6 24 (v := ?_) hS ?_ ?_; rotate_left; · (intro w9 hS9; obtain ⟨z0, z1, z2, z3, z4⟩ := hS9; go_simp; try (with_reducible rfl))
   refine rtk 7 25 (v := ?_) hS ?_ ?_; rotate_left; · (intro w9 hS9; obtain ⟨z0, z1, z2, z3, z4⟩ := hS9; go_simp; try (with_reducible rfl))
   refine rsk 8 26 hS ?_
   refine rsk 9 27 hS ?_
   refine rsk 10 28 hS ?_
   refine rsk 11 29 hS ?_
   refine rsk 12 30 hS ?_
   refine rsk 13 31 hS ?_
   refine rsk 14 32 hS ?_
   refine rsk 15 33 hS ?_
   refine rsk 16 34 hS ?_
   refine rsk 17 35 hS ?_
   refine rsk 18 36 hS ?_
   refine rsk 19 37 hS ?_
   refine rsk 20 38 hS ?_
   refine rtk 21 39 (v := ?_) hS ?_ ?_; rotate_left; · (intro w9 hS9; obtain ⟨z0, z1, z2, z3, z4⟩ := hS9; go_simp; try (with_reducible rfl))
   refine rtk 22 40 (v := ?_) hS ?_ ?_; rotate_left; · (intro w9 hS9; obtain ⟨z0, z1, z2, z3, z4⟩ := hS9; go_simp; try (with_reducible rfl))
   refine rtk 23 6 (v := ?_) hS ?_ ?_; rotate_left; · (intro w9 hS9; obtain ⟨z0, z1, z2, z3, z4⟩ := hS9; go_simp; try (with_reducible rfl))
   refine wpAnyH_done (by kernel_rfl) ?_ _
   clear hS
   go_wp2_with fail
   go_ret
   exact ⟨ret_bool hf.out, bcall hbGH.out hb5H.out⟩
  ·obtain ⟨ag, cg, rfl, hT⟩ := OwnL.sl ho
   have vp := fun W (hb : Below w1.heap.size w1 W) => rProves_any sa ag a3 a1 sc cg c3 c1 s (givF l us) pf t W ((h1H.out.below hb1).below hb) (hT.below hb) ((hPH.out.below hb1).below hb) ((hIH.out.below hb1).below hb)
   simp only [hn1H.out, hn3H.out] at vp
   have hf := Lib.hid (show ((checkE s (givF l us) pf t).2 == 0) = HX by have := href2H.out; rw [hin, Bool.true_and] at this; exact this)
   have hgm := hgH.out
   have vpH := Lib.hid vp
   clear hb1 hin ho hT vp
   generalize ((checkE s (givF l us) pf t).2 == 0) = ck at *
   generalize (givF l us).length = ng at *
   go_wp2_with fail
   refine wp_region_held_drew (S := fun w' => w'.cell? ⟨b, off + i * 5, none⟩ = some (.string nm) ∧ w'.cell? ⟨b, off + i * 5 + 1, none⟩ = some (.string bn) ∧ w'.cell? ⟨b, off + i * 5 + 2, none⟩ = some (.slice a1 n1 c1) ∧ w'.cell? ⟨b, off + i * 5 + 3, none⟩ = some (.slice a2 n2 c2) ∧ w'.cell? ⟨b, off + i * 5 + 4, none⟩ = some (.slice a3 n3 c3)) (by kernel_rfl) hS0 (fun hS => ?_)
   refine rtk 0 18 (v := ?_) hS ?_ ?_; rotate_left; · (intro w9 hS9; obtain ⟨z0, z1, z2, z3, z4⟩ := hS9; go_simp; try (with_reducible rfl))
   refine rtk 1 19 (v := ?_) hS ?_ ?_; rotate_left; · (intro w9 hS9; obtain ⟨z0, z1, z2, z3, z4⟩ := hS9; go_simp; try (with_reducible rfl))
   refine rtk 2 20 (v := ?_) hS ?_ ?_; rotate_left; · (intro w9 hS9; obtain ⟨z0, z1, z2, z3, z4⟩ := hS9; go_simp; try (with_reducible rfl))
   refine rtk 3 21 (v := ?_) hS ?_ ?_; rotate_left; · (intro w9 hS9; obtain ⟨z0, z1, z2, z3, z4⟩ := hS9; go_simp; try (with_reducible rfl))
   refine region_call 4 rfl (by kernel_rfl) (fun K hK => ?_)
   go_simp
   (with_reducible refine (vaH.out _ hbd).mono ?_)
   rintro e w5 ⟨rfl, hb5⟩
   go_simp
   refine hK.out _ _ ⟨cell_later hb5 hS.1, cell_later hb5 hS.2.1, cell_later hb5 hS.2.2.1, cell_later hb5 hS.2.2.2.1, cell_later hb5 hS.2.2.2.2⟩ ?_
   clear hK hS K
   intro hS
   try simp only [Act.put, List.setIfInBounds_toArray, List.set_cons_zero, List.set_cons_succ]
   have hb5H := Lib.hid (bcall hbd hb5)
   clear hb5
   refine rtk 5 23 (v := ?_) hS ?_ ?_; rotate_left; · (intro w9 hS9; obtain ⟨z0, z1, z2, z3, z4⟩ := hS9; go_simp; try (with_reducible rfl))
   refine rtk 6 24 (v := ?_) hS ?_ ?_; rotate_left; · (intro w9 hS9; obtain ⟨z0, z1, z2, z3, z4⟩ := hS9; go_simp; try (with_reducible rfl))
   refine rtk 7 25 (v := ?_) hS ?_ ?_; rotate_left; · (intro w9 hS9; obtain ⟨z0, z1, z2, z3, z4⟩ := hS9; go_simp; try (with_reducible rfl))
   refine rtk 8 26 (v := ?_) hS ?_ ?_; rotate_left; · (intro w9 hS9; obtain ⟨z0, z1, z2, z3, z4⟩ := hS9; go_simp; try (with_reducible rfl))
   refine rtk 9 27 (v := ?_) hS ?_ ?_; rotate_left; · (intro w9 hS9; obtain ⟨z0, z1, z2, z3, z4⟩ := hS9; go_simp; try (with_reducible rfl))
   refine rtk 10 28 (v := ?_) hS ?_ ?_; rotate_left; · (intro w9 hS9; obtain ⟨z0, z1, z2, z3, z4⟩ := hS9; go_simp; try (with_reducible rfl))
   refine rtk 11 29 (v := ?_) hS ?_ ?_; rotate_left; · (intro w9 hS9; obtain ⟨z0, z1, z2, z3, z4⟩ := hS9; go_simp; try (with_reducible rfl))
   refine rtk 12 30 (v := ?_) hS ?_ ?_; rotate_left; · (intro w9 hS9; obtain ⟨z0, z1, z2, z3, z4⟩ := hS9; go_simp; try (with_reducible rfl))
   refine rtk 13 31 (v := ?_) hS ?_ ?_; rotate_left; · (intro w9 hS9; obtain ⟨z0, z1, z2, z3, z4⟩ := hS9; go_simp; try (with_reducible rfl))
   refine rtk 14 32 (v := ?_) hS ?_ ?_; rotate_left; · (intro w9 hS9; obtain ⟨z0, z1, z2, z3, z4⟩ := hS9; go_simp; try (with_reducible rfl))
   refine rtk 15 33 (v := ?_) hS ?_ ?_; rotate_left; · (intro w9 hS9; obtain ⟨z0, z1, z2, z3, z4⟩ := hS9; go_simp; try (with_reducible rfl))
   refine rtk 16 34 (v := ?_) hS ?_ ?_; rotate_left; · (intro w9 hS9; obtain ⟨z0, z1, z2, z3, z4⟩ := hS9; go_simp; try (with_reducible rfl))
   refine rtk 17 35 (v := ?_) hS ?_ ?_; rotate_left; · (intro w9 hS9; obtain ⟨z0, z1, z2, z3, z4⟩ := hS9; go_simp; try (with_reducible rfl))
   refine rtk 18 36 (v := ?_) hS ?_ ?_; rotate_left; · (intro w9 hS9; obtain ⟨z0, z1, z2, z3, z4⟩ := hS9; go_simp; try (with_reducible rfl))
   refine rtk 19 37 (v := ?_) hS ?_ ?_; rotate_left; · (intro w9 hS9; obtain ⟨z0, z1, z2, z3, z4⟩ := hS9; go_simp; try (with_reducible rfl))
   have vp1 := Lib.hid (vpH.out w5 hb5H.out)
   refine region_call 20 rfl (by kernel_rfl) (fun K hK => ?_)
   go_simp
   (with_reducible refine vp1.out.mono ?_)
   rintro e w6 ⟨rfl, hb6⟩
   go_simp
   refine hK.out _ _ ⟨cell_later hb6 hS.1, cell_later hb6 hS.2.1, cell_later hb6 hS.2.2.1, cell_later hb6 hS.2.2.2.1, cell_later hb6 hS.2.2.2.2⟩ ?_
   clear hK hS K
   intro hS
   try simp only [Act.put, List.setIfInBounds_toArray, List.set_cons_zero, List.set_cons_succ]
   have hb6H := Lib.hid (bcall hb5H.out hb6)
   clear hb6
   refine rtk 21 39 (v := ?_) hS ?_ ?_; rotate_left; · (intro w9 hS9; obtain ⟨z0, z1, z2, z3, z4⟩ := hS9; go_simp; try (with_reducible rfl))
   refine rtk 22 40 (v := ?_) hS ?_ ?_; rotate_left; · (intro w9 hS9; obtain ⟨z0, z1, z2, z3, z4⟩ := hS9; go_simp; try (with_reducible rfl))
   refine rtk 23 6 (v := ?_) hS ?_ ?_; rotate_left; · (intro w9 hS9; obtain ⟨z0, z1, z2, z3, z4⟩ := hS9; go_simp; try (with_reducible rfl))
   refine wpAnyH_done (by kernel_rfl) ?_ _
   clear hS
   go_wp2_with fail
   go_ret
   exact ⟨ret_bool hf.out, bcall hbGH.out hb6H.out⟩
end Go.Proofs.YtpmnnoopoblpgaaGreat

/- Walks: holding, opposite, chosen, Failing of the reference. -/
namespace Go.Proofs.YtpmnnoopoblpgaaGreat
open Go Go.RowKit Go.Maps

def filL (n : Nat) (f : Nat → Bool) (k : Nat) : List Bool := (List.range n).map (fun j => decide (j < k) && f j)
theorem filL_len (n : Nat) (f : Nat → Bool) (k : Nat) : (filL n f k).length = n := by simp [filL]
theorem filL_zero (n : Nat) (f : Nat → Bool) : filL n f 0 = List.replicate n false := by
 apply List.ext_getElem
 ·simp [filL]
 ·intro i h1 h2; simp [filL]
theorem filL_all (n : Nat) (f : Nat → Bool) : filL n f n = (List.range n).map f := by
 apply List.ext_getElem
 ·simp [filL]
 ·intro i h1 h2
  have : i < n := by simpa [filL] using h1
  simp [filL, this]
theorem filL_set {n : Nat} {f : Nat → Bool} {k : Nat} : (filL n f k).set k (f k) = filL n f (k + 1) := by
 apply List.ext_getElem
 ·simp [filL]
 ·intro i h1 h2
  have hi : i < n := by simpa [filL] using h2
  rw [List.getElem_set]
  by_cases e : k = i
  ·subst e; simp [filL]
  ·rw [if_neg e]
   have : decide (i < k) = decide (i < k + 1) := by rw [Bool.eq_iff_iff, decide_eq_true_eq, decide_eq_true_eq]; omega
   simp only [filL, List.getElem_map, List.getElem_range, this]
def flRel (n : Nat) (f : Nat → Bool) (w : World) (base g : Nat) (i : Value) (wr : World) : Prop := ∃ k : Nat, i = .int .i64 k ∧ k ≤ n ∧ OwnB wr base (.slice (some ⟨g, 0, none⟩) n n) (filL n f k) ∧ Below w.heap.size w wr
set_option maxHeartbeats 4000000 in
theorem rholding_any {S1 S2 : Nat → Prop} (sa la : Option Addr) (sc lc : Nat) (s : Sg) (l : List Ent) (w : World) (h1 : Sign S1 w sa sc s) (h2 : LibL S2 w la lc l) (hok : okLib s l = true) :
  Calls Tryz.prog 91 #[.slice sa s.length sc, .slice la l.length lc] w (retB w ((List.range l.length).map (holdX s l))) := by
 have m := h2.le
 have m1 := h1.le
 have hl60 := (okLib_parts hok).2.1
 have hms := fun W => makeFalse (W := W) l.length (by omega)
 have hBm := below1 w (.cells (Array.replicate l.length (.bool false)) 4)
 have hst := Lib.hid (show flRel l.length (holdX s l) w w.heap.size w.heap.size (.int .i64 0) (w.alloc (.cells (Array.replicate l.length (.bool false)) 4)) from ⟨0, rfl, Nat.zero_le _, by rw [filL_zero]; exact OwnB.made w l.length (by omega), hBm⟩)
 have vhH := Lib.hid (fun W (hb : Below w.heap.size w W) i hi => rholds_any sa la sc lc s l W (h1.below hb) (h2.below hb) hok i hi)
 clear h1 h2 hok hBm
 generalize l.length = nl at *
 go_enter Tryz.func91, Tryz.ntmps91
 go_wp2_with fail
 go_loopw [6] (fun i wr => flRel nl (holdX s l) w w.heap.size w.heap.size i wr) (fun i _ => nl - (intOf i).toNat)
 case atStart => exact hst.out
 case round =>
  obtain ⟨k, rfl, hk, hO, hB⟩ := hrel
  by_cases hlt : k < nl
  ·have vh := Lib.hid (vhH.out wr hB k hlt)
   have hkk : (k : Int) < (nl : Int) := by omega
   have hOH := Lib.hid hO
   have hBH := Lib.hid hB
   clear hO hB
   go_wp2_with fail
   refine vh.out.mono ?_
   rintro e w2 ⟨rfl, hb⟩
   have hO2 := OwnL.call hOH.out hb
   have hcell := OwnB.cell hO2 (filL_len _ _ _).symm k (by rw [filL_len]; exact hlt)
   obtain ⟨h3, h4⟩ := OwnB.set hO2 (filL_len _ _ _).symm k (holdX s l k)
   rw [filL_set] at h3
   have hB2 := bcall hBH.out hb
   have hsz := (OwnL.lt hO2 w.heap.size rfl).2
   have hfin := Lib.hid (show flRel nl (holdX s l) w w.heap.size w.heap.size (.int .i64 ((k : Int) + 1)) (w2.setCell ⟨w.heap.size, k, none⟩ (.bool (holdX s l k))) from ⟨k + 1, by simp, hlt, h3, hB2.grown h4 hB2.size (fun j e => by injection e with e; omega)⟩)
   obtain ⟨r0, r1⟩ := hcell
   clear h3 h4 hB2 hO2 hb hsz
   generalize holdX s l k = hx at *
   go_wp2_with fail
   go_roundw
   case rel => exact hfin.out
   case measure => simp [intOf]; omega
  ·have hkk : ((k : Int) < (nl : Int)) = False := eq_false (by omega)
   have hkl : k = nl := by omega
   rw [hkl, filL_all] at hO
   have hfin := Lib.hid (show retB w ((List.range nl).map (holdX s l)) (.returned (.slice (some ⟨w.heap.size, 0, none⟩) nl nl)) wr from ⟨_, rfl, hO, hB⟩)
   clear hO hB hlt hk hkl
   go_wp2_with fail
   go_ret
   exact hfin.out
set_option maxHeartbeats 4000000 in
theorem ropposite_any {S : Nat → Prop} (a : Option Addr) (c : Nat) (M : List Bool) (w : World) (h : Sl boolE S w a c M) (hl : M.length ≤ 60) :
  Calls Tryz.prog 90 #[.slice a M.length c] w (retB w (M.map (!·))) := by
 have m := h.le
 have hms := fun W => makeFalse (W := W) M.length (by omega)
 have hBm := below1 w (.cells (Array.replicate M.length (.bool false)) 4)
 have hst := Lib.hid (show flRel M.length (fun j => !M.getD j false) w w.heap.size w.heap.size (.int .i64 0) (w.alloc (.cells (Array.replicate M.length (.bool false)) 4)) from ⟨0, rfl, Nat.zero_le _, by rw [filL_zero]; exact OwnB.made w M.length (by omega), hBm⟩)
 have hH := Lib.hid h.lt
 have hMe := Lib.hid (show (List.range M.length).map (fun j => !M.getD j false) = M.map (!·) by
  apply List.ext_getElem
  ·simp
  ·intro i h1 h2
   have : i < M.length := by simpa using h1
   simp [List.getElem?_eq_getElem this])
 clear h hBm
 go_enter Tryz.func90, Tryz.ntmps90
 go_wp2_with fail
 go_loopw [4] (fun i wr => flRel M.length (fun j => !M.getD j false) w w.heap.size w.heap.size i wr) (fun i _ => M.length - (intOf i).toNat)
 case atStart => exact hst.out
 case round =>
  obtain ⟨k, rfl, hk, hO, hB⟩ := hrel
  by_cases hlt : k < M.length
  ·obtain ⟨b, off, rfl, -, q⟩ := (hH.out.below hB).bool k hlt
   have hkk : (k : Int) < (M.length : Int) := by omega
   have hge : M.getD k false = M[k] := by rw [List.getD_eq_getElem?_getD, List.getElem?_eq_getElem hlt]; rfl
   have hcell := OwnB.cell hO (filL_len _ _ _).symm k (by rw [filL_len]; exact hlt)
   obtain ⟨h3, h4⟩ := OwnB.set hO (filL_len _ _ _).symm k (!M.getD k false)
   have hse := filL_set (n := M.length) (f := fun j => !M.getD j false) (k := k)
   rw [hse, hge] at h3
   rw [hge] at h4
   have hsz := (OwnL.lt hO w.heap.size rfl).2
   have hfin := Lib.hid (show flRel M.length (fun j => !M.getD j false) w w.heap.size w.heap.size (.int .i64 ((k : Int) + 1)) (wr.setCell ⟨w.heap.size, k, none⟩ (.bool (!M[k]))) from ⟨k + 1, by simp, hlt, h3, hB.grown h4 hB.size (fun j e => by injection e with e; omega)⟩)
   obtain ⟨r0, r1⟩ := hcell
   clear h3 h4 hO hB hsz hge hse
   generalize M[k] = mk at *
   generalize M.length = nl at *
   go_wp2_with fail
   go_roundw
   case rel => exact hfin.out
   case measure => simp [intOf]; omega
  ·have hkk : ((k : Int) < (M.length : Int)) = False := eq_false (by omega)
   have hkl : k = M.length := by omega
   rw [hkl, filL_all, hMe.out] at hO
   have hfin := Lib.hid (show retB w (M.map (!·)) (.returned (.slice (some ⟨w.heap.size, 0, none⟩) M.length M.length)) wr from ⟨_, rfl, hO, hB⟩)
   clear hO hB hlt hk hkl
   go_wp2_with fail
   go_ret
   exact hfin.out
def rcRel (l : List Ent) (pd : Nat → Bool) (w : World) (i v : Value) (wr : World) : Prop := ∃ k : Nat, i = .int .i64 k ∧ k ≤ l.length ∧ OwnS wr w.heap.size v (chT l pd k) ∧ Below w.heap.size w wr
set_option maxHeartbeats 4000000 in
theorem rchosen_any {S1 S2 : Nat → Prop} (la ia : Option Addr) (lc ic : Nat) (l : List Ent) (pd : Nat → Bool) (w : World) (h1 : LibL S1 w la lc l) (h2 : Sl boolE S2 w ia ic ((List.range l.length).map pd)) (hl : l.length ≤ 1000) :
  Calls Tryz.prog 89 #[.slice la l.length lc, .slice ia l.length ic] w (SortedOut w (chB l pd)) := by
 have m := h1.le
 have h1H := Lib.hid h1
 have h2H := Lib.hid h2.lt
 clear h1 h2
 go_enter Tryz.func89, Tryz.ntmps89
 go_wp2_with fail
 go_loopw [6, 5] (fun i v wr => rcRel l pd w i v wr) (fun i _ _ => l.length - (intOf i).toNat)
 case atStart => exact ⟨0, rfl, Nat.zero_le _, OwnL.nil _ _ _ _ _, .refl _ _⟩
 case round =>
  obtain ⟨k, rfl, hk, hO, hB⟩ := hrel
  by_cases hlt : k < l.length
  ·obtain ⟨b, off, a1, c1, a2, c2, a3, c3, rfl, -, p0, p1, p2, p3, p4, z1, z2, hI, hU, hP⟩ := (h1H.out.below hB).ent k hlt
   obtain ⟨ib, io, rfl, -, qi⟩ := (h2H.out.below hB).bool k (by simp; exact hlt)
   simp only [List.getElem_map, List.getElem_range] at qi
   have hkk : (k : Int) < (l.length : Int) := by omega
   have hsu := chT_succ (pd := pd) hlt
   have hcl := chT_len l pd k
   clear p1 p2 p3 p4 hI hU hP z2
   cases hpd : pd k with
   | false =>
    rw [hpd] at qi hsu
    have hfin := Lib.hid (show ∀ v, OwnS wr w.heap.size v (chT l pd k) → rcRel l pd w (.int .i64 ((k : Int) + 1)) v wr from fun v hv => ⟨k + 1, by simp, hlt, by rw [hsu]; exact hv, hB⟩)
    have hOH := Lib.hid hO
    clear hsu hO hB hpd hcl
    go_wp2_with fail
    go_roundw
    case rel => exact hfin.out _ hOH.out
    case measure => simp [intOf]; omega
   | true =>
    rw [hpd] at qi hsu
    rw [if_pos rfl] at hsu
    obtain ⟨v', W', hrun, ho, hg, -⟩ := OwnL.push (P := Tryz.prog) (t := 29) (ty := 29) hO Tryz.underlying29 infoStr rfl (vs := [.string (eNm l[k])]) (x := eNm l[k]) ⟨rfl, z1⟩ (by omega) (by unfold big; omega) hB.size
    rw [← hsu] at ho
    have hfin := Lib.hid (show rcRel l pd w (.int .i64 ((k : Int) + 1)) v' W' from ⟨k + 1, by simp, hlt, ho, hB.grown hg hB.size (fun q e => (OwnL.lt hO q e).1)⟩)
    clear hsu hO hB hpd ho hg hcl
    generalize eNm l[k] = nm at *
    go_wp2_with (at_builtin; refine wpList_append_run rfl _ _ _ rfl rfl rfl hrun ?_)
    go_roundw
    case rel => exact hfin.out
    case measure => simp [intOf]; omega
  ·have hkk : ((k : Int) < (l.length : Int)) = False := eq_false (by omega)
   have hkl : k = l.length := by omega
   rw [hkl] at hO
   obtain ⟨av, cv, rfl, hS⟩ := OwnS.strs hO
   have hcl := chT_len l pd l.length
   have vs := rSorted_any av cv (chT l pd l.length) wr hS (by omega)
   have hfe : memB (chT l pd l.length) = chB l pd := by funext x; rw [Bool.eq_iff_iff, memB_iff]; exact chT_mem
   rw [hfe] at vs
   have vsH := Lib.hid vs
   have hBH := Lib.hid hB
   clear vs hS hO hB hlt hk hkl hcl hfe
   go_wp2_with fail
   refine vsH.out.mono ?_
   rintro e w2 ⟨v, L, rfl, h1, h2, h3, h4⟩
   have hfin := Lib.hid (show SortedOut w (chB l pd) (.returned v) w2 from ⟨v, L, rfl, OwnS.base h1 hBH.out.size, h2, h3, bcall hBH.out h4⟩)
   clear h1 h2 h3 h4
   go_wp2_with fail
   go_ret
   exact hfin.out
set_option maxHeartbeats 1000000 in
theorem rFailing_any {S1 S2 : Nat → Prop} (sa la : Option Addr) (sc lc : Nat) (s : Sg) (l : List Ent) (w : World) (h1 : Sign S1 w sa sc s) (h2 : LibL S2 w la lc l) :
  Calls Tryz.prog 31 #[.slice sa s.length sc, .slice la l.length lc] w (NamesRet (failE s l).1 (failE s l).2 w) := by
 have v := rVld_any sa la sc lc s l w h1 h2
 have m := h2.le
 have h1H := Lib.hid h1
 have h2H := Lib.hid h2
 have vH := Lib.hid v
 clear v h1 h2
 cases hok : okLib s l with
 | false =>
  rw [hok] at vH
  have hf := Lib.hid (show failE s l = (fun _ => false, 1) by unfold failE; rw [hok]; rfl)
  clear hok
  go_enter Tryz.func31, Tryz.ntmps31
  go_wp2_with fail
  refine vH.out.mono ?_
  rintro e w1 ⟨rfl, hb⟩
  have hbH := Lib.hid hb
  clear hb
  go_wp2_with fail
  go_ret2
  rw [hf.out]
  exact NamesRet.nil hbH.out
 | true =>
  rw [hok] at vH
  have hl60 := (okLib_parts hok).2.1
  have hf := Lib.hid (show failE s l = (chB l (fun i => !holdX s l i), 0) by unfold failE; rw [hok]; rfl)
  have hokH := Lib.hid hok
  clear hok
  go_enter Tryz.func31, Tryz.ntmps31
  go_wp2_with fail
  refine vH.out.mono ?_
  rintro e w1 ⟨rfl, hb⟩
  have vh := Lib.hid (rholding_any sa la sc lc s l w1 (h1H.out.below hb) (h2H.out.below hb) hokH.out)
  have hbH := Lib.hid hb
  clear hb
  go_wp2_with fail
  refine vh.out.mono ?_
  rintro e w2 ⟨v2, rfl, hO, hb⟩
  obtain ⟨a2, c2, rfl, hS⟩ := OwnB.bools hO
  have vo := ropposite_any a2 c2 ((List.range l.length).map (holdX s l)) w2 hS (by simp; omega)
  have hlen : ((List.range l.length).map (holdX s l)).length = l.length := by simp
  rw [hlen] at vo
  rw [hlen]
  have voH := Lib.hid vo
  have hb2H := Lib.hid (bcall hbH.out hb)
  clear vo hS hO hb hlen
  go_wp2_with fail
  refine voH.out.mono ?_
  rintro e w3 ⟨v3, rfl, hO, hb⟩
  obtain ⟨a3, c3, rfl, hS⟩ := OwnB.bools hO
  have hb3 := bcall hb2H.out hb
  have hmm : ((List.range l.length).map (holdX s l)).map (!·) = (List.range l.length).map (fun i => !holdX s l i) := by rw [List.map_map]; rfl
  rw [hmm] at hS
  have vc := rchosen_any la a3 lc c3 l (fun i => !holdX s l i) w3 (h2H.out.below hb3) hS (by omega)
  have hlen : (((List.range l.length).map (holdX s l)).map (!·)).length = l.length := by simp
  rw [hlen]
  have vcH := Lib.hid vc
  have hb3H := Lib.hid hb3
  clear vc hS hO hb hb3 hmm hlen
  go_wp2_with fail
  refine vcH.out.mono ?_
  rintro e w4 hso
  obtain ⟨v, rfl, hN⟩ := hso.names hb3H.out
  have hNH := Lib.hid (hN 0)
  clear hN hso
  go_wp2_with fail
  go_ret2
  rw [hf.out]
  exact hNH.out
end Go.Proofs.YtpmnnoopoblpgaaGreat

/- Walks: cited, leaned, lacking of the reference. -/
namespace Go.Proofs.YtpmnnoopoblpgaaGreat
open Go Go.RowKit Go.Maps

def zsN (Q : List Nat) : List Int := Q.map (fun q : Nat => (q : Int))
theorem zsN_len (Q : List Nat) : (zsN Q).length = Q.length := by simp [zsN]
theorem zsN_snoc (Q : List Nat) (n : Nat) : zsN (Q ++ [n]) = zsN Q ++ [(n : Int)] := by simp [zsN]
theorem zsN_get {Q : List Nat} {k : Nat} (hk : k < Q.length) (h : k < (zsN Q).length) : (zsN Q)[k] = ((Q.getD k 0 : Nat) : Int) := by
 simp [zsN, List.getElem?_eq_getElem hk]
abbrev OwnQ (w : World) (base : Nat) (v : Value) (Q : List Nat) : Prop := OwnL intE (fun _ => False) w base 3 v (zsN Q)
structure CtW (l : List Ent) (sh : List Bool) (i k j : Nat) (w : World) (Q : List Nat) (M : List Bool) (v : Value) (wr : World) : Prop where
 st : CitS l sh i k j Q M
 q : OwnQ wr (w.heap.size + 1) v Q
 m : OwnB wr w.heap.size (.slice (some ⟨w.heap.size, 0, none⟩) l.length l.length) M
 b : Below w.heap.size w wr
def ct1Rel (l : List Ent) (sh : List Bool) (i : Nat) (w : World) (kv v : Value) (wr : World) : Prop := ∃ k Q M, kv = .int .i64 (k : Nat) ∧ k ≤ Q.length ∧ CtW l sh i k 0 w Q M v wr
def ct2Rel (l : List Ent) (sh : List Bool) (i k q : Nat) (us : List ByteArray) (w : World) (jv v : Value) (wr : World) : Prop := ∃ j Q M, jv = .int .i64 (j : Nat) ∧ j ≤ us.length ∧ k < Q.length ∧ Q.getD k 0 = q ∧ CtW l sh i k j w Q M v wr
theorem ct2_next {l : List Ent} {sh : List Bool} {i k q j : Nat} {us : List ByteArray} {w wr : World} {Q : List Nat} {M : List Bool} {v : Value} (hj : j < us.length) (hk : k < Q.length) (hq : Q.getD k 0 = q) (h : CtW l sh i k (j + 1) w Q M v wr) :
  ct2Rel l sh i k q us w (.int .i64 ((j : Int) + 1)) v wr := ⟨j + 1, Q, M, by simp, hj, hk, hq, h⟩
set_option maxRecDepth 100000 in
set_option maxHeartbeats 8000000 in
theorem rcited_any {S1 S2 : Nat → Prop} {s : Sg} (la ia : Option Addr) (lc ic : Nat) (l : List Ent) (sh : List Bool) (w : World) (h : LibL S1 w la lc l) (hok : okLib s l = true) (hs : Sl boolE S2 w ia ic sh) (hsl : sh.length = l.length) (i : Nat) (hi : i < l.length) :
  Calls Tryz.prog 154 #[.slice la l.length lc, .int .i64 i, .slice ia l.length ic] w (retB w ((List.range l.length).map (citeB l sh i))) := by
 have m := h.le
 have hp := okLib_parts hok
 have hl60 := hp.2.1
 have hdn := hp.2.2.2
 have hms := fun W => makeFalse (W := W) l.length (by omega)
 have hst := Lib.hid (show ct1Rel l sh i w (.int .i64 0) (.slice (some ⟨w.heap.size + 1, 0, none⟩) 1 1) ((w.alloc (.cells (Array.replicate l.length (.bool false)) 4)).alloc (.cells #[.int .i64 i] 3)) from
  ⟨0, [i], List.replicate l.length false, rfl, Nat.zero_le _, CitS.start hi, by
   have := OwnL.lit (S := fun _ => False) (w.alloc (.cells (Array.replicate l.length (.bool false)) 4)) [(i : Int)] 3 (by intro x hx; rw [List.mem_singleton] at hx; rw [hx]; unfold inRange; omega) (by unfold maxLen; simp)
   rw [World.size_alloc] at this
   exact this, OwnL.call (OwnB.made w l.length (by omega)) (below1 _ _), below2 w _ _⟩)
 have hH := Lib.hid h.lt
 have hsH := Lib.hid hs.lt
 have hdnH := Lib.hid hdn
 have hokH := Lib.hid hok
 have hslH := Lib.hid hsl
 have hiH := Lib.hid hi
 clear h hs hok hp hdn hsl
 go_enter Tryz.func154, Tryz.ntmps154
 go_wp2_with fail
 go_loopw [9, 8] (fun kv v wr => ct1Rel l sh i w kv v wr) (fun kv _ _ => l.length + 1 - (intOf kv).toNat)
 case atStart => exact hst.out
 case round =>
  obtain ⟨k, Q, M, rfl, hk, hC⟩ := hrel
  have hQs := hC.st.size
  by_cases hlt : k < Q.length
  ·obtain ⟨q, hq⟩ : ∃ q, Q.getD k 0 = q := ⟨_, rfl⟩
   have hqlt := hC.st.qlt hlt
   rw [hq] at hqlt
   have hCH := Lib.hid hC
   have hqH := Lib.hid hq
   obtain ⟨gq, cq, rfl, hg1, hg2⟩ := OwnL.form hC.q (by intro e; have := zsN_len Q; rw [e] at this; simp at this; omega)
   rw [zsN_len] at *
   obtain ⟨qc, -⟩ := OwnL.cellInt hC.q (by rw [zsN_len]) k (by rw [zsN_len]; exact hlt)
   rw [zsN_get hlt, hq] at qc
   obtain ⟨b, off, a1, c1, a2, c2, a3, c3, rfl, hbB, p0, p1, p2, p3, p4, z1, z2, hI, hU, hP⟩ := hH.out.ent q hqlt
   have hu12 := (okLib_uses hokH.out (List.getElem_mem hqlt)).1
   have husI := usI_at hqlt
   obtain ⟨us, hus⟩ : ∃ us, eUses l[q] = us := ⟨_, rfl⟩
   rw [hus] at p3 hU hu12 husI
   have husH := Lib.hid husI
   have hkk : (k : Int) < (Q.length : Int) := by omega
   have hqq : (q : Int) < (l.length : Int) := by omega
   have mU := hU.le
   have hUH := Lib.hid hU
   have s3 := cell_later hC.b p3
   have hst2 := Lib.hid (show ct2Rel l sh i k q us w (.int .i64 0) (.slice (some ⟨gq, 0, none⟩) Q.length cq) wr from ⟨0, Q, M, rfl, Nat.zero_le _, hlt, hq, hC⟩)
   clear hC hq hI hU hP p0 p1 p2 p3 p4 z1 z2 hus husI
   go_wp2_with fail
   go_loopw [11, 8] (fun jv v wr => ct2Rel l sh i k q us w jv v wr) (fun jv _ _ => us.length - (intOf jv).toNat)
   case atStart => exact hst2.out
   case round =>
    obtain ⟨j, Q2, M2, rfl, hj, hk2, hq2, hC2⟩ := hrel
    by_cases hjl : j < us.length
    ·obtain ⟨b2, o2, rfl, -, qu, hzu⟩ := (hUH.out.below hC2.b).str j hjl
     have vi := rIndex_any (some ⟨b, off, none⟩) lc l us[j] _ (hH.out.below hC2.b)
     have hju : (usI l (Q2.getD k 0))[j]? = some us[j] := by rw [hq2, husH.out, List.getElem?_eq_getElem hjl]
     have hjj : (j : Int) < (us.length : Int) := by omega
     have hQs2 := hC2.st.size
     cases hat : atN l us[j] with
     | none =>
      rw [ixN_none' hat] at vi
      have viH := Lib.hid vi
      have hfin := Lib.hid (fun v (hv : OwnQ _ (w.heap.size + 1) v Q2) => ct2_next (us := us) hjl hk2 hq2 (⟨hC2.st.skip hju (fun n hn => by rw [hat] at hn; cases hn), hv, hC2.m, hC2.b⟩ : CtW l sh i k (j + 1) w Q2 M2 v _))
      have hQH := Lib.hid hC2.q
      clear vi hC2 hat hju
      generalize us[j] = u at *
      go_wp2_with fail
      refine viH.out.mono ?_
      rintro e w3 ⟨rfl, rfl⟩
      go_wp2_with fail
      go_roundw
      case rel => exact hfin.out _ hQH.out
      case measure => simp [intOf]; omega
     | some n =>
      rw [ixN_some' hat] at vi
      have viH := Lib.hid vi
      obtain ⟨hn, -⟩ := nmI_of hat
      have hn0 : ((n : Int) < 0) = False := eq_false (by omega)
      have hnn : (n : Int) < (l.length : Int) := by omega
      have hML := hC2.st.len
      obtain ⟨mc, mf⟩ := OwnB.cell hC2.m hML.symm n (by rw [hML]; exact hn)
      have hgm : M2.getD n false = M2[n]'(by rw [hML]; exact hn) := by rw [List.getD_eq_getElem?_getD, List.getElem?_eq_getElem (by rw [hML]; exact hn)]; rfl
      rw [← hgm] at mc
      cases hmk : M2.getD n false with
      | true =>
       rw [hmk] at mc
       have hfin := Lib.hid (fun v (hv : OwnQ _ (w.heap.size + 1) v Q2) => ct2_next (us := us) hjl hk2 hq2 (⟨hC2.st.skip hju (fun n' hn' => by rw [hat] at hn'; injection hn' with hn'; rw [← hn']; exact hmk), hv, hC2.m, hC2.b⟩ : CtW l sh i k (j + 1) w Q2 M2 v _))
       have hQH := Lib.hid hC2.q
       clear vi hC2 hat hju hML hgm hmk
       generalize us[j] = u at *
       go_wp2_with fail
       refine viH.out.mono ?_
       rintro e w3 ⟨rfl, rfl⟩
       go_wp2_with fail
       go_roundw
       case rel => exact hfin.out _ hQH.out
       case measure => simp [intOf]; omega
      | false =>
       rw [hmk] at mc
       obtain ⟨sb, so, hie, hsb, sc⟩ := (hsH.out.below hC2.b).bool n (by rw [hslH.out]; exact hn)
       have hgs : sh.getD n false = sh[n]'(by rw [hslH.out]; exact hn) := by rw [List.getD_eq_getElem?_getD, List.getElem?_eq_getElem (by rw [hslH.out]; exact hn)]; rfl
       rw [← hgs] at sc
       obtain ⟨hm2, hmg⟩ := OwnB.set hC2.m hML.symm n true
       have hqk := OwnL.lt hC2.q
       have hQ3 := OwnL.grown hC2.q hmg (fun kk hkk e => by have := (hqk kk hkk).1; injection e with e; omega) (fun bb hbb _ => hbb.elim)
       have hB3 := hC2.b.grown hmg hC2.b.size (fun kk e => by injection e with e; omega)
       have sc3 := hmg.cell sc (by intro e; injection e with e; have := hsb.2; simp at e; omega)
       have hmlt := (OwnL.lt hC2.m w.heap.size rfl).2
       cases hss : sh.getD n false with
       | true =>
        rw [hss] at sc sc3
        have hfin := Lib.hid (fun v (hv : OwnQ _ (w.heap.size + 1) v Q2) => ct2_next (us := us) hjl hk2 hq2 (⟨hC2.st.mark hdnH.out hk2 hju hat hss, hv, hm2, hB3⟩ : CtW l sh i k (j + 1) w Q2 (M2.set n true) v _))
        have hQH := Lib.hid hQ3
        clear vi hC2 hat hju hML hgm hmk hgs hss hm2 hmg hqk hQ3 hB3
        generalize us[j] = u at *
        subst hie
        go_wp2_with fail
        refine viH.out.mono ?_
        rintro e w3 ⟨rfl, rfl⟩
        go_wp2_with fail
        go_roundw
        case rel => exact hfin.out _ hQH.out
        case measure => simp [intOf]; omega
       | false =>
        rw [hss] at sc sc3
        have hzl := zsN_len Q2
        obtain ⟨v', W', hrun, ho, hg, -⟩ := OwnL.push (P := Tryz.prog) (t := 25) (ty := 25) hQ3 Tryz.underlying25 infoInt rfl (vs := [.int .i64 n]) (x := (n : Int)) ⟨rfl, by unfold inRange; omega⟩ (by omega) (by unfold big; omega) (by have := hB3.size; have := hmg.size; omega)
        rw [← zsN_snoc] at ho
        simp only [World.size_setCell] at hrun
        have hm4 := OwnL.grown hm2 hg (fun kk hkk e => by have := (OwnL.lt hQ3 kk e).1; simp [Value.ownBlock] at hkk; try omega) (fun bb hbb _ => hbb.elim)
        have hB4 := hB3.grown hg hB3.size (fun kk e => by have := (OwnL.lt hQ3 kk e).1; omega)
        have hfin := Lib.hid (ct2_next (us := us) (q := q) (Q := Q2 ++ [n]) hjl (by rw [List.length_append]; omega) (by rw [getD_snoc hk2]; exact hq2) (⟨hC2.st.push hdnH.out hk2 hju hat hmk hss, ho, hm4, hB4⟩ : CtW l sh i k (j + 1) w (Q2 ++ [n]) (M2.set n true) v' W'))
        clear vi hC2 hat hju hML hgm hmk hgs hss hm2 hmg hqk hQ3 hB3 hm4 hB4 ho hg hzl
        generalize us[j] = u at *
        subst hie
        go_wp2_with fail
        refine viH.out.mono ?_
        rintro e w3 ⟨rfl, rfl⟩
        go_wp2_with (at_builtin; refine wpList_append_run rfl _ _ _ rfl rfl rfl hrun ?_)
        go_roundw
        case rel => exact hfin.out
        case measure => simp [intOf]; omega
    ·have hjj : ((j : Int) < (us.length : Int)) = False := eq_false (by omega)
     have hjl2 : j = (usI l (Q2.getD k 0)).length := by rw [hq2, husH.out]; omega
     have hfin := Lib.hid (fun v (hv : OwnQ _ (w.heap.size + 1) v Q2) => (⟨k + 1, Q2, M2, by simp, hk2, (⟨(show CitS l sh i k (usI l (Q2.getD k 0)).length Q2 M2 by rw [← hjl2]; exact hC2.st).next, hv, hC2.m, hC2.b⟩ : CtW l sh i (k + 1) 0 w Q2 M2 v _)⟩ : ct1Rel l sh i w (.int .i64 ((k : Int) + 1)) v _))
     have hQs2 := hC2.st.size
     have hQH := Lib.hid hC2.q
     clear hC2 hjl2 hjl hj
     go_wp2_with fail
     go_roundw
     case rel => exact hfin.out _ hQH.out
     case measure => simp [intOf]; omega
  ·have hkl : k = Q.length := by omega
   subst hkl
   have hML := CitS.list hdnH.out hC.st
   have hQH := Lib.hid hC.q
   have hmm := hC.m
   rw [hML] at hmm
   have hfin := Lib.hid (show retB w ((List.range l.length).map (citeB l sh i)) (.returned (.slice (some ⟨w.heap.size, 0, none⟩) l.length l.length)) wr from ⟨_, rfl, hmm, hC.b⟩)
   obtain ⟨T, hT⟩ := hC.st.hd
   obtain ⟨gq, cq, rfl, -, -⟩ := OwnL.form hC.q (by intro e; have := zsN_len Q; rw [e, hT] at this; simp at this)
   rw [zsN_len] at *
   have hkk : ((Q.length : Int) < (Q.length : Int)) = False := eq_false (by omega)
   clear hC hML hmm hlt hk hT hQH
   go_wp2_with fail
   go_ret
   exact hfin.out
end Go.Proofs.YtpmnnoopoblpgaaGreat

/- Walks: leaned, lacking, shaken of the reference. -/
namespace Go.Proofs.YtpmnnoopoblpgaaGreat
open Go Go.RowKit Go.Maps

theorem rleaned_any {S1 : Nat → Prop} {s : Sg} (la : Option Addr) (lc : Nat) (l : List Ent) (w : World) (h : LibL S1 w la lc l) (hok : okLib s l = true) (i : Nat) (hi : i < l.length) :
  Calls Tryz.prog 106 #[.slice la l.length lc, .int .i64 i] w (retB w ((List.range l.length).map (leanI l i))) := by
 have m := h.le
 have hl60 := (okLib_parts hok).2.1
 have hms := fun W => makeFalse (W := W) l.length (by omega)
 have hB := below1 w (.cells (Array.replicate l.length (.bool false)) 4)
 obtain ⟨a0, c0, e0, hS0⟩ := OwnB.bools (OwnB.made w l.length (by omega))
 rw [List.length_replicate] at e0
 injection e0 with e1 _ e2
 subst e1 e2
 have v := rcited_any la (some ⟨w.heap.size, 0, none⟩) lc l.length l (List.replicate l.length false) (w.alloc (.cells (Array.replicate l.length (.bool false)) 4)) (h.below hB) hok hS0 (by simp) i hi
 have vH := Lib.hid v
 have hBH := Lib.hid hB
 clear v hB hS0 h hok
 go_enter Tryz.func106, Tryz.ntmps106
 go_wp2_with fail
 refine vH.out.mono ?_
 rintro e w2 ⟨v, rfl, hO, hb⟩
 have hfin := Lib.hid (show retB w ((List.range l.length).map (leanI l i)) (.returned v) w2 from ⟨v, rfl, OwnL.baseMono hO hBH.out.size, bcall hBH.out hb⟩)
 clear hO hb
 go_wp2_with fail
 go_ret
 exact hfin.out
def lkRel (l : List Ent) (us : List ByteArray) (w : World) (i : Value) (wr : World) : Prop := ∃ k : Nat, i = .int .i64 k ∧ k ≤ us.length ∧ ((us.take k).any (fun u => (atN l u).isNone)) = false ∧ w = wr
set_option maxHeartbeats 1000000 in
theorem rlacking_any {S1 : Nat → Prop} (la : Option Addr) (lc : Nat) (l : List Ent) (w : World) (h : LibL S1 w la lc l) (i : Nat) (hi : i < l.length) :
  Calls Tryz.prog 144 #[.slice la l.length lc, .int .i64 i] w fun e w' => e = .returned (.bool (lackB l i)) ∧ w = w' := by
 have m := h.le
 obtain ⟨b, off, a1, c1, a2, c2, a3, c3, rfl, hbB, p0, p1, p2, p3, p4, z1, z2, hI, hU, hP⟩ := h.ent i hi
 have hlk : lackB l i = (eUses l[i]).any (fun u => (atN l u).isNone) := by unfold lackB; rw [usI_at hi]
 have hH := Lib.hid h
 have hUH := Lib.hid hU
 have hii : (i : Int) < (l.length : Int) := by omega
 have mU := hU.le
 have hlkH := Lib.hid hlk
 clear h hU hI hP p0 p1 p2 p4 z1 z2 hlk
 generalize eUses l[i] = us at *
 go_enter Tryz.func144, Tryz.ntmps144
 go_wp2_with fail
 go_loopw [5] (fun i wr => lkRel l us w i wr) (fun i _ => us.length - (intOf i).toNat)
 case atStart => exact ⟨0, rfl, Nat.zero_le _, by simp, rfl⟩
 case round =>
  obtain ⟨k, rfl, hk, hno, rfl⟩ := hrel
  by_cases hlt : k < us.length
  ·obtain ⟨b2, o2, rfl, -, qu, hzu⟩ := hUH.out.str k hlt
   have vi := rIndex_any (some ⟨b, off, none⟩) lc l us[k] w hH.out
   have hkk : (k : Int) < (us.length : Int) := by omega
   cases hat : atN l us[k] with
   | none =>
    rw [ixN_none' hat] at vi
    have viH := Lib.hid vi
    have hR := Lib.hid (show lackB l i = true by rw [hlkH.out, List.any_eq_true]; exact ⟨us[k], List.getElem_mem hlt, by rw [hat]; rfl⟩)
    clear vi hno hat
    generalize us[k] = u at *
    go_wp2_with fail
    refine viH.out.mono ?_
    rintro e w3 ⟨rfl, rfl⟩
    go_wp2_with fail
    go_ret
    first | exact ⟨ret_bool hR.out.symm, rfl⟩ | exact ⟨ret_bool hR.out.symm, trivial⟩
   | some n =>
    rw [ixN_some' hat] at vi
    have viH := Lib.hid vi
    have hn0 : ((n : Int) < 0) = False := eq_false (by omega)
    have hR := Lib.hid (show lkRel l us w (.int .i64 ((k : Int) + 1)) w from ⟨k + 1, by simp, hlt, by rw [List.take_succ_eq_append_getElem hlt, List.any_append, hno]; simp [hat], rfl⟩)
    clear vi hno hat
    generalize us[k] = u at *
    go_wp2_with fail
    refine viH.out.mono ?_
    rintro e w3 ⟨rfl, rfl⟩
    go_wp2_with fail
    go_roundw
    case rel => exact hR.out
    case measure => simp [intOf]; omega
  ·have hkk : ((k : Int) < (us.length : Int)) = False := eq_false (by omega)
   rw [List.take_of_length_le (by omega)] at hno
   have hR := Lib.hid (show lackB l i = false by rw [hlkH.out]; exact hno)
   clear hno hlt hk
   go_wp2_with fail
   go_ret
   first | exact ⟨ret_bool hR.out.symm, rfl⟩ | exact ⟨ret_bool hR.out.symm, trivial⟩
def sk2Rel (f : Nat → Bool) (b0 : Bool) (N : Nat) (W : World) (i v : Value) (wr : World) : Prop := ∃ k : Nat, i = .int .i64 k ∧ k ≤ N ∧ v = .bool (b0 || (List.range k).any f) ∧ W = wr
theorem any_succ (f : Nat → Bool) (k : Nat) : (List.range (k + 1)).any f = ((List.range k).any f || f k) := by rw [List.range_succ, List.any_append]; simp
set_option maxRecDepth 100000 in
set_option maxHeartbeats 8000000 in
theorem rshaken_any {S1 S2 : Nat → Prop} (sa la : Option Addr) (sc lc : Nat) (s : Sg) (l : List Ent) (w : World) (h1 : Sign S1 w sa sc s) (h2 : LibL S2 w la lc l) (hok : okLib s l = true) :
  Calls Tryz.prog 97 #[.slice sa s.length sc, .slice la l.length lc] w (retB w ((List.range l.length).map (shkB s l))) := by
 have m := h2.le
 have hl60 := (okLib_parts hok).2.1
 have hms := fun W => makeFalse (W := W) l.length (by omega)
 have vhH := Lib.hid (rholding_any sa la sc lc s l w h1 h2 hok)
 have h2H := Lib.hid h2
 have hokH := Lib.hid hok
 clear h1 h2 hok
 go_enter Tryz.func97, Tryz.ntmps97
 go_wp2_with fail
 refine vhH.out.mono ?_
 rintro e w1 ⟨v, rfl, hO, hb1⟩
 obtain ⟨ah, ch, rfl, hHs⟩ := OwnB.bools hO
 have hlen : ((List.range l.length).map (holdX s l)).length = l.length := by simp
 rw [hlen]
 have hst := Lib.hid (show flRel l.length (shkB s l) w1 w1.heap.size w1.heap.size (.int .i64 0) (w1.alloc (.cells (Array.replicate l.length (.bool false)) 4)) from ⟨0, rfl, Nat.zero_le _, by rw [filL_zero]; exact OwnB.made w1 l.length (by omega), below1 w1 _⟩)
 have hHsH := Lib.hid hHs.lt
 have hb1H := Lib.hid hb1
 clear hO hHs hb1 hlen
 go_wp2_with fail
 go_loopw [7] (fun i wr => flRel l.length (shkB s l) w1 w1.heap.size w1.heap.size i wr) (fun i _ => l.length - (intOf i).toNat)
 case atStart => exact hst.out
 case round =>
  obtain ⟨i, rfl, hi, hO, hB⟩ := hrel
  by_cases hlt : i < l.length
  ·have hBw := bcall hb1H.out hB
   have hl0 := h2H.out.below hBw
   have vl := Lib.hid (rleaned_any la lc l wr hl0 hokH.out i hlt)
   have hii : (i : Int) < (l.length : Int) := by omega
   obtain ⟨hb', ho', rfl, -, qh⟩ := (hHsH.out.below hB).bool i (by simp; exact hlt)
   simp only [List.getElem_map, List.getElem_range] at qh
   have hOH := Lib.hid hO
   have hBH := Lib.hid hB
   have hl0H := Lib.hid hl0
   clear hO hB hBw hl0
   go_wp2_with fail
   refine vl.out.mono ?_
   rintro e w2 ⟨v2, rfl, hO2, hb2⟩
   obtain ⟨a2, c2, rfl, hL⟩ := OwnB.bools hO2
   have hlen : ((List.range l.length).map (leanI l i)).length = l.length := by simp
   rw [hlen]
   have hl2 := hl0H.out.below hb2
   have vk := Lib.hid (rlacking_any la lc l w2 hl2 i hlt)
   have vkk := Lib.hid (fun k (hk : k < l.length) => rlacking_any la lc l w2 hl2 k hk)
   have hLH := Lib.hid hL
   have hHs2 := Lib.hid ((hHsH.out.below hBH.out).below hb2)
   have qh2 := cell_later hb2 qh
   have hO3 := Lib.hid (OwnL.call hOH.out hb2)
   have hB3 := Lib.hid (bcall hBH.out hb2)
   have hsk : shkB s l i = (holdX s l i && (lackB l i || (List.range l.length).any (fun k => leanI l i k && (!holdX s l k || lackB l k)))) := rfl
   have hskH := Lib.hid hsk
   clear hO2 hL hb2 hl2 hlen qh hsk
   go_wp2_with fail
   refine vk.out.mono ?_
   rintro e w3 ⟨rfl, rfl⟩
   go_wp2_with fail
   go_loopw [10, 9] (fun kv v wr => sk2Rel (fun k => leanI l i k && (!holdX s l k || lackB l k)) (lackB l i) l.length w2 kv v wr) (fun kv _ _ => l.length - (intOf kv).toNat)
   case atStart => exact ⟨0, rfl, Nat.zero_le _, by simp, rfl⟩
   case round =>
    obtain ⟨k, rfl, hk, rfl, rfl⟩ := hrel
    by_cases hkl : k < l.length
    ·have hkk : (k : Int) < (l.length : Int) := by omega
     obtain ⟨lb, lo, rfl, -, ql⟩ := hLH.out.bool k (by simp; exact hkl)
     obtain ⟨gb, go, hge, -, qg⟩ := hHs2.out.bool k (by simp; exact hkl)
     simp only [List.getElem_map, List.getElem_range] at ql qg
     have hge' : gb = hb' ∧ go = ho' := by simpa using hge.symm
     obtain ⟨rfl, rfl⟩ := hge'
     have vk2 := Lib.hid (vkk.out k hkl)
     have hnx := Lib.hid (fun nb (h : nb = ((lackB l i || (List.range k).any (fun k => leanI l i k && (!holdX s l k || lackB l k))) || (leanI l i k && (!holdX s l k || lackB l k)))) => (show sk2Rel (fun k => leanI l i k && (!holdX s l k || lackB l k)) (lackB l i) l.length w2 (.int .i64 ((k : Int) + 1)) (.bool nb) w2 from ⟨k + 1, by simp, hkl, by rw [h, any_succ, Bool.or_assoc], rfl⟩))
     obtain ⟨x1, hx1⟩ : ∃ x1, (lackB l i || (List.range k).any (fun k => leanI l i k && (!holdX s l k || lackB l k))) = x1 := ⟨_, rfl⟩
     rw [hx1]
     rw [hx1] at hnx
     clear hx1
     obtain ⟨x2, hx2⟩ : ∃ x2, leanI l i k = x2 := ⟨_, rfl⟩
     rw [hx2] at ql hnx
     clear hx2
     obtain ⟨x3, hx3⟩ : ∃ x3, holdX s l k = x3 := ⟨_, rfl⟩
     rw [hx3] at qg hnx
     clear hx3
     obtain ⟨x4, hx4⟩ : ∃ x4, lackB l k = x4 := ⟨_, rfl⟩
     rw [hx4] at vk2 hnx
     clear hx4
     cases x1 with
     | true =>
      go_wp2_with fail
      go_roundw
      case rel => exact hnx.out _ (by simp)
      case measure => simp [intOf]; omega
     | false =>
      cases x2 with
      | false =>
       go_wp2_with fail
       go_roundw
       case rel => exact hnx.out _ (by simp)
       case measure => simp [intOf]; omega
      | true =>
       cases x3 with
       | false =>
        go_wp2_with fail
        go_roundw
        case rel => exact hnx.out _ (by simp)
        case measure => simp [intOf]; omega
       | true =>
        go_wp2_with fail
        refine vk2.out.mono ?_
        rintro e w4 ⟨rfl, rfl⟩
        go_wp2_with fail
        go_roundw
        case rel => exact hnx.out _ (by simp)
        case measure => simp [intOf]; omega
    ·have hkk : ((k : Int) < (l.length : Int)) = False := eq_false (by omega)
     have hkl2 : k = l.length := by omega
     subst hkl2
     have hcell := OwnB.cell hO3.out (filL_len _ _ _).symm i (by rw [filL_len]; exact hlt)
     obtain ⟨h3, h4⟩ := OwnB.set hO3.out (filL_len _ _ _).symm i (shkB s l i)
     rw [filL_set] at h3
     have hsz := (OwnL.lt hO3.out w1.heap.size rfl).2
     have hfin := Lib.hid (fun nb (h : nb = shkB s l i) => (show flRel l.length (shkB s l) w1 w1.heap.size w1.heap.size (.int .i64 ((i : Int) + 1)) (w2.setCell ⟨w1.heap.size, i, none⟩ (.bool nb)) from by
      rw [h]
      exact ⟨i + 1, by simp, hlt, h3, hB3.out.grown h4 hB3.out.size (fun j e => by injection e with e; omega)⟩))
     obtain ⟨r0, r1⟩ := hcell
     have hsk2 := hskH.out
     generalize (lackB l i || (List.range l.length).any (fun k => leanI l i k && (!holdX s l k || lackB l k))) = x1 at *
     generalize shkB s l i = sx at *
     generalize holdX s l i = hx at *
     clear h3 h4 hsz
     have hsk2H := Lib.hid hsk2
     clear hsk2
     cases hx with
     | false =>
      go_wp2_with fail
      go_roundw
      case rel => exact hfin.out _ (by rw [hsk2H.out]; rfl)
      case measure => simp [intOf]; omega
     | true =>
      go_wp2_with fail
      go_roundw
      case rel => exact hfin.out _ (by rw [hsk2H.out]; rfl)
      case measure => simp [intOf]; omega
  ·have hkk : ((i : Int) < (l.length : Int)) = False := eq_false (by omega)
   have hkl : i = l.length := by omega
   rw [hkl, filL_all] at hO
   have hfin := Lib.hid (show retB w ((List.range l.length).map (shkB s l)) (.returned (.slice (some ⟨w1.heap.size, 0, none⟩) l.length l.length)) wr from ⟨_, rfl, OwnL.baseMono hO hb1H.out.size, bcall hb1H.out hB⟩)
   clear hO hB hlt hi hkl
   go_wp2_with fail
   go_ret
   exact hfin.out
end Go.Proofs.YtpmnnoopoblpgaaGreat
