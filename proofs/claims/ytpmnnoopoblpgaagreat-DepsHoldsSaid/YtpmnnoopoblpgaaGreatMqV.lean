/- The proof of a statement, some of its texts joined in build order: part V. -/
import Derived.Test.YtpmnnoopoblpgaaGreatMqD
import Derived.Test.YtpmnnoopoblpgaaGreatMqB
import Derived.Test.YtpmnnoopoblpgaaGreatWalkL
import Derived.Test.YtpmnnoopoblpgaaGreatMath6
import Derived.Test.YtpmnnoopoblpgaaGreatRegion
import Derived.Deep.Cut
import Derived.Test.YtpmnnoopoblpgaaGreatWalkE
import Derived.Test.YtpmnnoopoblpgaaGreatLit
/- The box of the reference's Match in the world; positions in terms. -/
namespace Go.Proofs.YtpmnnoopoblpgaaGreat
open Go Go.RowKit Go.Maps

theorem skip_at {s : Sg} {k p : Nat} {t r : List Int} (h : skip s k (t.drop p) = some r) (hp : p ≤ t.length) : r = t.drop (t.length - r.length) ∧ p + k ≤ t.length - r.length := by
 obtain ⟨u, e, _, hl⟩ := skip_split s k _ _ h
 have hlen : t.length - p = u.length + r.length := by have := congrArg List.length e; simpa using this
 have h2 : r = t.drop (p + u.length) := by
  rw [← List.drop_drop, e, List.drop_append_of_le_length (Nat.le_refl _), List.drop_length, List.nil_append]
 refine ⟨?_, by omega⟩
 rw [show t.length - r.length = p + u.length by omega]
 exact h2
theorem part_same {s : Sg} {l r : List Int} (h : skip s 1 l = some r) : partAt s l = partW s l := by
 unfold partAt partW; rw [h, skw_of_skip h]
theorem skip_next {s : Sg} {k m : Nat} {l l' r : List Int} (h : skip s k l = some l') (ht : skip s m l = some r) (hk : k < m) : ∃ l2, skip s 1 l' = some l2 ∧ skip s (k + 1) l = some l2 := by
 rw [show m = k + (m - k) by omega, skip_add, h, Option.bind_some, show m - k = (m - k - 1) + 1 by omega] at ht
 obtain ⟨l2, h1, -⟩ := skip_one ht
 exact ⟨l2, h1, by rw [skip_add, h, Option.bind_some, h1]⟩
structure BoxM (w : World) (xb : Nat) (B : Bd) : Prop where
 blk : ∃ vs : List Value, w.heap[xb]? = some (.cells vs.toArray 120 (0, 0)) ∧ vs.length = 12 ∧ ∀ i (h : i < vs.length), SlotW (fun b => b ≠ xb) w (B (-(i : Int) - 1)) vs[i]
section
variable {w w' : World} {xb : Nat} {B : Bd}
theorem BoxM.lt (h : BoxM w xb B) : xb < w.heap.size := by obtain ⟨vs, h1, -⟩ := h.blk; exact (Array.getElem?_eq_some_iff.1 h1).1
theorem BoxM.below (h : BoxM w xb B) (hb : Below w.heap.size w w') : BoxM w' xb B := by
 obtain ⟨vs, h1, h2, h3⟩ := h.blk
 exact ⟨⟨vs, (hb.block xb h.lt).trans h1, h2, fun i hi => (h3 i hi).mono (fun _ _ h => h) (.all hb)⟩⟩
theorem BoxM.slot (h : BoxM w xb B) {n : Nat} (hn : n < 12) : ∃ v, w.cell? ⟨xb, n, none⟩ = some v ∧ SlotW (fun b => b ≠ xb) w (B (-(n : Int) - 1)) v := by
 obtain ⟨vs, h1, h2, h3⟩ := h.blk
 have hi : n < vs.length := by omega
 exact ⟨vs[n], by simp [World.cell?, h1, hi], h3 _ hi⟩
theorem BoxM.frozen (h : BoxM w xb B) (o : Nat) : w.frozen? ⟨xb, o, none⟩ = false := by
 obtain ⟨vs, h1, -⟩ := h.blk
 simp [World.frozen?, h1]
theorem BoxM.set (h : BoxM w xb B) {n : Nat} {q : List Int} {a : Option Addr} {c : Nat} (hq : Ints (fun b => b ≠ xb) w a c q) :
  BoxM (w.setCell ⟨xb, n, none⟩ (.slice a q.length c)) xb (upB B (-(n : Int) - 1) q) := by
 obtain ⟨vs, h1, h2, h3⟩ := h.blk
 have hg := gby_set w xb n (.slice a q.length c)
 have hA : Agree (fun b => b ≠ xb) w (w.setCell ⟨xb, n, none⟩ (.slice a q.length c)) := .of_grown hg (fun b hb e => hb (by cases e; rfl))
 refine ⟨⟨vs.set n (.slice a q.length c), ?_, by simp [h2], fun i hi => ?_⟩⟩
 ·rw [heap_set h1]
  simp
 ·rw [List.length_set] at hi
  rw [List.getElem_set]
  unfold upB
  by_cases e : n = i
  ·rw [if_pos e, if_pos (by omega)]; exact ⟨a, c, rfl, hq.same hA⟩
  ·rw [if_neg e, if_neg (by omega)]; exact (h3 i hi).mono (fun _ _ h => h) hA
theorem BoxM.congr {B' : Bd} (h : BoxM w xb B) (he : B = B') : BoxM w xb B' := he ▸ h
theorem BoxM.new (W : World) : BoxM (W.alloc (.cells #[.slice none 0 0, .slice none 0 0, .slice none 0 0, .slice none 0 0, .slice none 0 0, .slice none 0 0, .slice none 0 0, .slice none 0 0, .slice none 0 0, .slice none 0 0, .slice none 0 0, .slice none 0 0] 120)) W.heap.size (fun _ => none) := by
 refine ⟨⟨List.replicate 12 (.slice none 0 0), ?_, by simp, fun i hi => ?_⟩⟩
 ·rw [heap_alloc_new]; rfl
 ·rw [List.getElem_replicate]; rfl
end
end Go.Proofs.YtpmnnoopoblpgaaGreat

/- Walks of the reference's solver: look. -/
namespace Go.Proofs.YtpmnnoopoblpgaaGreat
open Go Go.RowKit Go.Maps

def LkG (S : Nat → Prop) (w : World) (f : Int → Value) (B : Bd) (p : List Int) (a' : Option Addr) (c' : Nat) : Nat → Option Addr → Nat → List Int → Prop
 | 0, a, c, t => (t = p ∧ a = a' ∧ c = c') ∧ ∀ n r, t = n :: r → n < 0 → B n = none
 | k + 1, _, _, t => ∃ n r u a3 c3, t = n :: r ∧ n < 0 ∧ B n = some u ∧ f n = .slice a3 u.length c3 ∧ Ints S w a3 c3 u ∧ LkG S w f B p a' c' k a3 c3 u
theorem LkG.ex {S : Nat → Prop} {w : World} {f : Int → Value} {B : Bd} {p : List Int} (hr : RgB B) (h3 : ∀ n, n < 0 → -24 ≤ n → SlotW S w (B n) (f n)) :
  ∀ (k : Nat) (t : List Int) (a : Option Addr) (c : Nat), Rg t → Ints S w a c t → LkdN B p k t → ∃ a' c', LkG S w f B p a' c' k a c t ∧ Ints S w a' c' p
 | 0, t, a, c, _, hT, ⟨h1, h2⟩ => ⟨a, c, ⟨⟨h1, rfl, rfl⟩, h2⟩, h1 ▸ hT⟩
 | k + 1, t, a, c, rt, hT, ⟨n, r, u, h1, h2, hB, h4⟩ => by
  have hs := h3 n h2 (rt n (by rw [h1]; simp) h2)
  rw [hB] at hs
  obtain ⟨a3, c3, g1, g2⟩ := hs
  obtain ⟨a', c', g3, g4⟩ := LkG.ex hr h3 k u a3 c3 (hr n u hB).1 g2 h4
  exact ⟨a', c', ⟨n, r, u, a3, c3, h1, h2, hB, g1, g2, g3⟩, g4⟩
theorem SolX.cells {S : Nat → Prop} {w : World} {xb : Nat} {a1 : Option Addr} {c1 : Nat} {s : Sg} {B : Bd} (h : SolX S w xb a1 c1 s B) :
  ∃ f : Int → Value, ∀ n, n < 0 → -24 ≤ n → w.cell? ⟨xb, 1 + (-n - 1).toNat, none⟩ = some (f n) ∧ SlotW S w (B n) (f n) := by
 obtain ⟨vs, h1, h2, h3⟩ := h.blk
 refine ⟨fun n => vs.getD (-n - 1).toNat undef, fun n hn h24 => ?_⟩
 have hi : (-n - 1).toNat < vs.length := by omega
 have hg : vs.getD (-n - 1).toNat undef = vs[(-n - 1).toNat] := by rw [List.getD_eq_getElem?_getD, List.getElem?_eq_getElem hi]; rfl
 simp only [hg]
 refine ⟨?_, ?_⟩
 ·rw [Nat.add_comm]
  simp [World.cell?, h1]
 ·have := h3 _ hi
  rw [show (-(((-n - 1).toNat : Nat) : Int) - 1) = n by omega] at this
  exact this
def rlookRel (S : Nat → Prop) (w : World) (s : Sg) (f : Int → Value) (B : Bd) (p : List Int) (a' : Option Addr) (c' : Nat) (k : Nat) (tv : Value) (wr : World) : Prop :=
 ∃ t a c, tv = .slice a (List.length t) c ∧ Ints S w a c t ∧ W1 s t ∧ Rg t ∧ LkG S w f B p a' c' k a c t ∧ Drew w wr
set_option maxRecDepth 20000 in
set_option maxHeartbeats 4000000 in
theorem rlook_any {S : Nat → Prop} {w : World} {xb : Nat} {a1 : Option Addr} {c1 : Nat} {s : Sg} {B : Bd} (hS0 : SolX S w xb a1 c1 s B) (hr : RgB B) (hwf : ∀ n u, B n = some u → W1 s u) {a : Option Addr} {c : Nat} {t p : List Int} (ht : Ints S w a c t) (hw : W1 s t) (rt : Rg t) (hl : Lkd B t p) :
  ∃ a' c', Ints S w a' c' p ∧ ∀ m, Calls Tryz.prog 228 #[.pointer (some ⟨xb, 0, none⟩), .slice a t.length c] (w.drewN m) fun e w' => e = .returned (.slice a' p.length c') ∧ Drew (w.drewN m) w' := by
 obtain ⟨k0, hk0⟩ := hl.num
 obtain ⟨f, hf⟩ := hS0.cells
 obtain ⟨a', c', hk1, hTp⟩ := LkG.ex hr (fun n h1 h2 => (hf n h1 h2).2) k0 t a c rt ht hk0
 refine ⟨a', c', hTp, fun m => ?_⟩
 have hfc : ∀ n, n < 0 → -24 ≤ n → ∀ wr, Drew w wr → wr.cell? ⟨xb, 1 + (-n - 1).toNat, none⟩ = some (f n) := fun n h1 h2 wr hd => cell_later (hd.below _) (hf n h1 h2).1
 have hfs : ∀ n, n < 0 → -24 ≤ n → SlotW S w (B n) (f n) := fun n h1 h2 => (hf n h1 h2).2
 have hd0 := Drew.mk w m
 obtain ⟨w0, hw0⟩ : ∃ w0, w.drewN m = w0 := ⟨_, rfl⟩
 rw [hw0] at hd0 ⊢
 have hwfH := Lib.hid hwf
 have hrH := Lib.hid hr
 have htH := Lib.hid ht
 have hwH := Lib.hid hw
 have rtH := Lib.hid rt
 have hkH := Lib.hid hk1
 have m2 := ht.le
 have hfcH := Lib.hid hfc
 have hfsH := Lib.hid hfs
 have hd0H := Lib.hid hd0
 clear ht hw hl hk0 hk1 hTp hf hS0 hfc hfs hwf hr rt hw0 hd0
 go_enter Tryz.func228, Tryz.ntmps228
 go_wp2_with fail
 go_loopg [1] k0 (fun k tv wr => ∃ wx, wr = wx ∧ Drew w0 wr ∧ rlookRel S w s f B p a' c' k tv wx)
 case atStart => exact ⟨_, rfl, .refl _, t, a, c, rfl, htH.out, hwH.out, rtH.out, hkH.out, hd0H.out⟩
 case round =>
  obtain ⟨wx, rfl, hd0, t', a4, c4, rfl, ht', hw', rt', hk, hd⟩ := hrel
  have hlen := hw'.len
  have hlen0 : 0 < t'.length := hlen
  obtain ⟨b, o, rfl, -, q, hrg⟩ := (ht'.drew hd).int 0 (by omega)
  rw [Nat.add_zero] at q
  have hx24 : t'[0] < 0 → -24 ≤ t'[0] := fun h => rt' _ (List.getElem_mem _) h
  cases gk with
  | zero =>
   obtain ⟨⟨rfl, rfl, rfl⟩, hstop⟩ := hk
   obtain ⟨x, hx⟩ : ∃ x, t'[0] = x := ⟨_, rfl⟩
   have hxs : x < 0 → B x = none := fun h0 => hstop x t'.tail (by rw [← hx]; cases t' with | nil => simp at hlen | cons _ _ => rfl) h0
   rw [hx] at q hrg hx24
   by_cases h0 : x < 0
   ·have h24 := hx24 h0
    have hc := hfcH.out x h0 h24 _ hd
    have hs := hfsH.out x h0 h24
    rw [hxs h0] at hs
    rw [show f x = .slice none 0 0 from hs] at hc
    obtain ⟨n, hn⟩ : ∃ n : Nat, x = -(n : Int) - 1 := ⟨(-x - 1).toNat, by omega⟩
    have hnx : (-x - 1).toNat = n := by omega
    have hn24 : n < 24 := by omega
    have hw1 : IntKind.i64.wrap (-x) = -x := IntWalk.i64_in _ (by omega)
    have hw2 : IntKind.i64.wrap (-x - 1) = (n : Int) := by rw [show -x - 1 = (n : Int) by omega]; exact IntWalk.i64_in _ (by omega)
    rw [hnx] at hc
    have hdH := Lib.hid hd0
    have hdv : decide (x < 0) = true := by simpa using h0
    clear hstop hxs hw' hx ht' hd hd0 hs hx24 rt' hn hnx
    go_wp2_with fail
    go_quiet (fail)
    all_goals go_wp2_with fail
    all_goals go_ret
    exact ⟨rfl, drew_more hdH.out _⟩
   ·have hdH := Lib.hid hd0
    have hdv : decide (x < 0) = false := by simpa using h0
    clear hstop hxs hw' hx ht' hd hd0 hx24 rt'
    go_wp2_with fail
    go_quiet (fail)
    all_goals go_wp2_with fail
    all_goals go_ret
    exact ⟨rfl, drew_more hdH.out _⟩
  | succ k =>
   obtain ⟨x, r, u, a3, c3, he, h0, hBx, hfx, hI3, hk⟩ := hk
   subst he
   have hu := hwfH.out _ _ hBx
   have ru := (hrH.out _ _ hBx).1
   simp only [List.getElem_cons_zero] at q hrg hx24
   have h24 := hx24 h0
   have hc := hfcH.out x h0 h24 _ hd
   rw [hfx] at hc
   have hul := hu.len
   obtain ⟨b3, o3, rfl, -, -, -⟩ := hI3.int 0 (by omega)
   have hdH := Lib.hid hd
   have hd0H := Lib.hid hd0
   have hkH2 := Lib.hid hk
   have huH := Lib.hid hu
   have ruH := Lib.hid ru
   have hI3H := Lib.hid hI3
   obtain ⟨n, hn⟩ : ∃ n : Nat, x = -(n : Int) - 1 := ⟨(-x - 1).toNat, by omega⟩
   have hnx : (-x - 1).toNat = n := by omega
   have hn24 : n < 24 := by omega
   have hw1 : IntKind.i64.wrap (-x) = -x := IntWalk.i64_in _ (by omega)
   have hw2 : IntKind.i64.wrap (-x - 1) = (n : Int) := by rw [show -x - 1 = (n : Int) by omega]; exact IntWalk.i64_in _ (by omega)
   rw [hnx] at hc
   have hdv : decide (x < 0) = true := by simpa using h0
   clear hw' ht' hd hd0 hk hu ru hI3 hBx hfx hx24 rt' hul hn hnx
   go_wp2_with fail
   go_quiet (fail)
   all_goals go_wp2_with fail
   all_goals go_quiet (fail)
   all_goals go_wp2_with fail
   go_roundg k
   case measure => omega
   case rel => exact ⟨_, rfl, drew_more (drew_more hd0H.out _) _, u, _, c3, rfl, hI3H.out, huH.out, ruH.out, hkH2.out, drew_more (drew_more hdH.out _) _⟩
end Go.Proofs.YtpmnnoopoblpgaaGreat

/- Walks of the reference's solver: occurs. -/
namespace Go.Proofs.YtpmnnoopoblpgaaGreat
open Go Go.RowKit Go.Maps

def rocRel (w : World) (db : Nat) (θ : Int → List Int) (ρ : Int → Nat) (v : Int) (K : Nat) (D : Nat → Bool) (t : List Int) (i : Value) (wr : World) : Prop :=
 ∃ (k : Nat) (D' : Nat → Bool), i = .int .i64 k ∧ k ≤ t.length ∧ w.grownBy wr (some db) ∧ MarkW wr db 216 (fun j => .bool (D' j)) ∧ (∀ j : Nat, j < 24 → K ≤ ρ (-(j : Int) - 1) → D' j = D j) ∧ NoOcc θ ρ v D' K ∧ v ∉ ap θ (t.take k)
def rocRet (w : World) (db : Nat) (θ : Int → List Int) (ρ : Int → Nat) (v : Int) (K : Nat) (D : Nat → Bool) (t : List Int) (e : Ending) (w' : World) : Prop :=
 ∃ (D' : Nat → Bool) (r : Bool), e = .returned (.bool r) ∧ (r = true ↔ v ∈ ap θ t) ∧ w.grownBy w' (some db) ∧ MarkW w' db 216 (fun j => .bool (D' j)) ∧ (∀ j : Nat, j < 24 → K ≤ ρ (-(j : Int) - 1) → D' j = D j) ∧ (v ∉ ap θ t → NoOcc θ ρ v D' K)
theorem ap_take_succ {θ : Int → List Int} {t : List Int} {k : Nat} (h : k < t.length) : ap θ (t.take (k + 1)) = ap θ (t.take k) ++ ap θ [t[k]] := by
 rw [List.take_succ_eq_append_getElem h, ap_append]
theorem mem_ap_of {θ : Int → List Int} {t : List Int} {v : Int} {k : Nat} (h : k < t.length) (hv : v ∈ ap θ [t[k]]) : v ∈ ap θ t := by
 have : v ∈ ap θ (t.take (k + 1)) := by rw [ap_take_succ h]; exact List.mem_append.2 (.inr hv)
 rw [← List.take_append_drop (k + 1) t, ap_append]
 exact List.mem_append.2 (.inl this)
set_option maxRecDepth 20000 in
set_option maxHeartbeats 4000000 in
theorem roccurs_any {S : Nat → Prop} {xb db : Nat} {a1 : Option Addr} {c1 : Nat} {s : Sg} {B : Bd} {θ : Int → List Int} {ρ : Int → Nat} (h : Slv s B θ ρ) (hr : RgB B) (hSd : ¬ S db) (hxd : xb ≠ db) {v : Int} (hv : v < 0) (hv24 : -24 ≤ v) (hBv : B v = none) :
  ∀ (K : Nat) (t : List Int) (a : Option Addr) (c : Nat) (D : Nat → Bool) (w : World), SolX S w xb a1 c1 s B → MarkW w db 216 (fun j => .bool (D j)) → Ints S w a c t → Rg t → (∀ n ∈ t, n < 0 → ρ n < K) → NoOcc θ ρ v D K →
   Calls Tryz.prog 229 #[.pointer (some ⟨xb, 0, none⟩), .int .i64 (-v - 1), .slice a t.length c, .pointer (some ⟨db, 0, none⟩)] w (rocRet w db θ ρ v K D t) := by
 intro K
 induction K using Nat.strongRecOn with
 | ind K ih =>
 intro t a c D w hS hM ht rt hK hD
 have m2 := ht.le
 have hH := Lib.hid h
 have hrH := Lib.hid hr
 have hSH := Lib.hid hS
 have hMH := Lib.hid hM
 have htH := Lib.hid ht
 have rtH := Lib.hid rt
 have hKH := Lib.hid hK
 have hDH := Lib.hid hD
 have ihH := Lib.hid ih
 have hvvH := Lib.hid (h.free v hv hBv)
 have hBvH := Lib.hid hBv
 obtain ⟨vn, hvn⟩ : ∃ vn : Nat, v = -(vn : Int) - 1 := ⟨(-v - 1).toNat, by omega⟩
 have hvn24 : vn < 24 := by omega
 have e1 : (-v - 1 : Int) = vn := by omega
 rw [e1]
 have hvnH := Lib.hid hvn
 clear h hr hS hM ht rt hK hD ih hBv e1 hvn
 go_enter Tryz.func229, Tryz.ntmps229
 go_wp2_with fail
 go_loopw [9] (fun i wr => rocRel w db θ ρ v K D t i wr) (fun i _ => t.length - (intOf i).toNat)
 case atStart => exact ⟨0, D, rfl, Nat.zero_le _, gby_refl _ _, hMH.out, fun _ _ _ => rfl, hDH.out, by simp [ap_nil]⟩
 case round =>
  obtain ⟨k, D', rfl, hk, hg, hM, hE, hN, hno⟩ := hrel
  by_cases hlt : k < t.length
  ·have ht' := htH.out.same (.of_grown hg (fun b hb e => hSd (by cases e; exact hb)))
   obtain ⟨b, o, rfl, hbS, q, hrg⟩ := ht'.int k hlt
   have hS' := hSH.out.grown hg hSd hxd
   have hmem := List.getElem_mem hlt
   have hts := ap_take_succ (θ := θ) hlt
   have hmo := mem_ap_of (θ := θ) (v := v) hlt
   obtain ⟨x, hx⟩ : ∃ x, t[k] = x := ⟨_, rfl⟩
   rw [hx] at q hrg hmem hts hmo
   have hgH := Lib.hid hg
   have hMH' := Lib.hid hM
   have hEH := Lib.hid hE
   have hNH := Lib.hid hN
   have htsH := Lib.hid hts
   have hmoH := Lib.hid hmo
   by_cases h0 : 0 ≤ x
   ·have hno' : v ∉ ap θ (t.take (k + 1)) := by
     rw [hts, List.mem_append]
     rintro (e | e)
     ·exact hno e
     ·rw [ap_pos (by omega), ap_nil] at e; simp at e; have := hvnH.out; omega
    have hnoH := Lib.hid hno'
    clear hg hM hE hN hts hmo hno hno' ht' hS' hmem hx
    go_wp2_with fail
    go_roundw
    case rel => exact ⟨k + 1, D', by go_num, by omega, hgH.out, hMH'.out, hEH.out, hNH.out, hnoH.out⟩
    case measure => simp [intOf]; omega
   ·have hx0 : x < 0 := by omega
    have hx24 := rtH.out x hmem hx0
    have hxK := hKH.out x hmem hx0
    obtain ⟨n, hn⟩ : ∃ n : Nat, x = -(n : Int) - 1 := ⟨(-x - 1).toNat, by omega⟩
    have hn24 : n < 24 := by omega
    obtain ⟨vl, qs, hsl⟩ := hS'.slot hx0 hx24
    have hnx : (-x - 1).toNat = n := by omega
    rw [hnx] at qs
    have qd := hM.cell hn24
    have fd := hM.frozen n
    have hap1 : ap θ [x] = θ x := ap_one hx0
    have hxn : -x - 1 = (n : Int) := by omega
    have hnH := Lib.hid hn
    clear hnx
    by_cases hxv : x = v
    ·have hnv : n = vn := by have := hvnH.out; omega
     subst hnv
     have hmv : v ∈ ap θ t := hmo (by rw [hap1, hxv, hvvH.out]; simp)
     have hmvH := Lib.hid hmv
     clear hxv hn
     clear hg hM hE hN hts hmo hno ht' hS' hmem hx hmv hap1 hsl
     go_wp2_with fail
     go_ret
     exact ⟨D', true, rfl, ⟨fun _ => hmvH.out, fun _ => rfl⟩, hgH.out, hMH'.out, hEH.out, fun e => (e hmvH.out).elim⟩
    ·have hnv : ¬ n = vn := by have := hvnH.out; omega
     have hstep : v ∉ ap θ [x] → v ∉ ap θ (t.take (k + 1)) := fun h2 => by
      rw [hts, List.mem_append]
      rintro (e | e)
      ·exact hno e
      ·exact h2 e
     have hstepH := Lib.hid hstep
     have hxv' := Lib.hid hxv
     cases hBx : B x with
     | none =>
      rw [hBx] at hsl
      rw [show vl = .slice none 0 0 from hsl] at qs
      have hno' : v ∉ ap θ [x] := by rw [hap1, hH.out.free x hx0 hBx]; simpa using fun e => hxv e.symm
      have hnoH := Lib.hid (hstep hno')
      clear hn
      clear hg hM hE hN hts hmo hno ht' hS' hmem hx hno' hap1 hsl hstep hBx hxv
      go_wp2_with fail
      go_roundw
      case rel => exact ⟨k + 1, D', by go_num, by omega, hgH.out, hMH'.out, hEH.out, hNH.out, hnoH.out⟩
      case measure => simp [intOf]; omega
     | some u =>
      rw [hBx] at hsl
      obtain ⟨a3, c3, rfl, hu⟩ := hsl
      have hbnd := hH.out.bnd x u hBx
      have hwu := (hH.out.wf x u hBx).1
      have hul := hwu.len
      obtain ⟨b3, o3, rfl, -, -, -⟩ := hu.int 0 (by omega)
      cases hDn : D' n with
      | true =>
       rw [hDn] at qd
       have hno' : v ∉ ap θ [x] := by rw [hap1]; have := hN n hn24 hDn (by rw [← hn]; exact hxK); rwa [← hn] at this
       have hnoH := Lib.hid (hstep hno')
       clear hn
       clear hg hM hE hN hts hmo hno ht' hS' hmem hx hno' hap1 hu hstep hBx hxv hbnd hwu hul
       go_wp2_with fail
       go_roundw
       case rel => exact ⟨k + 1, D', by go_num, by omega, hgH.out, hMH'.out, hEH.out, hNH.out, hnoH.out⟩
       case measure => simp [intOf]; omega
      | false =>
       rw [hDn] at qd
       obtain ⟨W, hW⟩ : ∃ W, wr.setCell ⟨db, n, none⟩ (.bool true) = W := ⟨_, rfl⟩
       have hgW : wr.grownBy W (some db) := by rw [← hW]; exact gby_set _ _ _ _
       have hMW : MarkW W db 216 (fun j => .bool (if j = n then true else D' j)) := by
        rw [← hW]
        refine (hM.set (i := n) (.bool true)).congr (fun i _ => ?_)
        by_cases e : i = n
        ·simp [e]
        ·simp [e]
       have hSW := hS'.grown hgW hSd hxd
       have huW := hu.same (.of_grown hgW (fun b hb e => hSd (by cases e; exact hb)))
       obtain ⟨vl2, qs2, hsl2⟩ := hSW.slot hx0 hx24
       have hqs2 : W.cell? ⟨xb, 1 + n, none⟩ = some (.slice (some ⟨b3, o3, none⟩) u.length c3) := by
        rw [← World.cell?_of_block (hgW.block xb hS'.lt (fun e => hxd (by cases e; rfl)))] at qs
        exact qs
       have hcall := ihH.out (ρ x) hxK u _ c3 _ W hSW hMW huW (hrH.out x u hBx).1 (fun m hm hm0 => hH.out.rk x u hBx m hm hm0) (occ_start (i := n) hx0 (by omega) hxK hN)
       have e1 : (-v - 1 : Int) = vn := by have := hvnH.out; omega
       rw [e1] at hcall
       have hcallH := Lib.hid hcall
       have hWH := Lib.hid hW
       have hgWH := Lib.hid hgW
       have hBxH := Lib.hid hBx
       have hbndH := Lib.hid hbnd
       clear hn
       clear hg hM hE hN hts hmo hno ht' hS' hmem hx hap1 hu hstep hBx hxv hbnd hwu hul hsl2 qs2 hcall hW hgW hMW hSW huW e1
       go_wp2_with fail
       rw [hWH.out]
       go_wp2_with fail
       refine hcallH.out.mono ?_
       rintro e w2 ⟨D2, r, rfl, hr1, hg2, hM2, hE2, hN2⟩
       have hg3 := gby_trans hgH.out (gby_trans hgWH.out hg2)
       have hE3 : ∀ j : Nat, j < 24 → K ≤ ρ (-(j : Int) - 1) → D2 j = D j := fun j hj hjK => by
        rw [hE2 j hj (by omega)]; simp only []; rw [if_neg (fun e => by subst e; rw [← hnH.out] at hjK; omega), hEH.out j hj hjK]
       have hap2 : ap θ u = ap θ [x] := by rw [ap_one hx0, hbndH.out]
       have hE3H := Lib.hid hE3
       have hg3H := Lib.hid hg3
       have hM2H := Lib.hid hM2
       have hE2H := Lib.hid hE2
       have hN2H := Lib.hid hN2
       have hr1H := Lib.hid hr1
       have hap2H := Lib.hid hap2
       clear hr1 hg2 hM2 hE2 hN2 hg3 hE3 hap2
       cases r with
       | true =>
        go_wp2_with fail
        go_ret
        have hmv : v ∈ ap θ t := hmoH.out (by rw [← hap2H.out]; exact hr1H.out.1 (by simp))
        exact ⟨D2, true, rfl, ⟨fun _ => hmv, fun _ => rfl⟩, hg3H.out, hM2H.out, hE3H.out, fun e => (e hmv).elim⟩
       | false =>
        go_wp2_with fail
        go_roundw
        case rel =>
         have hnu : v ∉ ap θ u := fun e => by have := hr1H.out.2 e; cases this
         refine ⟨k + 1, D2, by go_num, by omega, hg3H.out, hM2H.out, hE3H.out, ?_, hstepH.out (by rw [← hap2H.out]; exact hnu)⟩
         exact occ_now (i := n) hH.out hx0 (by have := hnH.out; omega) hBxH.out hNH.out (hN2H.out hnu) hE2H.out hnu
        case measure => simp [intOf]; omega
  ·have hall : ap θ (t.take k) = ap θ t := by rw [List.take_of_length_le (by omega)]
   rw [hall] at hno
   have hnoH := Lib.hid hno
   have hgH := Lib.hid hg
   have hMH' := Lib.hid hM
   have hEH := Lib.hid hE
   have hNH := Lib.hid hN
   clear hall hno hg hM hE hN
   go_wp2_with fail
   go_ret
   exact ⟨D', false, rfl, ⟨fun e => (by cases e), fun e => (hnoH.out e).elim⟩, hgH.out, hMH'.out, hEH.out, fun _ => hNH.out⟩
end Go.Proofs.YtpmnnoopoblpgaaGreat

/- Walks of the reference's solver: Solve. -/
namespace Go.Proofs.YtpmnnoopoblpgaaGreat
open Go Go.RowKit Go.Maps

abbrev Nx (xb : Nat) : Nat → Prop := fun b => b ≠ xb
def vsolRet (w : World) (xb : Nat) (a1 : Option Addr) (c1 : Nat) (s : Sg) (B : Bd) (θ : Int → List Int) (ρ : Int → Nat) (a b : List Int) (e : Ending) (w' : World) : Prop :=
 ∃ (r : Bool) (B' : Bd), e = .returned (.bool r) ∧ w.grownBy w' (some xb) ∧ SolX (Nx xb) w' xb a1 c1 s B' ∧ (r = false → ∀ η, Wsub s η → Sat B η → ap η a ≠ ap η b) ∧ (r = true → ∃ θ' ρ', Slv2 s B θ ρ a b B' θ' ρ')
theorem done_new (W : World) : MarkW (W.alloc (.cells #[.bool false, .bool false, .bool false, .bool false, .bool false, .bool false, .bool false, .bool false, .bool false, .bool false, .bool false, .bool false, .bool false, .bool false, .bool false, .bool false, .bool false, .bool false, .bool false, .bool false, .bool false, .bool false, .bool false, .bool false] 216)) W.heap.size 216 (fun _ => .bool ((fun _ => false) 0)) := by
 unfold MarkW
 rw [heap_alloc_new]
 rfl
theorem drew_trans {a b c : World} (h : Drew a b) (k : Drew b c) : Drew a c := by obtain ⟨n, rfl⟩ := h; obtain ⟨m, rfl⟩ := k; exact Drew.mk2 _ _ _
theorem rank_bd (ρ : Int → Nat) : ∀ (q : List Int), ∃ K, ∀ n ∈ q, n < 0 → ρ n < K
 | [] => ⟨0, fun n h => (by simp at h)⟩
 | x :: r => by
  obtain ⟨K, hK⟩ := rank_bd ρ r
  refine ⟨K + ρ x + 1, fun n hn h0 => ?_⟩
  rcases List.mem_cons.1 hn with e | e
  ·subst e; omega
  ·have := hK n e h0; omega
theorem Lkd.len {B : Bd} {a p : List Int} (h : Lkd B a p) (ha : a.length ≤ 60) (hB : ∀ n u, B n = some u → u.length ≤ 60) : p.length ≤ 60 := by
 induction h with
 | stop _ => exact ha
 | go _ hb _ ih => exact ih (hB _ _ hb)
set_option maxRecDepth 20000 in
set_option maxHeartbeats 4000000 in
theorem solve_var {xb : Nat} {a1 : Option Addr} {c1 : Nat} {s : Sg} {B : Bd} {θ : Int → List Int} {ρ : Int → Nat} (h : Slv s B θ ρ) (hr : RgB B) {w : World} (hS : SolX (Nx xb) w xb a1 c1 s B) {a2 a3 : Option Addr} {c2 c3 : Nat} {a b p q : List Int}
  (ta : Ints (Nx xb) w a2 c2 a) (tb : Ints (Nx xb) w a3 c3 b) (ha : W1 s a) (hb : W1 s b) (ra : Rg a) (rb : Rg b) (lb : b.length ≤ 60) (hp : Lkd B a p) (hq : Lkd B b q) (h0 : p.headD 0 < 0) :
  Calls Tryz.prog 215 #[.pointer (some ⟨xb, 0, none⟩), .slice a2 a.length c2, .slice a3 b.length c3] w (vsolRet w xb a1 c1 s B θ ρ a b) := by
 obtain ⟨ax, cx, tp, clx⟩ := rlook_any hS hr (fun n u hB => (h.wf n u hB).1) ta ha ra hp
 obtain ⟨ay, cy, tq, cly⟩ := rlook_any hS hr (fun n u hB => (h.wf n u hB).1) tb hb rb hq
 obtain ⟨p1, p2, p3⟩ := hp.spec h ha
 obtain ⟨q1, q2, q3⟩ := hq.spec h hb
 have rp := hp.rg hr ra
 have rq := hq.rg hr rb
 have hpv := p1.head_var h0
 have hB0 : B (p.headD 0) = none := p3 _ [] hpv h0
 have hp24 : -24 ≤ p.headD 0 := rp _ (by rw [hpv]; simp) h0
 have lq : q.length ≤ 60 := hq.len lb hS.len
 have hqw := q1.len
 have hpw := p1.len
 have hsame := Lib.hid (fun e => Slv2.same h hr ha hb hp hq h0 e)
 have hbound := Lib.hid (Slv2.bound h hr ha hb ra rb hp hq h0)
 have hocc := Lib.hid (slv_occurs h ha hb hp hq h0)
 obtain ⟨K, hK⟩ := rank_bd ρ q
 have hp0 : p[0] = p.headD 0 := by cases p with | nil => simp at hpw | cons _ _ => rfl
 have hq0 : q[0] = q.headD 0 := by cases q with | nil => simp at hqw | cons _ _ => rfl
 obtain ⟨x, hx⟩ : ∃ x, p.headD 0 = x := ⟨_, rfl⟩
 obtain ⟨y, hy⟩ : ∃ y, q.headD 0 = y := ⟨_, rfl⟩
 rw [hx] at hp0 h0 hB0 hp24
 rw [hy] at hq0
 simp only [hx, hy] at hsame hbound hocc
 obtain ⟨bp, op, rfl, hbp, qp, rp0⟩ := tp.int 0 hpw
 obtain ⟨bq, oq, rfl, hbq, qq, rq0⟩ := tq.int 0 hqw
 rw [Nat.add_zero, hp0] at qp
 rw [Nat.add_zero, hq0] at qq
 rw [hp0] at rp0
 rw [hq0] at rq0
 obtain ⟨n, hn⟩ : ∃ n : Nat, x = -(n : Int) - 1 := ⟨(-x - 1).toNat, by omega⟩
 have hnx : (-x - 1).toNat = n := by omega
 have hn24 : n < 24 := by omega
 have hxn : -x - 1 = (n : Int) := by omega
 have hw1 : IntKind.i64.wrap (-x) = -x := IntWalk.i64_in _ (by omega)
 have hw2 : IntKind.i64.wrap (-x - 1) = (n : Int) := by rw [hxn]; exact IntWalk.i64_in _ (by omega)
 have hx0 : x < 0 := h0
 have hdv : decide (x < 0) = true := by simpa using h0
 have m1 := ta.le
 have m2 := tb.le
 have m3 : p.length ≤ 1000 := by rw [hpv]; simp
 have hoc := fun (S : Nat → Prop) (db : Nat) (hSd : ¬ S db) (hxd : xb ≠ db) => roccurs_any (S := S) (xb := xb) (db := db) (a1 := a1) (c1 := c1) h hr hSd hxd h0 hp24 hB0 K q
 have hnxH := Lib.hid hnx
 have hKH := Lib.hid hK
 have hrqH := Lib.hid rq
 have hocH := Lib.hid hoc
 have clxW : ∀ W, Drew w W → Calls Tryz.prog 228 #[.pointer (some ⟨xb, 0, none⟩), .slice a2 a.length c2] W fun e w' => e = .returned (.slice (some ⟨bp, op, none⟩) p.length cx) ∧ Drew W w' := by
  rintro W ⟨m, rfl⟩; exact clx m
 have clyW : ∀ W, Drew w W → Calls Tryz.prog 228 #[.pointer (some ⟨xb, 0, none⟩), .slice a3 b.length c3] W fun e w' => e = .returned (.slice (some ⟨bq, oq, none⟩) q.length cy) ∧ Drew W w' := by
  rintro W ⟨m, rfl⟩; exact cly m
 have clxH := Lib.hid clxW
 have clyH := Lib.hid clyW
 have hSH := Lib.hid hS
 have tqH := Lib.hid tq
 have hqwH := Lib.hid hqw
 clear clxW clyW h hr hS ta tb ha hb ra rb hp hq p1 p2 p3 q1 q2 q3 rp rq hpv hB0 hK hp0 hq0 hx hy hn hnx tp tq hoc clx cly h0 hp24
 go_enter Tryz.func215, Tryz.ntmps215
 go_wp2_with fail
 refine (clxH.out w (.refl w)).mono ?_
 rintro e w1 ⟨rfl, hd1⟩
 go_wp2_with fail
 refine (clyH.out w1 hd1).mono ?_
 rintro e w2 ⟨rfl, hd2⟩
 have hd := drew_trans hd1 hd2
 have hB2 := hd.below w.heap.size
 have qp2 := cell_later hB2 qp
 have qq2 := cell_later hB2 qq
 have hS2H := Lib.hid (hSH.out.below hB2)
 have tq2H := Lib.hid (tqH.out.below hB2)
 have hB2H := Lib.hid hB2
 clear qp qq hd1 hd2 hd clxH clyH tqH hSH hB2
 by_cases hyx : y = x
 ·have hyxb : (y == x) = true := by simpa using hyx
  have hsm := Lib.hid (hsame.out hyx)
  clear hyx hsame hbound hocc hocH
  go_wp2_with fail
  go_quiet (fail)
  all_goals go_wp2_with fail
  all_goals go_ret
  exact ⟨true, B, rfl, gby_below (bcall hB2H.out ((Drew.mk _ _).below _)), hS2H.out.below ((Drew.mk _ _).below _), fun e => (by cases e), fun _ => ⟨_, _, hsm.out⟩⟩
 ·have hyxb : (y == x) = false := by simpa using hyx
  have hyxH := Lib.hid hyx
  clear hyx hsame
  go_wp2_with fail
  go_quiet (fail)
  go_upto_region 6 with fail
  obtain ⟨W3, hW3⟩ : ∃ W3, w2.drewN nq = W3 := ⟨_, rfl⟩
  have hb3 : Below w2.heap.size w2 W3 := by rw [← hW3]; exact (Drew.mk _ _).below _
  rw [hW3]
  have qp3 := cell_later hb3 qp2
  have qq3 := cell_later hb3 qq2
  have hS3 := hS2H.out.below hb3
  have tq3 := tq2H.out.below hb3
  have hB3 := bcall hB2H.out hb3
  obtain ⟨W4, hW4⟩ : ∃ W4, W3.alloc (.cells #[.bool false, .bool false, .bool false, .bool false, .bool false, .bool false, .bool false, .bool false, .bool false, .bool false, .bool false, .bool false, .bool false, .bool false, .bool false, .bool false, .bool false, .bool false, .bool false, .bool false, .bool false, .bool false, .bool false, .bool false] 216) = W4 := ⟨_, rfl⟩
  have hM4 : MarkW W4 W3.heap.size 216 (fun _ => .bool ((fun _ => false) 0)) := by rw [← hW4]; exact done_new W3
  have hb4 : Below W3.heap.size W3 W4 := by rw [← hW4]; exact below1 _ _
  have hS4 := (hS3.lts.below hb4)
  have tq4 := (tq3.lt.below hb4)
  have hxd : xb ≠ W3.heap.size := by have := hS3.lt; omega
  have cc := hocH.out _ W3.heap.size (fun h => by have := h.2; omega) hxd _ _ (fun _ => false) W4 hS4 hM4 tq4 hrqH.out hKH.out (fun _ _ h => by cases h)
  have hz3 : W3.heap.size = w2.heap.size := by rw [← hW3]; rfl
  rw [hxn, hz3] at cc
  rw [hz3] at hxd
  have ccH := Lib.hid cc
  have hW4H := Lib.hid hW4
  have hS4H := Lib.hid hS4
  have tq4H := Lib.hid tq4
  have qp4 := cell_later hb4 qp3
  have hB4H := Lib.hid (bcall hB3 hb4)
  have hz4H := Lib.hid (show w.heap.size ≤ w2.heap.size ∧ w.heap.size ≤ W4.heap.size from ⟨by rw [← hz3]; exact hB3.size, Nat.le_trans hB3.size hb4.size⟩)
  have hbpH := Lib.hid (show bp < w2.heap.size by rw [← hz3]; exact World.block_lt_of_cell? _ _ qp3)
  have hS4w := Lib.hid (show (fun b => Nx xb b ∧ b < W3.heap.size) = (fun b => Nx xb b ∧ b < w2.heap.size) by rw [hz3])
  clear hz3 cc hW3 hb3 qp2 qq2 hS3 tq3 hB3 hM4 hb4 hS4 tq4 hW4 hS2H tq2H hB2H hocH hKH hrqH
  rw [hW4H.out]
  go_wp2_with fail
  (with_reducible refine ccH.out.mono ?_)
  rintro e w5 ⟨D', r, rfl, hr1, hg5, -, -, -⟩
  have hr1H := Lib.hid hr1
  have hb5 := Lib.hid (below_of_gby hB4H.out hg5 hz4H.out.2 hz4H.out.1)
  have hS4x := hS4H.out
  have tq4x := tq4H.out
  rw [hS4w.out] at hS4x tq4x
  have hS5 := Lib.hid (hS4x.grown hg5 (fun h => by have := h.2; omega) hxd)
  have tq5 := Lib.hid (tq4x.same (.of_grown hg5 (fun b hb e => by cases e; have := hb.2; omega)))
  have qp5 := (World.cell?_of_block (hg5.block bp (World.block_lt_of_cell? _ _ qp4) (fun e => by have := hbpH.out; cases e; omega))).trans qp4
  clear hS4x tq4x hr1 hg5 hS4H tq4H hB4H hz4H qp4
  cases r with
  | true =>
   go_wp2_with fail
   go_ret
   exact ⟨false, B, rfl, gby_below hb5.out, hS5.out.weak (fun _ h => h.1), fun _ => hocc.out hyxH.out (hr1H.out.1 (by simp)), fun e => (by cases e)⟩
  | false =>
   obtain ⟨vo, hc5, -⟩ := hS5.out.slot hx0 (by omega)
   rw [hnxH.out] at hc5
   have hf5 := hS5.out.frozen (1 + n)
   have hbd : Below w5.heap.size w5 w5.drew := Below.drew (.refl w5.heap.size _)
   have hS6 := ((hS5.out.weak (S' := Nx xb) (fun _ h => h.1)).below hbd).set (fun h => h rfl) hx0 (by omega) ((tq5.out.weak (S' := Nx xb) (fun _ h => h.1)).below hbd) lq
   rw [hnxH.out] at hS6
   have hgF := gby_trans (gby_below (row := some xb) (bcall hb5.out hbd)) (gby_set w5.drew xb (1 + n) (.slice (some ⟨bq, oq, none⟩) q.length cy))
   obtain ⟨θ', ρ', hfin⟩ := hbound.out (fun e => by have := hr1H.out.2 e; cases this)
   have hS6H := Lib.hid hS6
   have hgFH := Lib.hid hgF
   have hfinH := Lib.hid hfin
   clear hS6 hgF hfin hbd hS5 tq5 hb5 hr1H
   go_wp2_with fail
   go_region
   all_goals go_wp2_with fail
   all_goals go_ret
   all_goals exact ⟨true, _, rfl, hgFH.out, hS6H.out, fun e => (by cases e), fun _ => ⟨_, _, hfinH.out⟩⟩
end Go.Proofs.YtpmnnoopoblpgaaGreat

/- Walks of the reference's solver: Solve of any terms. -/
namespace Go.Proofs.YtpmnnoopoblpgaaGreat
open Go Go.RowKit Go.Maps

theorem Slv2.turn {s : Sg} {B : Bd} {θ : Int → List Int} {ρ : Int → Nat} {a b p q : List Int} {B' : Bd} {θ' : Int → List Int} {ρ' : Int → Nat} (h : Slv s B θ ρ) (ha : W1 s a) (hb : W1 s b) (hp : Lkd B a p) (hq : Lkd B b q) (h2 : Slv2 s B θ ρ q p B' θ' ρ') : Slv2 s B θ ρ a b B' θ' ρ' := by
 refine ⟨h2.slv, h2.rg, fun η hw => ?_, h2.less⟩
 rw [h2.sat η hw]
 constructor
 ·rintro ⟨g1, g2⟩
  refine ⟨g1, ?_⟩
  rw [← hp.eta g1 ha (fun n u hB => (h.wf n u hB).1), ← hq.eta g1 hb (fun n u hB => (h.wf n u hB).1), g2]
 ·rintro ⟨g1, g2⟩
  refine ⟨g1, ?_⟩
  rw [hp.eta g1 ha (fun n u hB => (h.wf n u hB).1), hq.eta g1 hb (fun n u hB => (h.wf n u hB).1), g2]
theorem no_turn {s : Sg} {B : Bd} {θ : Int → List Int} {ρ : Int → Nat} {a b p q : List Int} (h : Slv s B θ ρ) (ha : W1 s a) (hb : W1 s b) (hp : Lkd B a p) (hq : Lkd B b q) (h2 : ∀ η, Wsub s η → Sat B η → ap η q ≠ ap η p) : ∀ η, Wsub s η → Sat B η → ap η a ≠ ap η b := by
 intro η hw hs he
 refine h2 η hw hs ?_
 rw [hp.eta hs ha (fun n u hB => (h.wf n u hB).1), hq.eta hs hb (fun n u hB => (h.wf n u hB).1), he]
theorem lkd_self {B : Bd} {a p : List Int} (h : Lkd B a p) : Lkd B p p := by
 induction h with
 | stop h => exact .stop h
 | go _ _ _ ih => exact ih
def SolveAt (xb : Nat) (a1 : Option Addr) (c1 : Nat) (s : Sg) (B : Bd) (θ : Int → List Int) (ρ : Int → Nat) (a b : List Int) : Prop :=
 ∀ (w : World) (a2 a3 : Option Addr) (c2 c3 : Nat), SolX (Nx xb) w xb a1 c1 s B → Ints (Nx xb) w a2 c2 a → Ints (Nx xb) w a3 c3 b →
  Calls Tryz.prog 215 #[.pointer (some ⟨xb, 0, none⟩), .slice a2 a.length c2, .slice a3 b.length c3] w (vsolRet w xb a1 c1 s B θ ρ a b)
def vlopRel (w : World) (xb : Nat) (a1 : Option Addr) (c1 : Nat) (s : Sg) (B : Bd) (θ : Int → List Int) (ρ : Int → Nat) (p q : List Int) (m : Nat) (i : Value) (wr : World) : Prop :=
 ∃ (k : Nat) (B1 : Bd) (θ1 : Int → List Int) (ρ1 : Int → Nat), i = .int .i64 k ∧ k ≤ m ∧ SlvK s B θ ρ p q k B1 θ1 ρ1 ∧ SolX (Nx xb) wr xb a1 c1 s B1 ∧ w.grownBy wr (some xb)
theorem args_len {s : Sg} {t u : List Int} (ht : W1 s t) (hu : u ∈ argsW s t) : u.length < t.length := by
 cases t with
 | nil => exact (ht.ne rfl).elim
 | cons n x =>
  obtain ⟨-, h2, -, -⟩ := ht.args
  obtain ⟨L1, L2, hL⟩ := List.append_of_mem hu
  have : x.length = L1.flatten.length + (u.length + L2.flatten.length) := by rw [← h2, hL]; simp
  rw [List.length_cons]; omega
theorem keep2 {W4 w1 w2 : World} {xb : Nat} {v : Value} (h : w1.cell? ⟨xb, 0, none⟩ = some v ∧ Below W4.heap.size W4 w1) (hb : Below w1.heap.size w1 w2) : w2.cell? ⟨xb, 0, none⟩ = some v ∧ Below W4.heap.size W4 w2 := ⟨cell_later hb h.1, bcall h.2 hb⟩
def S4 (xb : Nat) (v vi vj : Value) (ci cj : Addr) (wr w' : World) : Prop := w'.cell? ⟨xb, 0, none⟩ = some v ∧ w'.cell? ci = some vi ∧ w'.cell? cj = some vj ∧ wr.grownBy w' (some xb)
theorem S4.call {xb : Nat} {v vi vj : Value} {ci cj : Addr} {wr w1 w2 : World} (h : w1.cell? ⟨xb, 0, none⟩ = some v ∧ w1.cell? ci = some vi ∧ w1.cell? cj = some vj ∧ wr.grownBy w1 (some xb)) (hb : Below w1.heap.size w1 w2) : w2.cell? ⟨xb, 0, none⟩ = some v ∧ w2.cell? ci = some vi ∧ w2.cell? cj = some vj ∧ wr.grownBy w2 (some xb) :=
 ⟨cell_later hb h.1, cell_later hb h.2.1, cell_later hb h.2.2.1, gby_trans h.2.2.2 (gby_below hb)⟩
theorem S4.solve {xb : Nat} {vi vj : Value} {ci cj : Addr} {wr w1 w2 : World} {a1 : Option Addr} {c1 : Nat} {s : Sg} {B : Bd} (h : w1.cell? ⟨xb, 0, none⟩ = some (.slice a1 s.length c1) ∧ w1.cell? ci = some vi ∧ w1.cell? cj = some vj ∧ wr.grownBy w1 (some xb)) (hi : ci.block ≠ xb) (hj : cj.block ≠ xb) (hg : w1.grownBy w2 (some xb)) (hs : SolX (Nx xb) w2 xb a1 c1 s B) :
  w2.cell? ⟨xb, 0, none⟩ = some (.slice a1 s.length c1) ∧ w2.cell? ci = some vi ∧ w2.cell? cj = some vj ∧ wr.grownBy w2 (some xb) :=
 ⟨hs.sign, (World.cell?_of_block (hg.block _ (World.block_lt_of_cell? _ _ h.2.1) (fun e => hi (by cases e; rfl)))).trans h.2.1, (World.cell?_of_block (hg.block _ (World.block_lt_of_cell? _ _ h.2.2.1) (fun e => hj (by cases e; rfl)))).trans h.2.2.1, gby_trans h.2.2.2 hg⟩
theorem aposL_at {s : Sg} {t : List Int} {k : Nat} (h : k < (aposL s t).length) : (aposL s t)[k] = (apos s t k : Int) := by simp [aposL]
theorem aposL_len (s : Sg) (t : List Int) : (aposL s t).length = (argsW s t).length := by simp [aposL]
set_option maxRecDepth 20000 in
set_option maxHeartbeats 4000000 in
theorem solve_step {xb : Nat} {a1 : Option Addr} {c1 : Nat} {s : Sg} {B : Bd} {θ : Int → List Int} {ρ : Int → Nat} (hok : okSign s = true) (h : Slv s B θ ρ) (hr : RgB B) {a b p q : List Int} (ha : W1 s a) (hb : W1 s b) (ra : Rg a) (rb : Rg b) (la : a.length ≤ 60) (lb : b.length ≤ 60) (hlB : ∀ n u, B n = some u → u.length ≤ 60)
  (hp : Lkd B a p) (hq : Lkd B b q) (h0 : 0 ≤ p.headD 0)
  (hrec : ∀ k B1 θ1 ρ1 (hx : k < (argsW s p).length) (hy : k < (argsW s q).length), q.headD 0 = p.headD 0 → SlvK s B θ ρ p q k B1 θ1 ρ1 → SolveAt xb a1 c1 s B1 θ1 ρ1 (argsW s p)[k] (argsW s q)[k]) :
  SolveAt xb a1 c1 s B θ ρ a b := by
 intro w a2 a3 c2 c3 hS ta tb
 obtain ⟨ax, cx, tp, clx⟩ := rlook_any hS hr (fun n u hB => (h.wf n u hB).1) ta ha ra hp
 obtain ⟨ay, cy, tq, cly⟩ := rlook_any hS hr (fun n u hB => (h.wf n u hB).1) tb hb rb hq
 obtain ⟨p1, p2, p3⟩ := hp.spec h ha
 obtain ⟨q1, q2, q3⟩ := hq.spec h hb
 have rp := hp.rg hr ra
 have rq := hq.rg hr rb
 have lp : p.length ≤ 60 := hp.len la hlB
 have lq : q.length ≤ 60 := hq.len lb hlB
 have hqw := q1.len
 have hpw := p1.len
 have hp0 : p[0] = p.headD 0 := by cases p with | nil => simp at hpw | cons _ _ => rfl
 have hq0 : q[0] = q.headD 0 := by cases q with | nil => simp at hqw | cons _ _ => rfl
 have hturn : q.headD 0 < 0 → SolveAt xb a1 c1 s B θ ρ q p := fun hq0 w2 a4 a5 c4 c5 hS2 t4 t5 => solve_var h hr hS2 t4 t5 q1 p1 rq rp lp (lkd_self hq) (lkd_self hp) hq0
 have hclash := slv_clash h ha hb hp hq h0
 obtain ⟨P1, P2, P3⟩ := args_all p1 rfl
 obtain ⟨Q1, Q2, Q3⟩ := args_all q1 rfl
 have hal : q.headD 0 = p.headD 0 → (argsW s q).length = (argsW s p).length := fun e => by rw [P1, Q1, e]
 have hm3 : (argsW s p).length ≤ 3 := by rw [P1]; exact arW_le3 hok P2
 have hfin := fun k B1 θ1 ρ1 e hk => SlvK.fin (k := k) (B1 := B1) (θ1 := θ1) (ρ1 := ρ1) h ha hb hp hq h0 e hk
 have hfail := fun k B1 θ1 ρ1 e hk => SlvK.fail (k := k) (B1 := B1) (θ1 := θ1) (ρ1 := ρ1) h ha hb hp hq h0 e hk
 have hst := SlvK.start (p := p) (q := q) h hr
 have hnt := Lib.hid (no_turn h ha hb hp hq)
 have htn := Lib.hid (fun B' θ' ρ' => Slv2.turn (B' := B') (θ' := θ') (ρ' := ρ') h ha hb hp hq)
 obtain ⟨x, hx⟩ : ∃ x, p.headD 0 = x := ⟨_, rfl⟩
 obtain ⟨y, hy⟩ : ∃ y, q.headD 0 = y := ⟨_, rfl⟩
 rw [hx] at hp0 h0
 rw [hy] at hq0
 simp only [hx, hy] at hturn hclash hal hfin hfail hrec
 obtain ⟨bp, op, rfl, hbp, qp, rp0⟩ := tp.int 0 hpw
 obtain ⟨bq, oq, rfl, hbq, qq, rq0⟩ := tq.int 0 hqw
 rw [Nat.add_zero, hp0] at qp
 rw [Nat.add_zero, hq0] at qq
 rw [hp0] at rp0
 rw [hq0] at rq0
 have hdv : decide (x < 0) = false := by simpa using h0
 have m1 := ta.le
 have m2 := tb.le
 have clxW : ∀ W, Drew w W → Calls Tryz.prog 228 #[.pointer (some ⟨xb, 0, none⟩), .slice a2 a.length c2] W fun e w' => e = .returned (.slice (some ⟨bp, op, none⟩) p.length cx) ∧ Drew W w' := by
  rintro W ⟨m, rfl⟩; exact clx m
 have clyW : ∀ W, Drew w W → Calls Tryz.prog 228 #[.pointer (some ⟨xb, 0, none⟩), .slice a3 b.length c3] W fun e w' => e = .returned (.slice (some ⟨bq, oq, none⟩) q.length cy) ∧ Drew W w' := by
  rintro W ⟨m, rfl⟩; exact cly m
 have clxH := Lib.hid clxW
 have clyH := Lib.hid clyW
 have hSH := Lib.hid hS
 have tpH := Lib.hid tp
 have tqH := Lib.hid tq
 have p1H := Lib.hid p1
 have q1H := Lib.hid q1
 have hturnH := Lib.hid hturn
 have hclashH := Lib.hid hclash
 have P3H := Lib.hid P3
 have Q3H := Lib.hid Q3
 have halH := Lib.hid hal
 have hm3H := Lib.hid hm3
 have hfinH := Lib.hid hfin
 have hfailH := Lib.hid hfail
 have hstH := Lib.hid hst
 have hrecH := Lib.hid hrec
 have hokH := Lib.hid hok
 have h0H := Lib.hid h0
 clear h hr hS ta tb ha hb ra rb la lb hlB hp hq p1 p2 p3 q1 q2 q3 rp rq hp0 hq0 hx hy tp tq clx cly clxW clyW hturn hclash P1 P2 P3 Q1 Q2 Q3 hal hm3 hfin hfail hst hrec hok
 go_enter Tryz.func215, Tryz.ntmps215
 go_wp2_with fail
 (with_reducible refine (clxH.out w (.refl w)).mono ?_)
 rintro e w1 ⟨rfl, hd1⟩
 go_wp2_with fail
 (with_reducible refine (clyH.out w1 hd1).mono ?_)
 rintro e w2 ⟨rfl, hd2⟩
 have hd := drew_trans hd1 hd2
 have hB2 := hd.below w.heap.size
 have qp2 := cell_later hB2 qp
 have qq2 := cell_later hB2 qq
 have hS2H := Lib.hid (hSH.out.below hB2)
 have tp2H := Lib.hid (tpH.out.below hB2)
 have tq2H := Lib.hid (tqH.out.below hB2)
 have hB2H := Lib.hid hB2
 clear qp qq hd1 hd2 hd clxH clyH tpH tqH hSH hB2
 go_wp2_with fail
 go_quiet (fail)
 by_cases hy0 : y < 0
 ·-- the second is a variable
  have hcall := hturnH.out hy0
  have hcallH := Lib.hid hcall
  clear hcall hclashH P3H Q3H halH hfinH hfailH hstH hrecH hturnH
  go_upto_region 11 with fail
  obtain ⟨W3, hW3⟩ : ∃ W3, w2.drewN nq = W3 := ⟨_, rfl⟩
  have hb3 : Below w2.heap.size w2 W3 := by rw [← hW3]; exact (Drew.mk _ _).below _
  rw [hW3]
  have cc := Lib.hid (hcallH.out W3 _ _ cy cx (hS2H.out.below hb3) (tq2H.out.below hb3) (tp2H.out.below hb3))
  have hB3 := Lib.hid (bcall hB2H.out hb3)
  clear hcallH hW3 hb3 hS2H tq2H tp2H hB2H qp2 qq2
  go_wp2_with fail
  (with_reducible refine cc.out.mono ?_)
  rintro e w3 ⟨r, B', rfl, hg, hSX, hf, ht⟩
  have hgH := Lib.hid (gby_trans (gby_below hB3.out) hg)
  have hSXH := Lib.hid hSX
  have hfH := Lib.hid hf
  have htH := Lib.hid ht
  clear hg hSX hf ht cc hB3
  go_wp2_with fail
  go_ret
  exact ⟨r, B', rfl, hgH.out, hSXH.out, fun e => hnt.out (hfH.out e), fun e => by obtain ⟨θ', ρ', h2⟩ := htH.out e; exact ⟨θ', ρ', htn.out _ _ _ h2⟩⟩
 ·have hdv2 : decide (y < 0) = false := by simpa using hy0
  have hy0' : 0 ≤ y := by omega
  clear hturnH hnt htn
  go_upto_region 12 with fail
  obtain ⟨W3, hW3⟩ : ∃ W3, w2.drewN nq = W3 := ⟨_, rfl⟩
  have hb3 : Below w2.heap.size w2 W3 := by rw [← hW3]; exact (Drew.mk _ _).below _
  rw [hW3]
  have qp3 := cell_later hb3 qp2
  have qq3 := cell_later hb3 qq2
  have hS3H := Lib.hid (hS2H.out.below hb3)
  have tp3H := Lib.hid (tp2H.out.below hb3)
  have tq3H := Lib.hid (tq2H.out.below hb3)
  have hB3H := Lib.hid (bcall hB2H.out hb3)
  clear hW3 hb3 hS2H tq2H tp2H hB2H qp2 qq2
  by_cases hxy : x = y
  ·have hne : (x != y) = false := by simpa using hxy
   have hyxH := Lib.hid hxy.symm
   clear hxy hclashH
   go_wp2_with fail
   go_quiet (fail)
   go_upto_region 14 with fail
   obtain ⟨W4, hW4⟩ : ∃ W4, W3.drewN nq = W4 := ⟨_, rfl⟩
   have hb4 : Below W3.heap.size W3 W4 := by rw [← hW4]; exact (Drew.mk _ _).below _
   rw [hW4]
   have hS4 := hS3H.out.below hb4
   have tp4 := tp3H.out.below hb4
   have tq4 := tq3H.out.below hb4
   have hB4 := bcall hB3H.out hb4
   have qs := hS4.sign
   have caP := fun W (hb : Below W4.heap.size W4 W) => wArguments_any a1 (some ⟨bp, op, none⟩) c1 cx s p W (hS4.sg.below hb) (tp4.below hb) hokH.out p1H.out (by omega)
   have caQ := fun W (hb : Below W4.heap.size W4 W) => wArguments_any a1 (some ⟨bq, oq, none⟩) c1 cy s q W (hS4.sg.below hb) (tq4.below hb) hokH.out q1H.out (by omega)
   have caPH := Lib.hid caP
   have caQH := Lib.hid caQ
   have hS4H := Lib.hid hS4
   have tp4H := Lib.hid tp4
   have tq4H := Lib.hid tq4
   have hB4H := Lib.hid hB4
   clear hW4 hb4 hS3H tp3H tq3H hB3H qp3 qq3 caP caQ hS4 tp4 tq4 hB4
   have hk0 : W4.drew.cell? ⟨xb, 0, none⟩ = some (.slice a1 s.length c1) ∧ Below W4.heap.size W4 W4.drew := ⟨qs, Below.drew (.refl W4.heap.size _)⟩
   go_region_held3 (fun w' => w'.cell? ⟨xb, 0, none⟩ = some (.slice a1 s.length c1) ∧ Below W4.heap.size W4 w')
    ((first | exact hk0 | exact keep2 ‹_› hbQ | exact keep2 ‹_› hbP))
    ((go_at_call 169; (first
     | ((with_reducible refine (caPH.out _ ?_).mono ?_); exact (And.right ‹_›); rintro e w' ⟨vP, rfl, hoP, hbP⟩; obtain ⟨aP, cP, rfl, hIP⟩ := hoP.ints)
     | ((with_reducible refine (caQH.out _ ?_).mono ?_); exact (And.right ‹_›); rintro e w' ⟨vQ, rfl, hoQ, hbQ⟩; obtain ⟨aQ, cQ, rfl, hIQ⟩ := hoQ.ints))))
   have hB5 : Below W4.heap.size W4 w' := And.right (by assumption : w'.cell? ⟨xb, 0, none⟩ = some (.slice a1 s.length c1) ∧ Below W4.heap.size W4 w')
   have hxlt : xb < W4.heap.size := hS4H.out.lt
   have hIP5 := Lib.hid ((hIP.below hbQ).weak (S' := Nx xb) (fun b hb e => by have hb' : W4.heap.size ≤ b := hb; omega))
   have hIQ5 := Lib.hid (hIQ.weak (S' := Nx xb) (fun b hb e => by have hb' : _ ≤ b := hb; have h2 : W4.heap.size ≤ _ := hbP.size; omega))
   have hS5H := Lib.hid (hS4H.out.below hB5)
   have tp5H := Lib.hid (tp4H.out.below hB5)
   have tq5H := Lib.hid (tq4H.out.below hB5)
   have hB5H := Lib.hid (bcall hB4H.out hB5)
   have hlP := aposL_len s p
   have hlQ := aposL_len s q
   rw [halH.out hyxH.out] at hlQ
   have hlQH := Lib.hid hlQ
   have hm3 := hm3H.out
   obtain ⟨m, hm⟩ : ∃ m, (argsW s p).length = m := ⟨_, rfl⟩
   rw [hm] at hlP hlQ hm3
   have hmH := Lib.hid hm
   obtain ⟨w5, hw5⟩ : ∃ w5, w' = w5 := ⟨_, rfl⟩
   subst hw5
   clear hm hB5 hIP hIQ hbP hbQ hoP hoQ hS4H tp4H tq4H hB4H caPH caQH hk0 hxlt qs hlQH
   go_wp2_with fail
   go_loopw [10] (fun i wr => vlopRel w' xb a1 c1 s B θ ρ p q m i wr) (fun i _ => m - (intOf i).toNat)
   case atStart => exact ⟨0, B, θ, ρ, rfl, Nat.zero_le _, hstH.out, hS5H.out, gby_refl _ _⟩
   case round =>
    obtain ⟨k, B1, θ1, ρ1, rfl, hk, hK, hSr, hg⟩ := hrel
    by_cases hkm : k < m
    ·have hA : Agree (Nx xb) w' wr := .of_grown hg (fun b hb e => hb (by cases e; rfl))
     have hkP : k < (argsW s p).length := by rw [hmH.out]; exact hkm
     have hkQ : k < (argsW s q).length := by rw [halH.out hyxH.out, hmH.out]; exact hkm
     obtain ⟨bi, oi, rfl, hbi, qi, -⟩ := (hIP5.out.same hA).int k (by rw [hlP]; exact hkm)
     obtain ⟨bj, oj, rfl, hbj, qj, -⟩ := (hIQ5.out.same hA).int k (by rw [hlQ]; exact hkm)
     rw [aposL_at] at qi qj
     obtain ⟨g1, g2, g3, g4⟩ := P3H.out k hkP
     obtain ⟨f1, f2, f3, f4⟩ := Q3H.out k hkQ
     have hcall := hrecH.out k B1 θ1 ρ1 hkP hkQ hyxH.out hK
     have hstep := fun B2 θ2 ρ2 => SlvK.step (B2 := B2) (θ2 := θ2) (ρ2 := ρ2) hK hkP hkQ
     have hfl := hfailH.out k B1 θ1 ρ1 hyxH.out hK hkP hkQ
     have caP := fun W (hW : wr.grownBy W (some xb)) => wPart_any a1 (some ⟨bp, op, none⟩) c1 cx s p (apos s p k) (apos s p (k + 1)) (argsW s p)[k] W (hSr.sg.same (.of_grown hW (fun b hb e => hb (by cases e; rfl)))) ((tp5H.out.same hA).same (.of_grown hW (fun b hb e => hb (by cases e; rfl)))) hokH.out g1 g2 g3 g4 (by omega)
     have caQ := fun W (hW : wr.grownBy W (some xb)) => wPart_any a1 (some ⟨bq, oq, none⟩) c1 cy s q (apos s q k) (apos s q (k + 1)) (argsW s q)[k] W (hSr.sg.same (.of_grown hW (fun b hb e => hb (by cases e; rfl)))) ((tq5H.out.same hA).same (.of_grown hW (fun b hb e => hb (by cases e; rfl)))) hokH.out f1 f2 f3 f4 (by omega)
     obtain ⟨u1, hu1⟩ : ∃ u1, (argsW s p)[k] = u1 := ⟨_, rfl⟩
     obtain ⟨u2, hu2⟩ : ∃ u2, (argsW s q)[k] = u2 := ⟨_, rfl⟩
     rw [hu1] at hcall hfl
     rw [hu2] at hcall hfl
     simp only [hu1, hu2] at hstep caP caQ
     obtain ⟨gi, hgi⟩ : ∃ gi, apos s p k = gi := ⟨_, rfl⟩
     obtain ⟨gj, hgj⟩ : ∃ gj, apos s q k = gj := ⟨_, rfl⟩
     rw [hgi] at caP qi
     rw [hgj] at caQ qj
     have hk0 : wr.drew.cell? ⟨xb, 0, none⟩ = some (.slice a1 s.length c1) ∧ wr.drew.cell? ⟨bi, oi + k, none⟩ = some (.int .i64 gi) ∧ wr.drew.cell? ⟨bj, oj + k, none⟩ = some (.int .i64 gj) ∧ wr.grownBy wr.drew (some xb) :=
      ⟨hSr.sign, qi, qj, gby_below (Below.drew (.refl wr.heap.size _))⟩
     have hcS : ∀ (W w1 : World) (_ : Below wr.drew.heap.size wr.drew w1) (_ : Below w1.heap.size w1 W) (a4 a5 : Option Addr) (c4 c5 : Nat) (_ : Ints (fun b => wr.drew.heap.size ≤ b) w1 a4 c4 u1) (_ : Ints (fun b => w1.heap.size ≤ b) W a5 c5 u2),
       Calls Tryz.prog 215 #[.pointer (some ⟨xb, 0, none⟩), .slice a4 u1.length c4, .slice a5 u2.length c5] W (vsolRet W xb a1 c1 s B1 θ1 ρ1 u1 u2) := fun W w1 h1 h2 a4 a5 c4 c5 i1 i2 => by
      have hx1 := hSr.lt
      refine hcall W a4 a5 c4 c5 (((hSr.below (Below.drew (.refl wr.heap.size _))).below h1).below h2) ((i1.below h2).weak (fun b hb e => ?_)) (i2.weak (fun b hb e => ?_))
      ·have hb' : wr.heap.size ≤ b := hb; omega
      ·have hb' : w1.heap.size ≤ b := hb
       have : wr.heap.size ≤ w1.heap.size := h1.size
       omega
     have hcSH := Lib.hid hcS
     have caPH := Lib.hid caP
     have caQH := Lib.hid caQ
     have hstepH := Lib.hid hstep
     have hflH := Lib.hid hfl
     have hgH := Lib.hid hg
     have hSrH := Lib.hid hSr
     have qs := hSr.sign
     clear hA g1 g2 g3 g4 f1 f2 f3 f4 hcall hstep hfl caP caQ hu1 hu2 hgi hgj hcS hg hSr hK hkP hkQ
     go_wp2_with fail
     go_region_held3 (fun w' => w'.cell? ⟨xb, 0, none⟩ = some (.slice a1 s.length c1) ∧ w'.cell? ⟨bi, oi + k, none⟩ = some (.int .i64 gi) ∧ w'.cell? ⟨bj, oj + k, none⟩ = some (.int .i64 gj) ∧ wr.grownBy w' (some xb))
      ((first | exact hk0 | exact S4.solve ‹_› hbi hbj hgS hSX | exact S4.call ‹_› hbQ | exact S4.call ‹_› hbP))
      ((first
       | (go_at_call 168; (first
        | ((with_reducible refine (caPH.out _ ?_).mono ?_); exact (And.right (And.right (And.right ‹_›))); rintro e w' ⟨vP, rfl, hoP, hbP⟩; obtain ⟨aP, cP, rfl, hIP⟩ := hoP.ints)
        | ((with_reducible refine (caQH.out _ ?_).mono ?_); exact (And.right (And.right (And.right ‹_›))); rintro e w' ⟨vQ, rfl, hoQ, hbQ⟩; obtain ⟨aQ, cQ, rfl, hIQ⟩ := hoQ.ints)))
       | (go_at_call 215; (with_reducible refine (hcSH.out _ _ hbP hbQ _ _ _ _ hIP hIQ).mono ?_); rintro e w' ⟨r, B', rfl, hgS, hSX, hf, ht⟩)))
     have hgW : wr.grownBy w' (some xb) := And.right (And.right (And.right (by assumption : w'.cell? ⟨xb, 0, none⟩ = some (.slice a1 s.length c1) ∧ w'.cell? ⟨bi, oi + k, none⟩ = some (.int .i64 gi) ∧ w'.cell? ⟨bj, oj + k, none⟩ = some (.int .i64 gj) ∧ wr.grownBy w' (some xb))))
     have hgWH := Lib.hid (gby_trans hgH.out hgW)
     have hSXH := Lib.hid hSX
     have hfH := Lib.hid hf
     have htH := Lib.hid ht
     clear hgW hSX hf ht hgS hIP hIQ hbP hbQ hoP hoQ hk0 hcSH caPH caQH
     cases r with
     | false =>
      go_wp2_with fail
      go_ret
      exact ⟨false, B', rfl, gby_trans (gby_below hB5H.out) hgWH.out, hSXH.out, fun _ => hflH.out (hfH.out (by simp)), fun e => (by cases e)⟩
     | true =>
      go_wp2_with fail
      go_roundw
      case rel =>
       obtain ⟨θ2, ρ2, h2⟩ := htH.out (by simp)
       exact ⟨k + 1, B', θ2, ρ2, by go_num, by omega, hstepH.out _ _ _ h2, hSXH.out, hgWH.out⟩
      case measure => simp [intOf]; omega
    ·have hkm' : k = m := by omega
     subst hkm'
     have hf2 := Lib.hid (hfinH.out k B1 θ1 ρ1 hyxH.out hK (by rw [hmH.out]; exact Nat.le_refl _) (by rw [halH.out hyxH.out, hmH.out]; exact Nat.le_refl _))
     have hgF := Lib.hid (gby_trans (gby_below hB5H.out) hg)
     have hSrH := Lib.hid hSr
     clear hK hg hSr
     go_wp2_with fail
     go_ret
     exact ⟨true, B1, rfl, hgF.out, hSrH.out, fun e => (by cases e), fun _ => ⟨_, _, hf2.out⟩⟩
  ·have hne : (x != y) = true := by simpa using hxy
   have hcl := Lib.hid (hclashH.out hy0' hxy)
   clear hxy hclashH P3H Q3H halH hfinH hfailH hstH hrecH tp3H tq3H
   go_wp2_with fail
   go_quiet (fail)
   all_goals go_wp2_with fail
   all_goals go_ret
   exact ⟨false, B, rfl, gby_below (bcall hB3H.out ((Drew.mk _ _).below _)), hS3H.out.below ((Drew.mk _ _).below _), fun _ => hcl.out, fun e => (by cases e)⟩
theorem rank_hd (ρ : Int → Nat) (t : List Int) : ∀ n r, t = n :: r → n < 0 → ρ n < ρ (t.headD 0) + 1 := fun n r e _ => by rw [e]; simp
theorem rsolve_any {xb : Nat} {a1 : Option Addr} {c1 : Nat} {s : Sg} (hok : okSign s = true) : ∀ (N M : Nat) (B : Bd) (θ : Int → List Int) (ρ : Int → Nat) (a b : List Int), Slv s B θ ρ → RgB B → W1 s a → W1 s b → Rg a → Rg b → a.length ≤ 60 → b.length ≤ 60 → (∀ n u, B n = some u → u.length ≤ 60) → free B ≤ N → (ap θ a).length ≤ M →
  SolveAt xb a1 c1 s B θ ρ a b := by
 intro N
 induction N using Nat.strongRecOn with
 | ind N ihN =>
 intro M
 induction M using Nat.strongRecOn with
 | ind M ihM =>
 intro B θ ρ a b h hr ha hb ra rb la lb hlB hN hM
 obtain ⟨p, hp⟩ := Lkd.ex h _ a (rank_hd ρ a)
 obtain ⟨q, hq⟩ := Lkd.ex h _ b (rank_hd ρ b)
 by_cases h0 : p.headD 0 < 0
 ·intro w a2 a3 c2 c3 hS ta tb
  exact solve_var h hr hS ta tb ha hb ra rb lb hp hq h0
 ·have p1 := (hp.spec h ha).1
  have q1 := (hq.spec h hb).1
  have rp := hp.rg hr ra
  have rq := hq.rg hr rb
  have lp : p.length ≤ 60 := hp.len la hlB
  have lq : q.length ≤ 60 := hq.len lb hlB
  refine solve_step hok h hr ha hb ra rb la lb hlB hp hq (by omega) (fun k B1 θ1 ρ1 hx hy e hK => ?_)
  intro w a2 a3 c2 c3 hS ta tb
  obtain ⟨x1, x2⟩ := args_sub p1 rp _ (List.getElem_mem hx)
  obtain ⟨y1, y2⟩ := args_sub q1 rq _ (List.getElem_mem hy)
  have x3 := args_len p1 (List.getElem_mem hx)
  have y3 := args_len q1 (List.getElem_mem hy)
  rcases hK.down h ha hp (by omega) hx with hd | ⟨hd1, hd2⟩
  ·exact ihN (free B1) (by omega) _ B1 θ1 ρ1 _ _ hK.slv hK.rg x1 y1 x2 y2 (by omega) (by omega) hS.len (Nat.le_refl _) (Nat.le_refl _) w a2 a3 c2 c3 hS ta tb
  ·exact ihM _ (Nat.lt_of_lt_of_le hd2 hM) B1 θ1 ρ1 _ _ hK.slv hK.rg x1 y1 x2 y2 (by omega) (by omega) hS.len (by rw [hd1]; exact hN) (Nat.le_refl _) w a2 a3 c2 c3 hS ta tb
end Go.Proofs.YtpmnnoopoblpgaaGreat

/- Walks: lemmaryref02.matched. -/
namespace Go.Proofs.YtpmnnoopoblpgaaGreat
open Go Go.RowKit Go.Maps

def matchRet (w : World) (xb : Nat) (s : Sg) (a b ra rb : List Int) (e : Ending) (w' : World) : Prop :=
 ∃ (r : Bool) (B' : Bd), e = .returned (.bool r) ∧ w.grownBy w' (some xb) ∧ BoxM w' xb B' ∧ (r = false → instB s a b = false) ∧ (r = true → MRel s a b (a.length - ra.length) (b.length - rb.length) B')
def MatchAt (xb : Nat) (a1 : Option Addr) (c1 : Nat) (s : Sg) (a b : List Int) (i j : Nat) (B : Bd) (ra rb : List Int) : Prop :=
 ∀ (w : World) (a2 a3 : Option Addr) (c2 c3 : Nat), BoxM w xb B → Sign (Nx xb) w a1 c1 s → Ints (Nx xb) w a2 c2 a → Ints (Nx xb) w a3 c3 b →
  Calls Tryz.prog 124 #[.slice a1 s.length c1, .slice a2 a.length c2, .slice a3 b.length c3, .int .i64 i, .int .i64 j, .pointer (some ⟨xb, 0, none⟩)] w (matchRet w xb s a b ra rb)
theorem eql_nil (W : World) : Sem.run Tryz.prog (binOp BinOp.eql 26 (Value.slice none 0 0) (Value.slice none 0 0)) W = .ok (.bool true) W := by kernel_rfl
theorem eql_some (b o n c : Nat) (W : World) : Sem.run Tryz.prog (binOp BinOp.eql 26 (Value.slice (some ⟨b, o, none⟩) n c) (Value.slice none 0 0)) W = .ok (.bool false) W := by kernel_rfl
theorem keep1 {W4 w1 w2 : World} {p : Addr} {v : Value} (h : Below W4.heap.size W4 w1 ∧ w1.cell? p = some v) (hb : Below w1.heap.size w1 w2) : Below W4.heap.size W4 w2 ∧ w2.cell? p = some v := ⟨bcall h.1 hb, cell_later hb h.2⟩
set_option maxRecDepth 20000 in
set_option maxHeartbeats 4000000 in
theorem match_var {xb : Nat} {a1 : Option Addr} {c1 : Nat} {s : Sg} {a b : List Int} {i j : Nat} {B : Bd} {ra rb : List Int} (hok : okSign s = true) (la : a.length ≤ 60) (lb : b.length ≤ 60)
  (hra : skip s 1 (a.drop i) = some ra) (hrb : skip s 1 (b.drop j) = some rb) (hM : MRel s a b i j B) (hi : i < a.length) (hn : a[i] < 0) : MatchAt xb a1 c1 s a b i j B ra rb := by
 intro w a2 a3 c2 c3 hB h1 ta tb
 obtain ⟨hi', hca, hsa⟩ := skip_drop (k := 0) hra
 have h12 : -12 ≤ a[i] := by
  simp only [codeOk, Bool.or_eq_true, decide_eq_true_eq] at hca
  omega
 obtain ⟨hj, -, -⟩ := skip_drop (k := 0) hrb
 have hrw : ra = a.drop (i + 1) := by
  have : ar s a[i] = 0 := by unfold ar arC; rw [if_pos ⟨h12, by omega⟩]; rfl
  rw [this] at hsa
  rw [Nat.add_zero, skip_zero] at hsa
  exact (Option.some.inj hsa).symm
 have hal : a.length - ra.length = i + 1 := by rw [hrw, List.length_drop]; omega
 obtain ⟨n, hx⟩ : ∃ n : Nat, a[i] = -(n : Int) - 1 := ⟨(-a[i] - 1).toNat, by omega⟩
 have hn12 : n < 12 := by omega
 obtain ⟨u, hu⟩ : ∃ u, partAt s (b.drop j) = u := ⟨_, rfl⟩
 have huw : partW s (b.drop j) = u := by rw [← part_same hrb]; exact hu
 have hrbw := skw_of_skip hrb
 have hu1 : 1 ≤ u.length := by rw [← hu]; exact (partAt_eq hrb).2.2
 have hvar := fun h => hM.var hi hn hrbw h
 have hwf : ∀ q, B (-(n : Int) - 1) = some q → 1 ≤ q.length := fun q h => (hM.wf _ _ h).len
 have hvno := fun v h1 h2 => hM.var_no (u := v) hi hn hrbw h1 h2
 rw [huw] at hvar
 rw [hx] at hvar
 simp only [hx, huw] at hvno
 rw [← hal] at hvar
 obtain ⟨ba, oa, rfl, hba, qa, -⟩ := ta.int i hi
 rw [hx] at qa
 have cp := fun W (hb : Below w.heap.size w W) => rPart_any a1 a3 c1 c3 s b j rb W (h1.below hb) (tb.below hb) hok hrb lb
 rw [hu] at cp
 have hBb := fun W (hb : Below w.heap.size w W) => hB.below hb
 have hxlt := hB.lt
 have m1 := h1.le
 have m2 := ta.le
 have m3 := tb.le
 have hw1 : IntKind.i64.wrap (-(-(n : Int) - 1)) = (n : Int) + 1 := by rw [IntWalk.i64_in _ (by omega)]; omega
 have hw2 : IntKind.i64.wrap ((n : Int) + 1 - 1) = (n : Int) := by rw [IntWalk.i64_in _ (by omega)]; omega
 have hdv : decide (-(n : Int) - 1 < 0) = true := by simp; omega
 have cpH := Lib.hid cp
 have hBbH := Lib.hid hBb
 have hvarH := Lib.hid hvar
 have hwfH := Lib.hid hwf
 have hn12' : (n : Int) < 12 := by omega
 have hxltH := Lib.hid hxlt
 have hvnoH := Lib.hid hvno
 have hba' : ba ≠ xb := hba
 clear hM hB h1 ta tb h12 hi' hca hsa hrw hal hx hu huw hrbw hra hrb cp hBb hvar hvno hn hba hwf hxlt
 have qad := cell_later (Below.drew (.refl w.heap.size _)) qa
 have hk0 : Below w.heap.size w w.drew ∧ w.drew.cell? ⟨ba, oa + i, none⟩ = some (.int .i64 (-(n : Int) - 1)) := ⟨Below.drew (.refl w.heap.size _), qad⟩
 go_enter Tryz.func124, Tryz.ntmps124
 go_wp2_with fail
 clear qad
 go_region_held3 (fun w' => Below w.heap.size w w' ∧ w'.cell? ⟨ba, oa + i, none⟩ = some (.int .i64 (-(n : Int) - 1)))
  ((first | exact hk0 | exact keep1 ‹_› hbP))
  ((go_at_call 168; (with_reducible refine (cpH.out _ ?_).mono ?_); exact (And.left ‹_›); rintro e w2 ⟨vP, rfl, hoP, hbP⟩; obtain ⟨aP, cP, rfl, hIP⟩ := OwnI.ints hoP))
 have hB2 := And.left (‹Below w.heap.size w w2 ∧ _›)
 have hM2 := hBbH.out w2 hB2
 obtain ⟨v, qv, hv⟩ := hM2.slot hn12
 have hfz := hM2.frozen n
 have IP : Ints (Nx xb) w2 aP cP u := hIP.weak (fun b hb e => by
  have hb' : w.heap.size ≤ b := hb
  have := hxltH.out
  omega)
 obtain ⟨bP, oP, rfl, -, -, -⟩ := IP.int 0 (by omega)
 have hB2H := Lib.hid hB2
 have hM2H := Lib.hid hM2
 have IPH := Lib.hid IP
 clear hIP hoP hbP hk0 hB2 hM2 IP hBbH cpH
 cases hBn : B (-(n : Int) - 1) with
 | none =>
  rw [hBn] at hv
  change v = .slice none 0 0 at hv
  subst hv
  have heq := eql_nil
  go_upto_region 5 with fail
  obtain ⟨w3, hw3⟩ : ∃ w3, w2.setCell ⟨xb, n, none⟩ (.slice (some ⟨bP, oP, none⟩) u.length cP) = w3 := ⟨_, rfl⟩
  have hM3 : BoxM w3 xb (upB B (-(n : Int) - 1) u) := by rw [← hw3]; exact hM2H.out.set IPH.out
  have hg3 : w2.grownBy w3 (some xb) := by rw [← hw3]; exact gby_set _ _ _ _
  have IP3 : Ints (Nx xb) w3 (some ⟨bP, oP, none⟩) cP u := IPH.out.same (.of_grown hg3 (fun b hb e => hb (by cases e; rfl)))
  have cs := Lib.hid (Same_any _ _ cP cP u u w3 IP3 IP3)
  have q3 : w3.cell? ⟨xb, n, none⟩ = some (.slice (some ⟨bP, oP, none⟩) u.length cP) := by rw [← hw3]; clear hM3 hg3 IP3 cs hw3; go_simp
  have hvr := hvarH.out (.inl hBn)
  have hM3H := Lib.hid hM3
  have hg3H := Lib.hid (gby_trans (gby_below hB2H.out) hg3)
  have hvrH := Lib.hid hvr
  rw [hw3]
  clear hw3 hM3 hg3 IP3 hvr hvarH hvnoH hwfH qv hfz hM2H IPH hB2H
  go_wp2_with fail
  refine cs.out.mono ?_
  rintro e w4 ⟨rfl, hd4⟩
  go_wp2_with fail
  go_ret
  exact ⟨true, _, by simp, gby_trans hg3H.out (gby_below (hd4.below _)), hM3H.out.below (hd4.below _), fun e => (by cases e), fun _ => hvrH.out⟩
 | some q =>
  rw [hBn] at hv
  obtain ⟨aQ, cQ, rfl, IQ⟩ := hv
  have hq1 := hwfH.out q hBn
  obtain ⟨bQ, oQ, rfl, -, -, -⟩ := IQ.int 0 (by omega)
  have cs := Lib.hid (Same_any _ _ cQ cP q u w2 IQ IPH.out)
  have hBnH := Lib.hid hBn
  have mq := IQ.le
  have heq := eql_some bQ oQ q.length cQ
  clear IQ IPH hBn hwfH
  go_wp2_with fail
  refine cs.out.mono ?_
  rintro e w4 ⟨rfl, hd4⟩
  have hM4H := Lib.hid (hM2H.out.below (hd4.below _))
  have hg4 : w.grownBy w4 (some xb) := gby_trans (gby_below hB2H.out) (gby_below (hd4.below _))
  have hg4H := Lib.hid hg4
  clear cs hd4 hB2H hM2H qv hfz hg4
  by_cases hqu : q = u
  ·have hd : decide (q = u) = true := decide_eq_true hqu
   have hvr := hvarH.out (.inr (by rw [hBnH.out, hqu]))
   have hvrH := Lib.hid hvr
   have huB : upB B (-(n : Int) - 1) u = B := by
    funext m; unfold upB; split
    ·rename_i e; rw [e, hBnH.out, hqu]
    ·rfl
   rw [huB] at hvrH
   clear hvr hvarH hvnoH huB hqu
   go_wp2_with fail
   go_ret
   exact ⟨true, B, rfl, hg4H.out, hM4H.out, fun e => (by cases e), fun _ => hvrH.out⟩
  ·have hd : decide (q = u) = false := decide_eq_false hqu
   have hvn := Lib.hid (hvnoH.out q hBnH.out hqu)
   clear hvarH hvnoH hqu
   go_wp2_with fail
   go_ret
   exact ⟨false, B, rfl, hg4H.out, hM4H.out, fun _ => hvn.out, fun e => (by cases e)⟩
def mloopRel (w : World) (xb : Nat) (s : Sg) (a b : List Int) (i j m : Nat) (x : Value) (wr : World) : Prop :=
 ∃ (k : Nat) (B : Bd) (la lb : List Int), x = .int .i64 k ∧ k ≤ m ∧ skip s k (a.drop (i + 1)) = some la ∧ skip s k (b.drop (j + 1)) = some lb ∧ MRel s a b (a.length - la.length) (b.length - lb.length) B ∧ BoxM wr xb B ∧ w.grownBy wr (some xb)
theorem posK_len {s : Sg} {n : Nat} : ∀ (m : Nat) (l : List Int), (posK s n m l).length = m
 | 0, _ => rfl
 | m + 1, l => by rw [posK, List.length_cons, posK_len m]
theorem posK_val {s : Sg} {n k m : Nat} {l l' : List Int} (h : skip s k l = some l') (hk : k < m) : (posK s n m l)[k]'(by rw [posK_len]; exact hk) = ((n - l'.length : Nat) : Int) := by
 have := posK_get (n := n) h hk
 rw [List.getElem?_eq_getElem (by rw [posK_len]; exact hk)] at this
 exact Option.some.inj this
def S3 (xb : Nat) (vi vj : Value) (ci cj : Addr) (wr w' : World) : Prop := wr.grownBy w' (some xb) ∧ w'.cell? ci = some vi ∧ w'.cell? cj = some vj
theorem keepM {xb : Nat} {vi vj : Value} {ci cj : Addr} {wr w1 w2 : World} (h : wr.grownBy w1 (some xb) ∧ w1.cell? ci = some vi ∧ w1.cell? cj = some vj) (hi : ci.block ≠ xb) (hj : cj.block ≠ xb) (hg : w1.grownBy w2 (some xb)) :
  wr.grownBy w2 (some xb) ∧ w2.cell? ci = some vi ∧ w2.cell? cj = some vj :=
 ⟨gby_trans h.1 hg, (World.cell?_of_block (hg.block _ (World.block_lt_of_cell? _ _ h.2.1) (fun e => hi (by cases e; rfl)))).trans h.2.1, (World.cell?_of_block (hg.block _ (World.block_lt_of_cell? _ _ h.2.2) (fun e => hj (by cases e; rfl)))).trans h.2.2⟩
set_option maxRecDepth 20000 in
set_option maxHeartbeats 4000000 in
theorem match_sym {xb : Nat} {a1 : Option Addr} {c1 : Nat} {s : Sg} {a b : List Int} {i j : Nat} {B : Bd} {ra rb : List Int} (hok : okSign s = true) (la : a.length ≤ 60) (lb : b.length ≤ 60)
  (hra : skip s 1 (a.drop i) = some ra) (hrb : skip s 1 (b.drop j) = some rb) (hM : MRel s a b i j B) (hi : i < a.length) (hn : ¬ a[i] < 0)
  (hrec : ∀ i' j' B' ra' rb', i < i' → skip s 1 (a.drop i') = some ra' → skip s 1 (b.drop j') = some rb' → MRel s a b i' j' B' → MatchAt xb a1 c1 s a b i' j' B' ra' rb') : MatchAt xb a1 c1 s a b i j B ra rb := by
 intro w a2 a3 c2 c3 hB h1 ta tb
 obtain ⟨hi', hca, hsa⟩ := skip_drop (k := 0) hra
 obtain ⟨hj, hcb, hsb⟩ := skip_drop (k := 0) hrb
 rw [Nat.zero_add] at hsa hsb
 have hno := hM.sym_no hi hj hn
 have hyes := hM.sym hi hj hn
 have hiN := hi
 have hjN := hj
 obtain ⟨ba, oa, rfl, hba, qa, raR⟩ := ta.int i hi
 obtain ⟨bb, ob, rfl, hbb, qb, rbR⟩ := tb.int j hj
 have cA := fun W (hb : Below w.heap.size w W) => rArguments_any a1 (some ⟨ba, oa, none⟩) c1 c2 s a i ra W (h1.below hb) (ta.below hb) hok hra la
 have cB := fun W (hb : Below w.heap.size w W) => rArguments_any a1 (some ⟨bb, ob, none⟩) c1 c3 s b j rb W (h1.below hb) (tb.below hb) hok hrb lb
 rw [List.getD_eq_getElem?_getD, List.getElem?_eq_getElem hi, Option.getD_some] at cA
 rw [List.getD_eq_getElem?_getD, List.getElem?_eq_getElem hj, Option.getD_some] at cB
 obtain ⟨x, hx⟩ : ∃ x, a[i] = x := ⟨_, rfl⟩
 obtain ⟨y, hy⟩ : ∃ x, b[j] = x := ⟨_, rfl⟩
 rw [hx] at qa hn hno hyes cA hsa raR
 rw [hy] at qb hno hyes cB hsb rbR
 have m1 := h1.le
 have m2 := ta.le
 have m3 := tb.le
 have hxlt := hB.lt
 have hdv : decide (x < 0) = false := by simpa using hn
 have cAH := Lib.hid cA
 have cBH := Lib.hid cB
 have hBH := Lib.hid hB
 have h1H := Lib.hid h1
 have taH := Lib.hid ta
 have tbH := Lib.hid tb
 have hsaH := Lib.hid hsa
 have hsbH := Lib.hid hsb
 have hyesH := Lib.hid hyes
 have hnoH := Lib.hid hno
 have hrecH := Lib.hid hrec
 have hMlH := Lib.hid (show a.length - (a.drop (i + 1)).length = i + 1 ∧ b.length - (b.drop (j + 1)).length = j + 1 by rw [List.length_drop, List.length_drop]; omega)
 have hxltH := Lib.hid hxlt
 have hba' : ba ≠ xb := hba
 have hbb' : bb ≠ xb := hbb
 clear hM hB h1 ta tb hca hsa hcb hsb hra hrb cA cB hno hyes hn hba hbb hx hy hrec hi' hxlt hok raR rbR
 go_enter Tryz.func124, Tryz.ntmps124
 go_wp2_with fail
 go_quiet (fail)
 by_cases hxy : x = y
 case neg =>
  have hne : (x != y) = true := by simpa using hxy
  have hnn := Lib.hid (hnoH.out (fun e => hxy e.symm))
  clear cAH cBH hsaH hsbH hyesH hnoH hrecH hMlH hxy h1H taH tbH
  all_goals go_wp2_with fail
  all_goals go_ret
  exact ⟨false, B, rfl, gby_below ((Drew.mk _ _).below _), hBH.out.below ((Drew.mk _ _).below _), fun _ => hnn.out, fun e => (by cases e)⟩
 have hne : (x != y) = false := by simpa using hxy
 have hyes := hyesH.out hxy.symm
 subst hxy
 go_upto_region 8 with fail
 obtain ⟨w2, hw2⟩ : ∃ w2, w.drewN nq = w2 := ⟨_, rfl⟩
 have hb2 : Below w.heap.size w w2 := by rw [← hw2]; exact (Drew.mk _ _).below _
 rw [hw2]
 have hb2H := Lib.hid hb2
 clear hw2 hb2 qa qb
 go_wp2_with fail
 (with_reducible refine (cAH.out w2 hb2H.out).mono ?_)
 rintro e w3 ⟨vP, rfl, hoP, hbP⟩
 obtain ⟨aP, cP, rfl, hIP⟩ := OwnI.ints hoP
 have hb3 := bcall hb2H.out hbP
 have hb3H := Lib.hid hb3
 have hIPH := Lib.hid (hIP.weak (S' := Nx xb) (fun b hb e => by
  have hb' : w2.heap.size ≤ b := hb
  have h2 : w.heap.size ≤ w2.heap.size := hb2H.out.size
  have := hxltH.out
  omega))
 clear hoP hIP hb3 hbP
 go_wp2_with fail
 (with_reducible refine (cBH.out w3 hb3H.out).mono ?_)
 rintro e w4 ⟨vQ, rfl, hoQ, hbQ⟩
 obtain ⟨aQ, cQ, rfl, hIQ⟩ := OwnI.ints hoQ
 have hb4 := bcall hb3H.out hbQ
 have hIP4H := Lib.hid (hIPH.out.below hbQ)
 have hIQ4H := Lib.hid (hIQ.weak (S' := Nx xb) (fun b hb e => by
  have hb' : w3.heap.size ≤ b := hb
  have h2 : w.heap.size ≤ w3.heap.size := hb3H.out.size
  have := hxltH.out
  omega))
 have hB4H := Lib.hid (hBH.out.below hb4)
 have h14H := Lib.hid (h1H.out.below hb4)
 have ta4H := Lib.hid (taH.out.below hb4)
 have tb4H := Lib.hid (tbH.out.below hb4)
 have hb4H := Lib.hid hb4
 obtain ⟨m, hm⟩ : ∃ m, ar s x = m := ⟨_, rfl⟩
 rw [hm] at hIP4H hIQ4H hsaH hsbH
 have hlP : (posK s a.length m (a.drop (i + 1))).length = m := posK_len _ _
 have hlQ : (posK s b.length m (b.drop (j + 1))).length = m := posK_len _ _
 have hm3 : m ≤ 1000 := by
  have := skip_len s m _ _ hsaH.out
  rw [List.length_drop] at this
  omega
 have hyes' : MRel s a b (a.length - (a.drop (i + 1)).length) (b.length - (b.drop (j + 1)).length) B := by rw [hMlH.out.1, hMlH.out.2]; exact hyes
 have hyH := Lib.hid hyes'
 rw [hm]
 have hm0 : m ≤ m := Nat.le_refl m
 clear hm hoQ hIQ hbQ hb4 hIPH hb3H hb2H hBH h1H taH tbH cAH cBH hyes hyes' hyesH hnoH hne
 go_wp2_with fail
 go_loopw [17] (fun z wr => mloopRel w4 xb s a b i j m z wr) (fun z _ => m - (intOf z).toNat)
 case atStart => exact ⟨0, B, _, _, rfl, Nat.zero_le _, skip_zero _ _, skip_zero _ _, hyH.out, hB4H.out, gby_refl _ _⟩
 case round =>
  obtain ⟨k, B1, pa, pb, rfl, hk, ka, kb, hM1, hB1, hg⟩ := hrel
  by_cases hkm : k < m
  ·obtain ⟨pa2, n1, n2⟩ := skip_next ka hsaH.out hkm
   obtain ⟨pb2, o1, o2⟩ := skip_next kb hsbH.out hkm
   obtain ⟨e1, e2⟩ := skip_at ka (by omega)
   obtain ⟨f1, f2⟩ := skip_at kb (by omega)
   have n1' : skip s 1 (a.drop (a.length - pa.length)) = some pa2 := by rw [← e1]; exact n1
   have o1' : skip s 1 (b.drop (b.length - pb.length)) = some pb2 := by rw [← f1]; exact o1
   have hcall := hrecH.out _ _ B1 pa2 pb2 (by omega) n1' o1' hM1
   have hA : Agree (Nx xb) w4 wr := .of_grown hg (fun b hb e => hb (by cases e; rfl))
   obtain ⟨bi, oi, rfl, hbi, qi, -⟩ := (hIP4H.out.same hA).int k (by rw [hlP]; exact hkm)
   obtain ⟨bj, oj, rfl, hbj, qj, -⟩ := (hIQ4H.out.same hA).int k (by rw [hlQ]; exact hkm)
   rw [posK_val ka hkm] at qi
   rw [posK_val kb hkm] at qj
   obtain ⟨gi, hgi⟩ : ∃ g, a.length - pa.length = g := ⟨_, rfl⟩
   obtain ⟨gj, hgj⟩ : ∃ g, b.length - pb.length = g := ⟨_, rfl⟩
   rw [hgi] at qi hcall
   rw [hgj] at qj hcall
   have hbd : Below wr.heap.size wr wr.drew := Below.drew (.refl wr.heap.size _)
   have hc := hcall wr.drew _ _ c2 c3 (hB1.below hbd) ((h14H.out.same hA).below hbd) ((ta4H.out.same hA).below hbd) ((tb4H.out.same hA).below hbd)
   have hcH := Lib.hid hc
   have hk0 : wr.grownBy wr.drew (some xb) ∧ wr.drew.cell? ⟨bi, oi + k, none⟩ = some (.int .i64 (gi : Int)) ∧ wr.drew.cell? ⟨bj, oj + k, none⟩ = some (.int .i64 (gj : Int)) := ⟨gby_below hbd, cell_later hbd qi, cell_later hbd qj⟩
   have hgH := Lib.hid hg
   have n2H := Lib.hid n2
   have o2H := Lib.hid o2
   clear n1 o1 n1' o1' e1 e2 f1 f2 hcall hA hgi hgj hbd hc hg hM1 hB1 ka kb n2 o2
   go_wp2_with fail
   go_region_held3 (fun w' => wr.grownBy w' (some xb) ∧ w'.cell? ⟨bi, oi + k, none⟩ = some (.int .i64 (gi : Int)) ∧ w'.cell? ⟨bj, oj + k, none⟩ = some (.int .i64 (gj : Int)))
    ((first | exact hk0 | exact keepM ‹_› hbi hbj hgS))
    ((go_at_call 124; (with_reducible refine hcH.out.mono ?_); rintro e w' ⟨r, B', rfl, hgS, hBS, hf, ht⟩))
   have hgW := And.left (‹wr.grownBy w' (some xb) ∧ _›)
   have hgWH := Lib.hid (gby_trans (gby_below hb4H.out) (gby_trans hgH.out hgW))
   have hg4H := Lib.hid (gby_trans hgH.out hgW)
   have hBSH := Lib.hid hBS
   have hfH := Lib.hid hf
   have htH := Lib.hid ht
   clear hgW hBS hf ht hgS hk0 hcH hgH
   cases r with
   | false =>
    go_wp2_with fail
    go_ret
    exact ⟨false, B', rfl, hgWH.out, hBSH.out, fun _ => hfH.out (by simp), fun e => (by cases e)⟩
   | true =>
    go_wp2_with fail
    go_roundw
    case rel => exact ⟨k + 1, B', pa2, pb2, by go_num, by omega, n2H.out, o2H.out, htH.out (by simp), hBSH.out, hg4H.out⟩
    case measure => simp [intOf]; omega
  ·have hkm' : k = m := by omega
   subst hkm'
   have ea : pa = ra := Option.some.inj (ka.symm.trans hsaH.out)
   have eb : pb = rb := Option.some.inj (kb.symm.trans hsbH.out)
   subst ea
   subst eb
   have hMH := Lib.hid hM1
   have hBH := Lib.hid hB1
   have hgF := Lib.hid (gby_trans (gby_below hb4H.out) hg)
   clear hM1 hB1 hg ka kb
   go_wp2_with fail
   go_ret
   exact ⟨true, B1, rfl, hgF.out, hBH.out, fun e => (by cases e), fun _ => hMH.out⟩
theorem rmatched_any {xb : Nat} {a1 : Option Addr} {c1 : Nat} {s : Sg} {a b : List Int} (hok : okSign s = true) (la : a.length ≤ 60) (lb : b.length ≤ 60) : ∀ (N i j : Nat) (B : Bd) (ra rb : List Int), a.length - i ≤ N →
  skip s 1 (a.drop i) = some ra → skip s 1 (b.drop j) = some rb → MRel s a b i j B → MatchAt xb a1 c1 s a b i j B ra rb := by
 intro N
 induction N with
 | zero =>
  intro i j B ra rb hN hra hrb hM
  obtain ⟨hi, -, -⟩ := skip_drop (k := 0) hra
  omega
 | succ N ih =>
  intro i j B ra rb hN hra hrb hM
  obtain ⟨hi, -, -⟩ := skip_drop (k := 0) hra
  by_cases hn : a[i] < 0
  ·exact match_var hok la lb hra hrb hM hi hn
  ·exact match_sym hok la lb hra hrb hM hi hn (fun i' j' B' ra' rb' h1 h2 h3 h4 => ih i' j' B' ra' rb' (by omega) h2 h3 h4)
end Go.Proofs.YtpmnnoopoblpgaaGreat

/- Walks: lemmaryref02.Variable, Match, Instance. -/
namespace Go.Proofs.YtpmnnoopoblpgaaGreat
open Go Go.RowKit Go.Maps

def twoE : Enc Unit where
 size := 2
 pos := by decide
 R := fun _ _ vs _ => vs.length = 2 ∧ ∀ u ∈ vs, u.oneCell' = true
 len := fun h => h.1
 one := fun h => h.2
 mono := fun h _ _ => h
theorem rVariable_any (v : Nat) (hv : v ≤ 1000) (w : World) :
  Calls Tryz.prog 126 #[.int .i64 v] w fun e w' => ∃ a c, e = .returned (.slice a 1 c) ∧ Ints (fun b => w.heap.size ≤ b) w' a c [-(v : Int) - 1] ∧ Below w.heap.size w w' := by
 have hw1 : IntKind.i64.wrap (-(v : Int)) = -(v : Int) := IntWalk.i64_in _ (by omega)
 have hw2 : IntKind.i64.wrap (-(v : Int) - 1) = -(v : Int) - 1 := IntWalk.i64_in _ (by omega)
 have hV := Lib.hid (fun W : World => Ints.new W [-(v : Int) - 1] 3 (by simp [big]) (by unfold inRange; simp; omega))
 go_enter Tryz.func126, Tryz.ntmps126
 go_wp2_with fail
 go_ret
 exact ⟨_, _, rfl, (hV.out w).weak (fun b hb => by have hb' : b = w.heap.size := hb; omega), below1 w _⟩
theorem infoBind : (Tryz.prog.info? 125).map (fun i => (i.zero, i.size, i.bytes)) = some (some (.agg #[.int .i64 0, .slice none 0 0]), 2, 32) := by kernel_rfl
set_option maxRecDepth 20000 in
theorem two_push {w wr w1 : World} {out : Value} {l : List Unit} (ho : OwnL twoE (fun _ => False) wr w.heap.size 125 out l) (hB : Below w.heap.size w wr) (hB1 : Below wr.heap.size wr w1) {v1 v2 : Value} (h1 : v1.oneCell' = true) (h2 : v2.oneCell' = true) (hl : l.length + 1 ≤ 1000) :
  ∃ v' w', RowKit.Hid ((Builtin.append_ #[74, 74] 74 #[out, .slice (some ⟨w1.heap.size, 0, none⟩) 1 1]).run Tryz.prog (w1.alloc (.cells #[v1, v2] 125)) = .ok v' w') ∧ RowKit.Hid (OwnL twoE (fun _ => False) w' w.heap.size 125 v' (l ++ [()])) ∧ RowKit.Hid (Below w.heap.size w w') := by
 have ho1 := ho.call hB1
 obtain ⟨v', w', g1, g2, g3, -⟩ := ho1.push (P := Tryz.prog) (t := 74) (ty := 74) rfl infoBind rfl (vs := [v1, v2]) (x := ()) ⟨rfl, fun u hu => by
  simp only [List.mem_cons, List.not_mem_nil, or_false] at hu
  rcases hu with rfl | rfl <;> assumption⟩ (by omega) (by unfold big; omega) (Nat.le_trans hB.size hB1.size)
 exact ⟨v', w', Lib.hid g1, Lib.hid g2, Lib.hid ((bcall hB hB1).grown g3 (Nat.le_trans hB.size hB1.size) (fun j e => (ho1.lt j e).1))⟩
def mtRel (w : World) (out i : Value) (wr : World) : Prop :=
 ∃ (k : Nat) (l : List Unit), i = .int .i64 k ∧ k ≤ 12 ∧ l.length ≤ k ∧ OwnL twoE (fun _ => False) wr w.heap.size 125 out l ∧ Below w.heap.size w wr
def mtRet (r : Bool) (w : World) (e : Ending) (w' : World) : Prop := ∃ v E, e = .returned (.tuple #[v, .int .i64 E]) ∧ (E == 0) = r ∧ Below w.heap.size w w'
set_option maxRecDepth 20000 in
set_option maxHeartbeats 4000000 in
theorem rMatch_any {S1 S2 S3 : Nat → Prop} (a1 a2 a3 : Option Addr) (c1 c2 c3 : Nat) (s : Sg) (a b : List Int) (w : World) (h1 : Sign S1 w a1 c1 s) (h2 : Ints S2 w a2 c2 a) (h3 : Ints S3 w a3 c3 b) :
  Calls Tryz.prog 71 #[.slice a1 s.length c1, .slice a2 a.length c2, .slice a3 b.length c3] w (mtRet (okT s a && okT s b && instB s a b) w) := by
 have m1 := h1.le
 have m2 := h2.le
 have m3 := h3.le
 have v1 := Lib.hid (rValid_any a1 a2 c1 c2 s a w h1 h2)
 have v2 := Lib.hid (fun W (hd : Drew w W) => rValid_any a1 a3 c1 c3 s b W (h1.drew hd) (h3.drew hd))
 cases ha : okT s a with
 | false =>
  rw [ha] at v1
  clear v2 h1 h2 h3
  go_enter Tryz.func71, Tryz.ntmps71
  go_wp2_with fail
  refine v1.out.mono ?_
  rintro e w1 ⟨rfl, hd1⟩
  go_wp2_with fail
  go_ret2
  exact ⟨_, _, rfl, by simp, hd1.below _⟩
 | true =>
 rw [ha] at v1
 cases hb : okT s b with
 | false =>
  rw [hb] at v2
  clear h1 h2 h3
  go_enter Tryz.func71, Tryz.ntmps71
  go_wp2_with fail
  refine v1.out.mono ?_
  rintro e w1 ⟨rfl, hd1⟩
  go_wp2_with fail
  refine (v2.out _ hd1).mono ?_
  rintro e w2 ⟨rfl, hd2⟩
  go_wp2_with fail
  go_ret2
  exact ⟨_, _, rfl, by simp, (drew_trans hd1 hd2).below _⟩
 | true =>
 rw [hb] at v2
 obtain ⟨hok, -, la, ka⟩ := okT_parts ha
 obtain ⟨-, -, lb, kb⟩ := okT_parts hb
 have hstart := MRel.start (okT_w1 ha) (okT_w1 hb)
 have cm : ∀ W, Drew w W → ∀ W3, Below W.heap.size W W3 → BoxM W3 W.heap.size (fun _ => none) → Calls Tryz.prog 124 #[.slice a1 s.length c1, .slice a2 a.length c2, .slice a3 b.length c3, .int .i64 0, .int .i64 0, .pointer (some ⟨W.heap.size, 0, none⟩)] W3 (matchRet W3 W.heap.size s a b [] []) := by
  rintro W ⟨n, rfl⟩ W3 hb3 hM
  exact rmatched_any hok la lb a.length 0 0 (fun _ => none) [] [] (Nat.sub_le _ _) ka kb hstart W3 a2 a3 c2 c3 hM (((h1.lt.drewN n).below hb3).weak (fun b hb e => by have := hb.2; rw [e] at this; exact Nat.lt_irrefl _ this)) (((h2.lt.drewN n).below hb3).weak (fun b hb e => by have := hb.2; rw [e] at this; exact Nat.lt_irrefl _ this)) (((h3.lt.drewN n).below hb3).weak (fun b hb e => by have := hb.2; rw [e] at this; exact Nat.lt_irrefl _ this))
 have cmH := Lib.hid cm
 clear h1 h2 h3 hok ka kb hstart cm
 go_enter Tryz.func71, Tryz.ntmps71
 go_wp2_with fail
 refine v1.out.mono ?_
 rintro e w1 ⟨rfl, hd1⟩
 go_wp2_with fail
 refine (v2.out _ hd1).mono ?_
 rintro e w2 ⟨rfl, hd2⟩
 have hd := drew_trans hd1 hd2
 obtain ⟨W3, hW3⟩ : ∃ W3, w2.alloc (.cells #[.slice none 0 0, .slice none 0 0, .slice none 0 0, .slice none 0 0, .slice none 0 0, .slice none 0 0, .slice none 0 0, .slice none 0 0, .slice none 0 0, .slice none 0 0, .slice none 0 0, .slice none 0 0] 120) = W3 := ⟨_, rfl⟩
 have hM3 : BoxM W3 w2.heap.size (fun _ => none) := by rw [← hW3]; exact BoxM.new w2
 have hb3 : Below w2.heap.size w2 W3 := by rw [← hW3]; exact below1 _ _
 have cc := Lib.hid (cmH.out w2 hd W3 hb3 hM3)
 have hbW := Lib.hid (bcall (hd.below w.heap.size) hb3)
 have hsz : w.heap.size ≤ w2.heap.size := (hd.below w.heap.size).size
 clear cmH hd hd1 hd2 v1 v2
 go_upto_region 4 with fail
 try rw [hW3]
 clear hW3 hM3 hb3
 go_wp2_with fail
 (with_reducible refine cc.out.mono ?_)
 rintro e w4 ⟨r, B', rfl, hg, hM4, hf, ht⟩
 have hb4 := below_of_gby hbW.out hg hbW.out.size hsz
 have hb4H := Lib.hid hb4
 have hM4H := Lib.hid hM4
 clear hbW hsz cc hg hb4 hM4
 cases r with
 | false =>
  have hi := Lib.hid (hf rfl)
  clear hf ht
  go_wp2_with fail
  go_ret2
  exact ⟨_, _, rfl, by rw [hi.out]; rfl, hb4H.out⟩
 | true =>
  have hi : instB s a b = true := MRel.done (ht rfl)
  have hiH := Lib.hid hi
  have hwfH := Lib.hid (fun n u (h : B' n = some u) => ((ht rfl).wf n u h).len)
  clear hf ht hi
  go_wp2_with fail
  go_loopw [9, 10] (fun out i wr => mtRel w4 out i wr) (fun _ i _ => 12 - (intOf i).toNat)
  case atStart => exact ⟨0, [], rfl, Nat.zero_le _, Nat.le_refl _, .nil _ _ _ _ _, .refl _ _⟩
  case round =>
   obtain ⟨k, l, rfl, hk, hlk, ho, hB⟩ := hrel
   by_cases hkm : k < 12
   ·have hk12 : (k : Int) < 12 := by omega
    obtain ⟨v, qv, hv⟩ := (hM4H.out.below hB).slot hkm
    cases hBn : B' (-(k : Int) - 1) with
    | none =>
     rw [hBn] at hv
     change v = .slice none 0 0 at hv
     subst hv
     have hoH := Lib.hid (fun W (hb : Below wr.heap.size wr W) => ho.call hb)
     have hBH := Lib.hid hB
     clear ho hB hBn
     go_wp2_with fail
     go_quiet (fail)
     all_goals go_wp2_with fail
     go_roundw
     case rel => exact ⟨k + 1, l, by go_num, by omega, by omega, hoH.out _ ((Drew.mk _ _).below _), bcall hBH.out ((Drew.mk _ _).below _)⟩
     case measure => simp [intOf]; omega
    | some u =>
     rw [hBn] at hv
     obtain ⟨aQ, cQ, rfl, IQ⟩ := hv
     have hu1 := hwfH.out _ _ hBn
     obtain ⟨bQ, oQ, rfl, -, -, -⟩ := IQ.int 0 (by omega)
     obtain ⟨d, hd⟩ : ∃ d, decide (u = [-(k : Int) - 1]) = d := ⟨_, rfl⟩
     have mq := IQ.le
     have cv := Lib.hid (fun W (_ : Below wr.heap.size wr W) => rVariable_any k (by omega) W)
     have cs : ∀ (S : Nat → Prop) (W : World) (a : Option Addr) (c : Nat), Below wr.heap.size wr W → Ints S W a c [-(k : Int) - 1] → Calls Tryz.prog 125 #[.slice (some ⟨bQ, oQ, none⟩) u.length cQ, .slice a 1 c] W fun e w' => e = .returned (.bool d) ∧ Drew W w' := fun S W a c hb hi => by
      rw [← hd]; exact Same_any _ a cQ c u [-(k : Int) - 1] W (IQ.below hb) hi
     have csH := Lib.hid cs
     have hpush := fun W (hb : Below wr.heap.size wr W) => two_push ho hB hb (v1 := .int .i64 k) (v2 := .slice (some ⟨bQ, oQ, none⟩) u.length cQ) rfl rfl (by omega)
     have hpushH := Lib.hid hpush
     have hoH := Lib.hid (fun W (hb : Below wr.heap.size wr W) => ho.call hb)
     have hBH := Lib.hid hB
     obtain ⟨a', c', rfl, -⟩ := ho.sl
     have hbd : Below wr.heap.size wr wr.drew := Below.drew (.refl wr.heap.size _)
     have hk0 : Below wr.heap.size wr wr.drew ∧ wr.drew.cell? ⟨w2.heap.size, k, none⟩ = some (.slice (some ⟨bQ, oQ, none⟩) u.length cQ) := ⟨hbd, cell_later hbd qv⟩
     clear ho hB hBn IQ hd cs hpush hbd
     go_wp2_with fail
     go_region_held3 (fun w' => Below wr.heap.size wr w' ∧ w'.cell? ⟨w2.heap.size, k, none⟩ = some (.slice (some ⟨bQ, oQ, none⟩) u.length cQ))
      ((first | exact hk0 | exact keep1 ‹_› (hdS.below _) | exact keep1 ‹_› hbV))
      ((first
       | (go_at_call 126; (with_reducible refine (cv.out _ ?_).mono ?_); exact (And.left ‹_›); rintro e wV ⟨aV, cV, rfl, hIV, hbV⟩)
       | (go_at_call 125; (with_reducible refine (csH.out _ _ _ _ ?_ hIV).mono ?_); exact (And.left ‹_›); rintro e wS ⟨rfl, hdS⟩)))
     have hBS := And.left (‹Below wr.heap.size wr wS ∧ _›)
     have hqS : wS.cell? ⟨w2.heap.size, k, none⟩ = some (.slice (some ⟨bQ, oQ, none⟩) u.length cQ) := And.right (‹Below wr.heap.size wr wS ∧ _›)
     have hBSH := Lib.hid hBS
     cases d with
     | true =>
      clear hBS hpushH
      go_wp2_with fail
      go_roundw
      case rel => exact ⟨k + 1, l, by go_num, by omega, by omega, hoH.out _ hBSH.out, bcall hBH.out hBSH.out⟩
      case measure => simp [intOf]; omega
     | false =>
      obtain ⟨v', w', hrun', ho', hB'⟩ := hpushH.out wS hBS
      clear hBS hpushH hoH
      go_wp2_with (at_builtin; refine wpList_append_run rfl _ _ _ rfl rfl rfl hrun'.out ?_)
      go_roundw
      case rel => exact ⟨k + 1, l ++ [()], by go_num, by omega, by rw [List.length_append, List.length_singleton]; omega, ho'.out, hB'.out⟩
      case measure => simp [intOf]; omega
   ·have hkm' : k = 12 := by omega
    subst hkm'
    have hBF := Lib.hid (bcall hb4H.out hB)
    obtain ⟨a', c', rfl, -⟩ := ho.sl
    clear ho hB
    go_wp2_with fail
    go_ret2
    exact ⟨_, _, rfl, by rw [hiH.out]; rfl, hBF.out⟩
theorem rInstance_any {S1 S2 S3 : Nat → Prop} (a1 a2 a3 : Option Addr) (c1 c2 c3 : Nat) (s : Sg) (a b : List Int) (w : World) (h1 : Sign S1 w a1 c1 s) (h2 : Ints S2 w a2 c2 a) (h3 : Ints S3 w a3 c3 b) :
  Calls Tryz.prog 15 #[.slice a1 s.length c1, .slice a2 a.length c2, .slice a3 b.length c3] w fun e w' => e = .returned (.bool (okT s a && okT s b && instB s a b)) ∧ Below w.heap.size w w' := by
 have m1 := h1.le
 have m2 := h2.le
 have m3 := h3.le
 have cm := Lib.hid (rMatch_any a1 a2 a3 c1 c2 c3 s a b w h1 h2 h3)
 clear h1 h2 h3
 go_enter Tryz.func15, Tryz.ntmps15
 go_wp2_with fail
 refine cm.out.mono ?_
 rintro e w1 ⟨v, E, rfl, hE, hb1⟩
 go_wp2_with fail
 go_ret
 exact ⟨by rw [← hE]; rfl, hb1⟩
end Go.Proofs.YtpmnnoopoblpgaaGreat
