/- The proof of one statement, its texts joined in build order, part 4 of 4. Each part below begins with its own remark. -/
import Derived.Test.YtgkddhakhapjlaaGreatDoorMd3
import Derived.RegionIn
import Derived.OwnWalkIn
import Derived.Test.YtgkddhakhapjlaaGreatDoorMd2
import Derived.Test.YtgkddhakhapjlaaGreatDoorMd1
import Derived.ProofKit
import Derived.Deep.Slices
import Derived.OpenShut
import Derived.Deep.Strs
import Derived.Test.YtgkddhakhapjlaaGreatDoorRows
import Derived.LaidMore
import Derived.Stop.Joined
import Derived.Test.YtgkddhakhapjlaaGreatDoorCards
import Derived.Test.YtgkddhakhapjlaaGreatDoorTie
/- Walks of package kernel: the iterator over what the steps say. -/
namespace Go.Proofs.YtgkddhakhapjlaaGreatDoor
open Go Go.RowKit Go.Maps Go.Shelf

attribute [local go_sem] Oper.semAt_some

theorem wpListIn_append_run {F : Fence} {n : Nat} {P : Program} {Q : Exit → Act → World → Prop} {ops : Array Oper} {rest : List Oper} {o : Oper} {a : Act} {w : World} (hg : Region.wanted o (yielded ops a.tmps) = true) (s x : Operand) (t : TypeId)
    (ho : o.op = .call { callee := .builtin .append, args := #[s, x], argTypes := #[t, t] }) {vs vx : Value} (hs : a.eval s = vs) (hx : a.eval x = vx) {v' : Value} {w' : World}
    (hr : (Builtin.append_ #[t, t] o.type #[vs, vx]).run P w = .ok v' w') (h : wpListIn F n P ops Q rest (a.put o.dst v') w') : wpListIn F n P ops Q (o :: rest) a w :=
  NextIn.append (K := wpListIn F n P ops Q rest) hg s x t ho hs hx hr h
/-- what a step says, as it is handed over -/
structure Td where
  ap : Option Addr
  cp : Nat
  t : List Int
  e : Int
def Td.enc (x : Td) : Array Value := #[.agg #[.slice x.ap x.t.length x.cp, .int .i64 x.e]]
def Td.pt (x : Td) : List Int × Int := (x.t, x.e)
def TdR (x : Td) (W : World) : Prop := Ints (IntB W) W x.ap x.cp x.t ∧ x.t.length ≤ 60
theorem Td.size (x : Td) : x.enc.size = 1 := rfl
def Rw (B0 : Nat) (W : World) (r : Nat) (o : Obj) : Prop := ∃ cs t, o = .cells cs t (0, 0) ∧ t ≠ 3 ∧ r ≠ B0 ∧ some r ≠ rowOf B0 W
def Kp (B0 : Nat) (W W' : World) : Prop := Leaves B0 W W' ∧ IntKeep W W'
theorem Kp.trans {B0 : Nat} {A B C : World} (h : Kp B0 A B) (k : Kp B0 B C) : Kp B0 A C := ⟨h.1.trans k.1, h.2.trans k.2⟩
/-- what is told, step by step, up to the first that says nothing -/
noncomputable def toldL (s : Sg) (g : List (List Int)) : List Stp → List (List Int) → List (List Int × Int)
  | [], _ => []
  | x :: p, l => stepE s g l x :: (if (stepE s g l x).2 = 0 then toldL s g p (l ++ [(stepE s g l x).1]) else [])
theorem toldL_drop {s : Sg} {g l : List (List Int)} {p : List Stp} {k : Nat} (h : k < p.length) : toldL s g (p.drop k) l = stepE s g l p[k] :: (if (stepE s g l p[k]).2 = 0 then toldL s g (p.drop (k + 1)) (l ++ [(stepE s g l p[k]).1]) else []) := by
  rw [List.drop_eq_getElem_cons h, toldL]
theorem stepE_len {s : Sg} {g l : List (List Int)} {x : Stp} (hg : ∀ t ∈ g, okT s t = true) (hl : ∀ t ∈ l, okT s t = true) (hr : rightB g.length l.length x = true) : (stepE s g l x).1.length ≤ 60 := by
  by_cases h : (stepE s g l x).2 = 0
  · exact (okT_parts (step_okT hg hr h)).2.2.1
  · have : (stepE s g l x).1 = [] := by
      unfold stepE at h ⊢
      by_cases h1 : x.1 = 1
      · rw [if_pos h1] at h; exact (h rfl).elim
      · rw [if_neg h1] at h ⊢
        obtain ⟨-, d1, d2, d3, d4⟩ := rightB_detach hr h1
        rcases det_err (hl _ (getD_mem [] (show x.2.1.toNat < l.length by omega))) (hl _ (getD_mem [] (show x.2.2.toNat < l.length by omega))) with e | e
        · exact (h e).elim
        · exact e.1
    rw [this]; simp
theorem getD_get {l : List (List Int)} {n : Nat} (h : n < l.length) : l.getD n [] = l[n] := by rw [List.getD_eq_getElem?_getD, List.getElem?_eq_getElem h]; rfl
theorem okSteps_get {G : Int} : ∀ (p : List Stp) (n k : Nat) (h : k < p.length), okSteps G n p = true → rightB G (n + k) p[k] = true
  | x :: p, n, 0, _, h => by simp only [okSteps, Bool.and_eq_true] at h; simpa using h.1
  | x :: p, n, k + 1, hk, h => by
    simp only [okSteps, Bool.and_eq_true] at h
    have := okSteps_get p (n + 1) k (by simpa using hk) h.2
    rw [show n + 1 + k = n + (k + 1) by omega] at this
    simpa using this

structure SI (K B0 L0 sb gb pb ab : Nat) (a1 ag ap : Option Addr) (c1 cg cp : Nat) (s : Sg) (g : List (List Int)) (p : List Stp) (acc : List (List Int)) (W : World) : Prop where
  row : RowLt B0 W
  kle : K ≤ W.heap.size
  fcs : W.cell? ⟨sb, 0, none⟩ = some (.slice a1 s.length c1)
  ss : sb < K ∧ Safe B0 W sb
  fcg : W.cell? ⟨gb, 0, none⟩ = some (.slice ag g.length cg)
  fsg : gb < K ∧ Safe B0 W gb
  ca0 : W.cell? ⟨ab, 0, none⟩ = some (.func (.func 144) #[] #[.pointer (some ⟨sb, 0, none⟩), .pointer (some ⟨gb, 0, none⟩)])
  ca1 : W.cell? ⟨ab, 1, none⟩ = some (.func (.func 145) #[] #[.pointer (some ⟨sb, 0, none⟩), .pointer (some ⟨L0, 0, none⟩)])
  ta : ∃ cs, W.heap[ab]? = some (.cells cs 164 (0, 0))
  sa : Safe B0 W ab
  box : TBox W L0 K acc
  kL : K ≤ L0
  sL : Safe B0 W L0
  sR : ∀ r, rowOf L0 W = some r → Safe B0 W r
  sig : Sign (fun b => b < K ∧ Safe B0 W b) W a1 c1 s
  giv : Terms (fun b => b < K ∧ Safe B0 W b) W ag cg g
  prf : Steps (fun b => b < K ∧ Safe B0 W b) W ap cp p
section
variable {K B0 L0 sb gb pb ab : Nat} {a1 ag ap : Option Addr} {c1 cg cp : Nat} {s : Sg} {g : List (List Int)} {p : List Stp} {acc : List (List Int)} {W W' : World}
theorem SI.keep (h : SI K B0 L0 sb gb pb ab a1 ag ap c1 cg cp s g p acc W) (k : Leaves B0 W W') (i : IntKeep W W') : SI K B0 L0 sb gb pb ab a1 ag ap c1 cg cp s g p acc W' := by
  have hm : ∀ b, b < W.heap.size → (b < K ∧ Safe B0 W b) → b < K ∧ Safe B0 W' b := fun b _ hb => ⟨hb.1, k.safe hb.2⟩
  have hA : Agree (fun b => b < K ∧ Safe B0 W b) W W' := fun b hb _ => k.same b hb.2
  have hr := rowOf_same (k.same L0 h.sL)
  exact ⟨k.lt h.row, Nat.le_trans h.kle k.size, k.cell h.ss.2 h.fcs, ⟨h.ss.1, k.safe h.ss.2⟩, k.cell h.fsg.2 h.fcg, ⟨h.fsg.1, k.safe h.fsg.2⟩, k.cell h.sa h.ca0, k.cell h.sa h.ca1, by obtain ⟨cs, hc⟩ := h.ta; exact ⟨cs, (k.same ab h.sa).trans hc⟩, k.safe h.sa,
    h.box.keep (k.same L0 h.sL) (fun r hr => k.same r (h.sR r hr)) i, h.kL, k.safe h.sL, fun r e => k.safe (h.sR r (by rw [← hr]; exact e)), h.sig.mono hm hA, h.giv.mono hm hA, h.prf.mono hm hA⟩
theorem SI.below (h : SI K B0 L0 sb gb pb ab a1 ag ap c1 cg cp s g p acc W) (hb : Below W.heap.size W W') : SI K B0 L0 sb gb pb ab a1 ag ap c1 cg cp s g p acc W' := h.keep (.of_below h.row.1 hb) (.of_below hb)
/-- all but the box's list and the box has stayed -/
theorem SI.pushed (h : SI K B0 L0 sb gb pb ab a1 ag ap c1 cg cp s g p acc W) {acc' : List (List Int)} (hsz : W.heap.size ≤ W'.heap.size) (hsame : ∀ b, b < W.heap.size → b ≠ L0 → some b ≠ rowOf L0 W → W'.heap[b]? = W.heap[b]?) (hbox : TBox W' L0 K acc')
    (hrow : rowOf L0 W' = rowOf L0 W ∨ ∃ k, rowOf L0 W' = some k ∧ W.heap.size ≤ k) : SI K B0 L0 sb gb pb ab a1 ag ap c1 cg cp s g p acc' W' ∧ rowOf B0 W' = rowOf B0 W := by
  have hrK : ∀ r, rowOf L0 W = some r → K ≤ r := fun r hr => (h.box.rowCells r hr).1
  have hB : W'.heap[B0]? = W.heap[B0]? := hsame B0 h.row.1 (fun e => h.sL.1 e.symm) (fun e => (h.sR B0 e.symm).1 rfl)
  have hrB := rowOf_same hB
  have hlow : ∀ b, b < K → W'.heap[b]? = W.heap[b]? := fun b hb => hsame b (Nat.lt_of_lt_of_le hb h.kle) (by have := h.kL; omega) (fun e => by have := hrK b e.symm; omega)
  have hsafe : ∀ b, Safe B0 W b → W'.heap[b]? = W.heap[b]? → Safe B0 W' b := fun b hb he => ⟨hb.1, by rw [hrB]; exact hb.2.1, hb.2.2.same he⟩
  have hab : W'.heap[ab]? = W.heap[ab]? := by
    obtain ⟨cs, hc⟩ := h.ta
    refine hsame ab h.sa.2.2.lt (fun e => ?_) (fun e => ?_)
    · obtain ⟨cur, hcur⟩ := h.box.boxCells
      rw [← e, hc] at hcur
      simp at hcur
    · obtain ⟨-, -, cur, hcur⟩ := h.box.rowCells ab e.symm
      rw [hc] at hcur
      simp at hcur
  have hm : ∀ b, b < W.heap.size → (b < K ∧ Safe B0 W b) → b < K ∧ Safe B0 W' b := fun b _ hb => ⟨hb.1, hsafe b hb.2 (hlow b hb.1)⟩
  have hA : Agree (fun b => b < K ∧ Safe B0 W b) W W' := fun b hb _ => hlow b hb.1
  have hcell : ∀ {b off : Nat} {v : Value}, W'.heap[b]? = W.heap[b]? → W.cell? ⟨b, off, none⟩ = some v → W'.cell? ⟨b, off, none⟩ = some v := fun he hc => (World.cell?_of_block (w := W) he).trans hc
  refine ⟨⟨⟨Nat.lt_of_lt_of_le h.row.1 hsz, fun r hr => by rw [hrB] at hr; exact Nat.lt_of_lt_of_le (h.row.2 r hr) hsz⟩, Nat.le_trans h.kle hsz, hcell (hlow _ h.ss.1) h.fcs, ⟨h.ss.1, hsafe _ h.ss.2 (hlow _ h.ss.1)⟩, hcell (hlow _ h.fsg.1) h.fcg, ⟨h.fsg.1, hsafe _ h.fsg.2 (hlow _ h.fsg.1)⟩,
    hcell hab h.ca0, hcell hab h.ca1, by obtain ⟨cs, hc⟩ := h.ta; exact ⟨cs, hab.trans hc⟩, hsafe _ h.sa hab, hbox, h.kL, ⟨h.sL.1, by rw [hrB]; exact h.sL.2.1, ?_⟩, fun r hr => ?_, h.sig.mono hm hA, h.giv.mono hm hA, h.prf.mono hm hA⟩, hrB⟩
  · obtain ⟨cur, hc⟩ := hbox.boxCells
    exact ⟨_, hc, rfl⟩
  · have hcells : CellsAt W' r := by obtain ⟨-, -, cur, hc⟩ := hbox.rowCells r hr; exact ⟨_, hc, rfl⟩
    rcases hrow with e | ⟨k, e, hk⟩
    · rw [e] at hr
      have hs := h.sR r hr
      exact ⟨hs.1, by rw [hrB]; exact hs.2.1, hcells⟩
    · rw [e] at hr
      cases hr
      exact ⟨by have := h.row.1; omega, fun e2 => by rw [hrB] at e2; have := h.row.2 _ e2.symm; omega, hcells⟩
end
theorem SI.more {K B0 L0 sb gb pb ab : Nat} {a1 ag ap : Option Addr} {c1 cg cp : Nat} {s : Sg} {g : List (List Int)} {p : List Stp} {acc acc' : List (List Int)} {W W2 W3 : World} {J : List Td → World → Prop} {pre : List Td}
    (hab : ∀ pre W W' row, J pre W → W.grownBy W' row → (∀ r, row = some r → K ≤ r ∧ ∃ o : Obj, W.heap[r]? = some o ∧ Rw B0 W r o) → J pre W')
    (h : SI K B0 L0 sb gb pb ab a1 ag ap c1 cg cp s g p acc W) (hJ : J pre W) {v : Value} (hg : W.grownBy W2 v.ownBlock) (hg3 : W2.grownBy W3 (some L0)) (hrB : rowOf L0 W = v.ownBlock) (hv2 : W2.heap[L0]? = some (.cells #[v] 24 (0, 0))) (hbox : TBox W3 L0 K acc')
    (hrow : rowOf L0 W3 = v.ownBlock ∨ ∃ k, rowOf L0 W3 = some k ∧ W.heap.size ≤ k) : SI K B0 L0 sb gb pb ab a1 ag ap c1 cg cp s g p acc' W3 ∧ J pre W3 := by
  have hB2 : rowOf B0 W2 = rowOf B0 W := rowOf_same (hg.block B0 h.row.1 (fun e => (h.sR B0 (hrB.trans e.symm)).1 rfl))
  have hJ2 := hab pre W W2 v.ownBlock hJ hg (fun r e => by
    have e2 := hrB.trans e
    obtain ⟨g1, g2, cur, g3⟩ := h.box.rowCells r e2
    have hs := h.sR r e2
    exact ⟨g1, _, g3, cur, _, rfl, by decide, hs.1, hs.2.1⟩)
  have hJ3 := hab pre W2 W3 (some L0) hJ2 hg3 (fun r e => by
    cases e
    exact ⟨h.kL, _, hv2, _, _, rfl, by decide, h.sL.1, by rw [hB2]; exact h.sL.2.1⟩)
  refine ⟨(h.pushed (Nat.le_trans hg.size hg3.size) (fun b hb h1 h2 => ?_) hbox (by rw [hrB]; exact hrow)).1, hJ3⟩
  exact (hg3.block b (Nat.lt_of_lt_of_le hb hg.size) (fun e => h1 (by injection e))).trans (hg.block b hb (by rw [← hrB]; exact h2))
def stRel (K B0 L0 sb gb pb ab : Nat) (a1 ag ap : Option Addr) (c1 cg cp : Nat) (s : Sg) (g : List (List Int)) (p : List Stp) (J : List Td → World → Prop) (i : Value) (wr : World) : Prop :=
  ∃ (k : Nat) (acc : List (List Int)) (pre : List Td), i = .int .i64 k ∧ k ≤ p.length ∧ pre.map Td.pt ++ toldL s g (p.drop k) acc = toldL s g p [] ∧ J pre wr ∧ SI K B0 L0 sb gb pb ab a1 ag ap c1 cg cp s g p acc wr ∧ acc.length = k ∧ pre.length = k ∧ ∀ t ∈ acc, okT s t = true
set_option maxRecDepth 100000 in
set_option maxHeartbeats 8000000 in
theorem steps1_in (n l sb gb pb B0 : Nat) (a1 ag ap : Option Addr) (c1 cg cp : Nat) (s : Sg) (g : List (List Int)) (p : List Stp) (J Jx : List Td → World → Prop) (Wst : World)
    (hab : ∀ pre W W' row, J pre W → W.grownBy W' row → (∀ r, row = some r → Wst.heap.size ≤ r ∧ ∃ o : Obj, W.heap[r]? = some o ∧ Rw B0 W r o) → J pre W')
    (hY : ∀ m pre x W, J pre W → TdR x W → pre.length < p.length → YieldAt Fence.wide m Tryz.prog l x.enc W fun e W' => (e = .returned (.bool true) ∧ J (pre ++ [x]) W' ∧ Kp B0 W W') ∨ (e = .returned (.bool false) ∧ Jx (pre ++ [x]) W'))
    (hg : ∀ t ∈ g, okT s t = true) (hp : okSteps g.length 0 p = true) (hlp : p.length ≤ 60) (hrow : RowLt B0 Wst) (hcs : Wst.cell? ⟨sb, 0, none⟩ = some (.slice a1 s.length c1)) (hss : Safe B0 Wst sb) (hcg : Wst.cell? ⟨gb, 0, none⟩ = some (.slice ag g.length cg)) (hsg : Safe B0 Wst gb)
    (hcp : Wst.cell? ⟨pb, 0, none⟩ = some (.slice ap p.length cp)) (hsig : Sign (Safe B0 Wst) Wst a1 c1 s) (hgiv : Terms (Safe B0 Wst) Wst ag cg g) (hprf : Steps (Safe B0 Wst) Wst ap cp p) (hJ : J [] Wst) :
    CallsIn Fence.wide n Tryz.prog 143 #[.func (.yield l) #[] #[], .pointer (some ⟨sb, 0, none⟩), .pointer (some ⟨gb, 0, none⟩), .pointer (some ⟨pb, 0, none⟩)] Wst fun e W' => (∃ v, e = .returned v) ∧
      ((∃ xs : List Td, xs.map Td.pt = toldL s g p [] ∧ J xs W') ∨ (∃ pre : List Td, pre.map Td.pt <+: toldL s g p [] ∧ Jx pre W')) := by
  have hro : Fence.wide.round = none := rfl
  obtain ⟨W2, hW2⟩ : ∃ W2, (Wst.alloc (.cells #[.slice none 0 0] 24)).alloc (.cells #[.func (.func 144) #[] #[.pointer (some ⟨sb, 0, none⟩), .pointer (some ⟨gb, 0, none⟩)], .func (.func 145) #[] #[.pointer (some ⟨sb, 0, none⟩), .pointer (some ⟨Wst.heap.size, 0, none⟩)]] 164) = W2 := ⟨_, rfl⟩
  have hb2 : Below Wst.heap.size Wst W2 := by rw [← hW2]; exact below2 Wst _ _
  have hl2 : Leaves B0 Wst W2 := .of_below hrow.1 hb2
  have ca0 : W2.cell? ⟨Wst.heap.size + 1, 0, none⟩ = some (.func (.func 144) #[] #[.pointer (some ⟨sb, 0, none⟩), .pointer (some ⟨gb, 0, none⟩)]) := by rw [← hW2]; clear hW2; go_simp
  have ca1 : W2.cell? ⟨Wst.heap.size + 1, 1, none⟩ = some (.func (.func 145) #[] #[.pointer (some ⟨sb, 0, none⟩), .pointer (some ⟨Wst.heap.size, 0, none⟩)]) := by rw [← hW2]; clear hW2; go_simp
  have cL : W2.cell? ⟨Wst.heap.size, 0, none⟩ = some (.slice none 0 0) := by rw [← hW2]; clear hW2; go_simp
  have hTB : TBox W2 Wst.heap.size Wst.heap.size [] := by rw [← hW2]; exact (TBox.new Wst).below (below1 _ _)
  have hta : W2.heap[Wst.heap.size + 1]? = some (.cells #[.func (.func 144) #[] #[.pointer (some ⟨sb, 0, none⟩), .pointer (some ⟨gb, 0, none⟩)], .func (.func 145) #[] #[.pointer (some ⟨sb, 0, none⟩), .pointer (some ⟨Wst.heap.size, 0, none⟩)]] 164 (0, 0)) := by
    rw [← hW2]
    have := World.alloc_heap_new (Wst.alloc (.cells #[.slice none 0 0] 24)) (.cells #[.func (.func 144) #[] #[.pointer (some ⟨sb, 0, none⟩), .pointer (some ⟨gb, 0, none⟩)], .func (.func 145) #[] #[.pointer (some ⟨sb, 0, none⟩), .pointer (some ⟨Wst.heap.size, 0, none⟩)]] 164)
    rw [World.size_alloc] at this
    exact this
  have hrL : rowOf Wst.heap.size W2 = none := by unfold rowOf; rw [cL]; rfl
  have hm : ∀ b, b < Wst.heap.size → Safe B0 Wst b → b < Wst.heap.size ∧ Safe B0 W2 b := fun b hlt hb => ⟨hlt, hl2.safe hb⟩
  have hSI : SI Wst.heap.size B0 Wst.heap.size sb gb pb (Wst.heap.size + 1) a1 ag ap c1 cg cp s g p [] W2 :=
    ⟨hl2.lt hrow, hb2.size, hl2.cell hss hcs, ⟨hss.2.2.lt, hl2.safe hss⟩, hl2.cell hsg hcg, ⟨hsg.2.2.lt, hl2.safe hsg⟩, ca0, ca1, ⟨_, hta⟩, .fresh hrow hb2 (Nat.le_succ _) (.of_cell ca0), hTB, Nat.le_refl _, .fresh hrow hb2 (Nat.le_refl _) (.of_cell cL), (fun r hr => by rw [hrL] at hr; cases hr),
      hsig.mono hm hl2.agree, hgiv.mono hm hl2.agree, hprf.mono hm hl2.agree⟩
  have hJ2 := hab [] Wst W2 none hJ (Below.grow hb2) (fun r e => by cases e)
  have hpb := cell_later hb2 hcp
  have hst : stRel Wst.heap.size B0 Wst.heap.size sb gb pb (Wst.heap.size + 1) a1 ag ap c1 cg cp s g p J (.int .i64 ((0 : Nat) : Int)) W2 := ⟨0, [], [], rfl, Nat.zero_le _, rfl, hJ2, hSI, rfl, rfl, fun t h => by cases h⟩
  have hstH := Lib.hid hst
  have habH := Lib.hid hab
  have hYH := Lib.hid hY
  have hgH := Lib.hid hg
  have hpH := Lib.hid hp
  have mp := hprf.le
  clear hst hab hY hg hp hrow hcs hss hcg hsg hcp hsig hgiv hprf hJ hb2 hl2 ca0 ca1 cL hTB hta hrL hm hSI hJ2
  refine callsIn_of_wp Tryz.func143 rfl trivial ?_ hro
  simp only [Tryz.ntmps143, List.size_toArray, List.length_cons, List.length_nil, Nat.reduceAdd, Nat.reduceSub, Array.replicate_succ, Array.replicate_zero, List.push_toArray, List.append_toArray, List.nil_append, List.cons_append]
  gi_wp2_with fail
  gi_loopw [16] (fun i wr => stRel Wst.heap.size B0 Wst.heap.size sb gb pb (Wst.heap.size + 1) a1 ag ap c1 cg cp s g p J i wr) (fun i _ => p.length - (intOf i).toNat)
  case atStart => exact hstH.out
  case round =>
    clear hstH hpb
    obtain ⟨k, acc, pre, rfl, hk, hpre, hJ, hS, hka, hkp, hacc⟩ := hrel
    subst hka
    by_cases hlt : acc.length < p.length
    · obtain ⟨bp, op, rfl, -, q0, q1, q2, hr⟩ := hS.prf.stp acc.length hlt
      have hright := okSteps_get p 0 acc.length hlt hpH.out
      have htd := toldL_drop (s := s) (g := g) (l := acc) hlt
      rw [Nat.zero_add] at hright
      obtain ⟨x, hx⟩ : ∃ x, p[acc.length] = x := ⟨_, rfl⟩
      rw [hx] at hright htd q0 q1 q2
      have hlen60 := stepE_len hgH.out hacc hright
      have hokn := fun h => step_okT (l := acc) hgH.out hright h
      obtain ⟨kd, A, Bv⟩ := x
      simp only at q0 q1 q2
      obtain ⟨W1, hW1⟩ : ∃ W, wr.alloc (.cells #[.int .i64 kd, .int .i64 A, .int .i64 Bv] 86) = W := ⟨_, rfl⟩
      have hb1 : Below wr.heap.size wr W1.drew := by rw [← hW1]; exact (below1 wr _).drew
      have x0 : W1.drew.cell? ⟨wr.heap.size, 0, none⟩ = some (.int .i64 kd) := (by rw [← hW1]; clear hW1; go_simp : W1.cell? ⟨wr.heap.size, 0, none⟩ = some (.int .i64 kd))
      have x1 : W1.drew.cell? ⟨wr.heap.size, 1, none⟩ = some (.int .i64 A) := (by rw [← hW1]; clear hW1; go_simp : W1.cell? ⟨wr.heap.size, 1, none⟩ = some (.int .i64 A))
      have x2 : W1.drew.cell? ⟨wr.heap.size, 2, none⟩ = some (.int .i64 Bv) := (by rw [← hW1]; clear hW1; go_simp : W1.cell? ⟨wr.heap.size, 2, none⟩ = some (.int .i64 Bv))
      have hSd := hS.below hb1
      obtain ⟨aL, cL, hcL, hTL⟩ := hSd.box.slice
      obtain ⟨⟨rt, re⟩, hre⟩ : ∃ r, stepE s g acc (kd, A, Bv) = r := ⟨_, rfl⟩
      have hcase : (kd = 1 ∧ Calls Tryz.prog 144 #[.agg #[.int .i64 kd, .int .i64 A, .int .i64 Bv], .pointer (some ⟨sb, 0, none⟩), .pointer (some ⟨gb, 0, none⟩)] W1.drew (retE (rt, re) W1.drew)) ∨
          (kd = 2 ∧ Calls Tryz.prog 145 #[.agg #[.int .i64 kd, .int .i64 A, .int .i64 Bv], .pointer (some ⟨sb, 0, none⟩), .pointer (some ⟨Wst.heap.size, 0, none⟩)] W1.drew (retE (rt, re) W1.drew)) := by
        by_cases h1 : kd = 1
        · left
          subst h1
          obtain ⟨g1, g2, -⟩ := rightB_cite hright rfl
          simp only at g1 g2
          obtain ⟨n1, rfl⟩ := Int.eq_ofNat_of_zero_le g1
          have hn1 : n1 < g.length := by omega
          have hst : stepE s g acc (1, (n1 : Int), Bv) = (canon g[n1], 0) := by
            unfold stepE
            rw [if_pos rfl]
            simp only [Int.toNat_natCast]
            rw [getD_get hn1]
          rw [← hre, hst]
          exact ⟨rfl, cite_any a1 ag c1 cg sb gb n1 Bv s g W1.drew hSd.sig hSd.giv hSd.fcs hSd.fcg hn1 (hgH.out _ (List.getElem_mem hn1))⟩
        · right
          obtain ⟨h2, d1, d2, d3, d4⟩ := rightB_detach hright h1
          simp only at h2 d1 d2 d3 d4
          subst h2
          obtain ⟨n1, rfl⟩ := Int.eq_ofNat_of_zero_le d1
          obtain ⟨m1, rfl⟩ := Int.eq_ofNat_of_zero_le d3
          have hn1 : n1 < acc.length := by omega
          have hm1 : m1 < acc.length := by omega
          have hst : stepE s g acc (2, (n1 : Int), (m1 : Int)) = detE s acc[n1] acc[m1] := by
            unfold stepE
            rw [if_neg h1]
            simp only [Int.toNat_natCast]
            rw [getD_get hn1, getD_get hm1]
          rw [← hre, hst]
          exact ⟨rfl, stepdet_any a1 aL c1 cL sb Wst.heap.size n1 m1 s acc W1.drew hSd.sig hTL hSd.fcs hcL hn1 hm1⟩
      rw [hre] at htd hlen60 hokn
      simp only at htd hlen60 hokn
      have hf0 := hSd.ca0
      have hf1 := hSd.ca1
      have hSdH := Lib.hid hSd
      have hJdH := Lib.hid (habH.out pre wr W1.drew none hJ (Below.grow hb1) (fun r e => by cases e))
      have hpreH := Lib.hid hpre
      have htdH := Lib.hid htd
      have hl60H := Lib.hid hlen60
      have hoknH := Lib.hid hokn
      have haccH := Lib.hid hacc
      clear hS hJ hSd hpre htd hlen60 hokn hacc hTL hcL hright hx hre hr
      have hz0 : IntKind.i64.wrap 0 = 0 := IntWalk.i64_in _ (by omega)
      have hz1 : IntKind.i64.wrap 1 = 1 := IntWalk.i64_in _ (by omega)
      rcases hcase with ⟨rfl, cc⟩ | ⟨rfl, cc⟩
      · have ccH := Lib.hid cc
        clear cc hf1
        gi_wp2
        try rw [hW1]
        refine wpIn_wide.2 ?_
        refine wp_region_held_drew (S := fun w' => w'.cell? ⟨wr.heap.size, 0, none⟩ = some (.int .i64 1) ∧ w'.cell? ⟨wr.heap.size, 1, none⟩ = some (.int .i64 A) ∧ w'.cell? ⟨wr.heap.size, 2, none⟩ = some (.int .i64 Bv) ∧ w'.cell? ⟨Wst.heap.size + 1, 0, none⟩ = some (.func (.func 144) #[] #[.pointer (some ⟨sb, 0, none⟩), .pointer (some ⟨gb, 0, none⟩)])) (by kernel_rfl) ⟨x0, x1, x2, hf0⟩ (fun hS => ?_)
        refine region_take 0 (some 21) (v := ?_) rfl rfl (by kernel_rfl) (by kernel_rfl) (by kernel_rfl) (fun _ _ _ h => h) rfl ?_ hS ?_
        rotate_left
        · (intro w9 hS9; obtain ⟨s91, s92, s93, s94⟩ := hS9; go_simp; try (with_reducible rfl))
        simp only [Act.put, List.setIfInBounds_toArray, List.set_cons_zero, List.set_cons_succ]
        refine region_take 1 (some 22) (v := ?_) rfl rfl (by kernel_rfl) (by kernel_rfl) (by kernel_rfl) (fun _ _ _ h => h) rfl ?_ hS ?_
        rotate_left
        · (intro w9 hS9; obtain ⟨s91, s92, s93, s94⟩ := hS9; go_simp; try (with_reducible rfl))
        simp only [Act.put, List.setIfInBounds_toArray, List.set_cons_zero, List.set_cons_succ]
        refine region_take 2 (some 23) (v := ?_) rfl rfl (by kernel_rfl) (by kernel_rfl) (by kernel_rfl) (fun _ _ _ h => h) rfl ?_ hS ?_
        rotate_left
        · (intro w9 hS9; obtain ⟨s91, s92, s93, s94⟩ := hS9; go_simp; try (with_reducible rfl))
        simp only [Act.put, List.setIfInBounds_toArray, List.set_cons_zero, List.set_cons_succ]
        refine region_take 3 (some 24) (v := ?_) rfl rfl (by kernel_rfl) (by kernel_rfl) (by kernel_rfl) (fun _ _ _ h => h) rfl ?_ hS ?_
        rotate_left
        · (intro w9 hS9; obtain ⟨s91, s92, s93, s94⟩ := hS9; go_simp; try (with_reducible rfl))
        simp only [Act.put, List.setIfInBounds_toArray, List.set_cons_zero, List.set_cons_succ]
        refine region_take 4 (some 25) (v := ?_) rfl rfl (by kernel_rfl) (by kernel_rfl) (by kernel_rfl) (fun _ _ _ h => h) rfl ?_ hS ?_
        rotate_left
        · (intro w9 hS9; obtain ⟨s91, s92, s93, s94⟩ := hS9; go_simp; try (with_reducible rfl))
        simp only [Act.put, List.setIfInBounds_toArray, List.set_cons_zero, List.set_cons_succ]
        refine region_take 5 (some 26) (v := ?_) rfl rfl (by kernel_rfl) (by kernel_rfl) (by kernel_rfl) (fun _ _ _ h => h) rfl ?_ hS ?_
        rotate_left
        · (intro w9 hS9; obtain ⟨s91, s92, s93, s94⟩ := hS9; go_simp; try (with_reducible rfl))
        simp only [Act.put, List.setIfInBounds_toArray, List.set_cons_zero, List.set_cons_succ]
        refine region_call 6 rfl (by kernel_rfl) (fun K hK => ?_)
        go_simp
        (with_reducible refine ccH.out.mono ?_)
        rintro e w8 ⟨v, rfl, ho, hb8⟩
        refine hK.out _ _ ⟨cell_later hb8 x0, cell_later hb8 x1, cell_later hb8 x2, cell_later hb8 hf0⟩ ?_
        clear hS hK
        intro hS
        refine region_take 7 (some 20) (v := ?_) rfl rfl (by kernel_rfl) (by kernel_rfl) (by kernel_rfl) (fun _ _ _ h => h) rfl ?_ hS ?_
        rotate_left
        · (intro w9 hS9; obtain ⟨s91, s92, s93, s94⟩ := hS9; go_simp; try (with_reducible rfl))
        simp only [Act.put, List.setIfInBounds_toArray, List.set_cons_zero, List.set_cons_succ]
        refine region_take 8 (some 28) (v := ?_) rfl rfl (by kernel_rfl) (by kernel_rfl) (by kernel_rfl) (fun _ _ _ h => h) rfl ?_ hS ?_
        rotate_left
        · (intro w9 hS9; obtain ⟨s91, s92, s93, s94⟩ := hS9; go_simp; try (with_reducible rfl))
        simp only [Act.put, List.setIfInBounds_toArray, List.set_cons_zero, List.set_cons_succ]
        refine region_take 9 (some 29) (v := ?_) rfl rfl (by kernel_rfl) (by kernel_rfl) (by kernel_rfl) (fun _ _ _ h => h) rfl ?_ hS ?_
        rotate_left
        · (intro w9 hS9; obtain ⟨s91, s92, s93, s94⟩ := hS9; go_simp; try (with_reducible rfl))
        simp only [Act.put, List.setIfInBounds_toArray, List.set_cons_zero, List.set_cons_succ]
        refine region_take 10 (some 9) (v := ?_) rfl rfl (by kernel_rfl) (by kernel_rfl) (by kernel_rfl) (fun _ _ _ h => h) rfl ?_ hS ?_
        rotate_left
        · (intro w9 hS9; obtain ⟨s91, s92, s93, s94⟩ := hS9; go_simp; try (with_reducible rfl))
        simp only [Act.put, List.setIfInBounds_toArray, List.set_cons_zero, List.set_cons_succ]
        refine region_take 11 (some 10) (v := ?_) rfl rfl (by kernel_rfl) (by kernel_rfl) (by kernel_rfl) (fun _ _ _ h => h) rfl ?_ hS ?_
        rotate_left
        · (intro w9 hS9; obtain ⟨s91, s92, s93, s94⟩ := hS9; go_simp; try (with_reducible rfl))
        simp only [Act.put, List.setIfInBounds_toArray, List.set_cons_zero, List.set_cons_succ]
        refine wpAnyH_done (by kernel_rfl) ?_ _
        clear hS
        have hS8 := hSdH.out.below hb8
        have hJ8 := habH.out pre W1.drew w8 none hJdH.out (Below.grow hb8) (fun r e => by cases e)
        obtain ⟨a4, c4, rfl, hI4⟩ := OwnI.intsB ho
        simp only at hI4
        obtain ⟨vL, a', cap, W9, k1, k2, k3, k4, k5, k6, k7, k8, k9, k10, k11⟩ := hS8.box.push hS8.kle (.refl _ _) hI4 (by omega)
        obtain ⟨hS10, hJ10⟩ := SI.more habH.out hS8 hJ8 k6.out k7.out k8.out k9.out k5.out k11.out
        have hR10 : TdR ⟨a4, c4, rt, re⟩ (W9.setCell ⟨Wst.heap.size, 0, none⟩ (.slice a' (acc.length + 1) cap)) := ⟨hI4.intKeep k10.out, hl60H.out⟩
        have hy0 := hYH.out (n - 1) pre ⟨a4, c4, rt, re⟩ _ hJ10 hR10 (by omega)
        obtain ⟨fn, tmps, assign, body, hy, hR⟩ := hy0
        dsimp only [Td.enc] at hy
        have k1 := k1.out
        have k2 := k2.out
        have k3 := k3.out
        have k4 := k4.out
        have hS10H := Lib.hid hS10
        have hRH := Lib.hid hR
        clear hS10 hR hR10 hJ10 hJ8 hS8 k5 k6 k7 k8 k9 k10 k11 hI4 ho hb8
        gi_wp2_with (refine wpListIn_append_run rfl (.tmp 30) (.tmp 32) 24 rfl rfl rfl k2 ?_)
        refine ⟨fun h => (by cases h), ?_⟩
        refine hRH.out.mono ?_
        clear hy k1 k2 k3 k4
        rintro e W11 (⟨rfl, hJ1, hk1⟩ | ⟨rfl, hJx1⟩)
        · by_cases hr0 : re = 0
          · subst hr0
            have hst : stRel Wst.heap.size B0 Wst.heap.size sb gb pb (Wst.heap.size + 1) a1 ag (some ⟨bp, op, none⟩) c1 cg cp s g p J (.int .i64 ((acc.length + 1 : Nat) : Int)) W11 := by
              refine ⟨acc.length + 1, acc ++ [rt], pre ++ [⟨a4, c4, rt, 0⟩], rfl, by omega, ?_, hJ1, hS10H.out.keep hk1.1 hk1.2, by simp, by simp [hkp], fun t ht => ?_⟩
              · have h1 := hpreH.out
                rw [htdH.out, if_pos rfl] at h1
                rw [List.map_append, List.append_assoc, ← h1]; rfl
              · rcases List.mem_append.1 ht with h2 | h2
                · exact haccH.out t h2
                · rw [List.mem_singleton] at h2; rw [h2]; exact hoknH.out rfl
            have hstH := Lib.hid hst
            clear hst hJ1 hk1
            gi_wp2
            go_roundw
            case rel => exact hstH.out
            case measure => simp [intOf]; omega
          · have hrb : (re != 0) = true := by simpa using hr0
            have hfin : ∃ xs : List Td, xs.map Td.pt = toldL s g p [] ∧ J xs W11 := by
              refine ⟨pre ++ [⟨a4, c4, rt, re⟩], ?_, hJ1⟩
              have h1 := hpreH.out
              rw [htdH.out, if_neg hr0] at h1
              rw [List.map_append, ← h1]; rfl
            have hfinH := Lib.hid hfin
            clear hfin hJ1 hk1 hr0
            gi_wp2
            try simp only [Exit.inBlock, Exit.then]
            refine bodyPost_ret (results_none rfl _ _ _) rfl ?_
            exact ⟨⟨_, rfl⟩, .inl hfinH.out⟩
        · have hpf : (pre ++ [(⟨a4, c4, rt, re⟩ : Td)]).map Td.pt <+: toldL s g p [] := by
            have h1 := hpreH.out
            rw [htdH.out] at h1
            rw [← h1, List.map_append]
            exact ⟨_, by rw [List.append_assoc]; rfl⟩
          have hpfH := Lib.hid hpf
          clear hpf
          gi_wp2
          try simp only [Exit.inBlock, Exit.then]
          refine bodyPost_ret (results_none rfl _ _ _) rfl ?_
          exact ⟨⟨_, rfl⟩, .inr ⟨_, hpfH.out, hJx1⟩⟩
      · have ccH := Lib.hid cc
        clear cc hf0
        gi_wp2
        try rw [hW1]
        refine wpIn_wide.2 ?_
        refine wp_region_held_drew (S := fun w' => w'.cell? ⟨wr.heap.size, 0, none⟩ = some (.int .i64 2) ∧ w'.cell? ⟨wr.heap.size, 1, none⟩ = some (.int .i64 A) ∧ w'.cell? ⟨wr.heap.size, 2, none⟩ = some (.int .i64 Bv) ∧ w'.cell? ⟨Wst.heap.size + 1, 1, none⟩ = some (.func (.func 145) #[] #[.pointer (some ⟨sb, 0, none⟩), .pointer (some ⟨Wst.heap.size, 0, none⟩)])) (by kernel_rfl) ⟨x0, x1, x2, hf1⟩ (fun hS => ?_)
        refine region_take 0 (some 21) (v := ?_) rfl rfl (by kernel_rfl) (by kernel_rfl) (by kernel_rfl) (fun _ _ _ h => h) rfl ?_ hS ?_
        rotate_left
        · (intro w9 hS9; obtain ⟨s91, s92, s93, s94⟩ := hS9; go_simp; try (with_reducible rfl))
        simp only [Act.put, List.setIfInBounds_toArray, List.set_cons_zero, List.set_cons_succ]
        refine region_take 1 (some 22) (v := ?_) rfl rfl (by kernel_rfl) (by kernel_rfl) (by kernel_rfl) (fun _ _ _ h => h) rfl ?_ hS ?_
        rotate_left
        · (intro w9 hS9; obtain ⟨s91, s92, s93, s94⟩ := hS9; go_simp; try (with_reducible rfl))
        simp only [Act.put, List.setIfInBounds_toArray, List.set_cons_zero, List.set_cons_succ]
        refine region_take 2 (some 23) (v := ?_) rfl rfl (by kernel_rfl) (by kernel_rfl) (by kernel_rfl) (fun _ _ _ h => h) rfl ?_ hS ?_
        rotate_left
        · (intro w9 hS9; obtain ⟨s91, s92, s93, s94⟩ := hS9; go_simp; try (with_reducible rfl))
        simp only [Act.put, List.setIfInBounds_toArray, List.set_cons_zero, List.set_cons_succ]
        refine region_take 3 (some 24) (v := ?_) rfl rfl (by kernel_rfl) (by kernel_rfl) (by kernel_rfl) (fun _ _ _ h => h) rfl ?_ hS ?_
        rotate_left
        · (intro w9 hS9; obtain ⟨s91, s92, s93, s94⟩ := hS9; go_simp; try (with_reducible rfl))
        simp only [Act.put, List.setIfInBounds_toArray, List.set_cons_zero, List.set_cons_succ]
        refine region_take 4 (some 25) (v := ?_) rfl rfl (by kernel_rfl) (by kernel_rfl) (by kernel_rfl) (fun _ _ _ h => h) rfl ?_ hS ?_
        rotate_left
        · (intro w9 hS9; obtain ⟨s91, s92, s93, s94⟩ := hS9; go_simp; try (with_reducible rfl))
        simp only [Act.put, List.setIfInBounds_toArray, List.set_cons_zero, List.set_cons_succ]
        refine region_take 5 (some 26) (v := ?_) rfl rfl (by kernel_rfl) (by kernel_rfl) (by kernel_rfl) (fun _ _ _ h => h) rfl ?_ hS ?_
        rotate_left
        · (intro w9 hS9; obtain ⟨s91, s92, s93, s94⟩ := hS9; go_simp; try (with_reducible rfl))
        simp only [Act.put, List.setIfInBounds_toArray, List.set_cons_zero, List.set_cons_succ]
        refine region_call 6 rfl (by kernel_rfl) (fun K hK => ?_)
        go_simp
        (with_reducible refine ccH.out.mono ?_)
        rintro e w8 ⟨v, rfl, ho, hb8⟩
        refine hK.out _ _ ⟨cell_later hb8 x0, cell_later hb8 x1, cell_later hb8 x2, cell_later hb8 hf1⟩ ?_
        clear hS hK
        intro hS
        refine region_take 7 (some 20) (v := ?_) rfl rfl (by kernel_rfl) (by kernel_rfl) (by kernel_rfl) (fun _ _ _ h => h) rfl ?_ hS ?_
        rotate_left
        · (intro w9 hS9; obtain ⟨s91, s92, s93, s94⟩ := hS9; go_simp; try (with_reducible rfl))
        simp only [Act.put, List.setIfInBounds_toArray, List.set_cons_zero, List.set_cons_succ]
        refine region_take 8 (some 28) (v := ?_) rfl rfl (by kernel_rfl) (by kernel_rfl) (by kernel_rfl) (fun _ _ _ h => h) rfl ?_ hS ?_
        rotate_left
        · (intro w9 hS9; obtain ⟨s91, s92, s93, s94⟩ := hS9; go_simp; try (with_reducible rfl))
        simp only [Act.put, List.setIfInBounds_toArray, List.set_cons_zero, List.set_cons_succ]
        refine region_take 9 (some 29) (v := ?_) rfl rfl (by kernel_rfl) (by kernel_rfl) (by kernel_rfl) (fun _ _ _ h => h) rfl ?_ hS ?_
        rotate_left
        · (intro w9 hS9; obtain ⟨s91, s92, s93, s94⟩ := hS9; go_simp; try (with_reducible rfl))
        simp only [Act.put, List.setIfInBounds_toArray, List.set_cons_zero, List.set_cons_succ]
        refine region_take 10 (some 9) (v := ?_) rfl rfl (by kernel_rfl) (by kernel_rfl) (by kernel_rfl) (fun _ _ _ h => h) rfl ?_ hS ?_
        rotate_left
        · (intro w9 hS9; obtain ⟨s91, s92, s93, s94⟩ := hS9; go_simp; try (with_reducible rfl))
        simp only [Act.put, List.setIfInBounds_toArray, List.set_cons_zero, List.set_cons_succ]
        refine region_take 11 (some 10) (v := ?_) rfl rfl (by kernel_rfl) (by kernel_rfl) (by kernel_rfl) (fun _ _ _ h => h) rfl ?_ hS ?_
        rotate_left
        · (intro w9 hS9; obtain ⟨s91, s92, s93, s94⟩ := hS9; go_simp; try (with_reducible rfl))
        simp only [Act.put, List.setIfInBounds_toArray, List.set_cons_zero, List.set_cons_succ]
        refine wpAnyH_done (by kernel_rfl) ?_ _
        clear hS
        have hS8 := hSdH.out.below hb8
        have hJ8 := habH.out pre W1.drew w8 none hJdH.out (Below.grow hb8) (fun r e => by cases e)
        obtain ⟨a4, c4, rfl, hI4⟩ := OwnI.intsB ho
        simp only at hI4
        obtain ⟨vL, a', cap, W9, k1, k2, k3, k4, k5, k6, k7, k8, k9, k10, k11⟩ := hS8.box.push hS8.kle (.refl _ _) hI4 (by omega)
        obtain ⟨hS10, hJ10⟩ := SI.more habH.out hS8 hJ8 k6.out k7.out k8.out k9.out k5.out k11.out
        have hR10 : TdR ⟨a4, c4, rt, re⟩ (W9.setCell ⟨Wst.heap.size, 0, none⟩ (.slice a' (acc.length + 1) cap)) := ⟨hI4.intKeep k10.out, hl60H.out⟩
        have hy0 := hYH.out (n - 1) pre ⟨a4, c4, rt, re⟩ _ hJ10 hR10 (by omega)
        obtain ⟨fn, tmps, assign, body, hy, hR⟩ := hy0
        dsimp only [Td.enc] at hy
        have k1 := k1.out
        have k2 := k2.out
        have k3 := k3.out
        have k4 := k4.out
        have hS10H := Lib.hid hS10
        have hRH := Lib.hid hR
        clear hS10 hR hR10 hJ10 hJ8 hS8 k5 k6 k7 k8 k9 k10 k11 hI4 ho hb8
        gi_wp2_with (refine wpListIn_append_run rfl (.tmp 30) (.tmp 32) 24 rfl rfl rfl k2 ?_)
        refine ⟨fun h => (by cases h), ?_⟩
        refine hRH.out.mono ?_
        clear hy k1 k2 k3 k4
        rintro e W11 (⟨rfl, hJ1, hk1⟩ | ⟨rfl, hJx1⟩)
        · by_cases hr0 : re = 0
          · subst hr0
            have hst : stRel Wst.heap.size B0 Wst.heap.size sb gb pb (Wst.heap.size + 1) a1 ag (some ⟨bp, op, none⟩) c1 cg cp s g p J (.int .i64 ((acc.length + 1 : Nat) : Int)) W11 := by
              refine ⟨acc.length + 1, acc ++ [rt], pre ++ [⟨a4, c4, rt, 0⟩], rfl, by omega, ?_, hJ1, hS10H.out.keep hk1.1 hk1.2, by simp, by simp [hkp], fun t ht => ?_⟩
              · have h1 := hpreH.out
                rw [htdH.out, if_pos rfl] at h1
                rw [List.map_append, List.append_assoc, ← h1]; rfl
              · rcases List.mem_append.1 ht with h2 | h2
                · exact haccH.out t h2
                · rw [List.mem_singleton] at h2; rw [h2]; exact hoknH.out rfl
            have hstH := Lib.hid hst
            clear hst hJ1 hk1
            gi_wp2
            go_roundw
            case rel => exact hstH.out
            case measure => simp [intOf]; omega
          · have hrb : (re != 0) = true := by simpa using hr0
            have hfin : ∃ xs : List Td, xs.map Td.pt = toldL s g p [] ∧ J xs W11 := by
              refine ⟨pre ++ [⟨a4, c4, rt, re⟩], ?_, hJ1⟩
              have h1 := hpreH.out
              rw [htdH.out, if_neg hr0] at h1
              rw [List.map_append, ← h1]; rfl
            have hfinH := Lib.hid hfin
            clear hfin hJ1 hk1 hr0
            gi_wp2
            try simp only [Exit.inBlock, Exit.then]
            refine bodyPost_ret (results_none rfl _ _ _) rfl ?_
            exact ⟨⟨_, rfl⟩, .inl hfinH.out⟩
        · have hpf : (pre ++ [(⟨a4, c4, rt, re⟩ : Td)]).map Td.pt <+: toldL s g p [] := by
            have h1 := hpreH.out
            rw [htdH.out] at h1
            rw [← h1, List.map_append]
            exact ⟨_, by rw [List.append_assoc]; rfl⟩
          have hpfH := Lib.hid hpf
          clear hpf
          gi_wp2
          try simp only [Exit.inBlock, Exit.then]
          refine bodyPost_ret (results_none rfl _ _ _) rfl ?_
          exact ⟨⟨_, rfl⟩, .inr ⟨_, hpfH.out, hJx1⟩⟩
    · have hkl : p.length ≤ acc.length := by omega
      have hfin : ∃ xs : List Td, xs.map Td.pt = toldL s g p [] ∧ J xs wr := by
        refine ⟨pre, ?_, hJ⟩
        have h1 := hpre
        rw [List.drop_of_length_le (by omega), toldL, List.append_nil] at h1
        exact h1
      have hfinH := Lib.hid hfin
      clear hfin hJ hpre hS
      gi_wp2
      go_end0
      exact ⟨⟨_, rfl⟩, .inl hfinH.out⟩
end Go.Proofs.YtgkddhakhapjlaaGreatDoor

/- Walks of package kernel: run. -/
namespace Go.Proofs.YtgkddhakhapjlaaGreatDoor
open Go Go.RowKit Go.Maps Go.Shelf

attribute [local go_sem] Oper.semAt_some

theorem run_of_told {s : Sg} {g : List (List Int)} : ∀ (p : List Stp) (l : List (List Int)), (∀ y ∈ toldL s g p l, y.2 = 0) → runL s g p l = (l ++ (toldL s g p l).map Prod.fst, 0)
  | [], l, _ => by simp [runL, toldL]
  | x :: p, l, h => by
    rw [toldL] at h ⊢
    have hx := h (stepE s g l x) (by simp)
    rw [if_pos hx] at h ⊢
    rw [runL, if_pos hx, run_of_told p _ (fun y hy => h y (by simp [hy]))]
    simp
theorem run_of_stop {s : Sg} {g : List (List Int)} : ∀ (p : List Stp) (l : List (List Int)) (pre : List (List Int × Int)) (x : List Int × Int), pre ++ [x] <+: toldL s g p l → (∀ y ∈ pre, y.2 = 0) → x.2 ≠ 0 → runL s g p l = (l ++ pre.map Prod.fst, x.2)
  | [], l, pre, x, h, _, _ => by simp [toldL] at h
  | z :: p, l, [], x, h, _, hx => by
    rw [toldL, List.nil_append] at h
    have e := (List.cons_prefix_cons.1 h).1
    rw [runL, ← e, if_neg hx]
    simp
  | z :: p, l, y :: pre, x, h, hp, hx => by
    rw [toldL, List.cons_append] at h
    obtain ⟨e, h2⟩ := List.cons_prefix_cons.1 h
    have hy := hp y (by simp)
    rw [← e, if_pos hy] at h2
    rw [runL, ← e, if_pos hy, run_of_stop p _ pre x h2 (fun w hw => hp w (by simp [hw])) hx]
    simp

set_option maxHeartbeats 1000000 in
theorem steps_in (n : Nat) (a1 a2 a3 : Option Addr) (l1 l2 l3 c1 c2 c3 : Nat) (w : World) :
    CallsIn Fence.wide n Tryz.prog 105 #[.slice a1 l1 c1, .slice a2 l2 c2, .slice a3 l3 c3] w fun e w' => e = .returned (.func (.func 143) #[] #[.pointer (some ⟨w.heap.size, 0, none⟩), .pointer (some ⟨w.heap.size + 1, 0, none⟩), .pointer (some ⟨w.heap.size + 1 + 1, 0, none⟩)]) ∧
      w' = ((w.alloc (.cells #[.slice a1 l1 c1] 23)).alloc (.cells #[.slice a2 l2 c2] 24)).alloc (.cells #[.slice a3 l3 c3] 25) := by
  have hro : Fence.wide.round = none := rfl
  refine callsIn_of_wp Tryz.func105 rfl trivial ?_ hro
  simp only [Tryz.ntmps105, List.size_toArray, List.length_cons, List.length_nil, Nat.reduceAdd, Nat.reduceSub, Array.replicate_succ, Array.replicate_zero, List.push_toArray, List.append_toArray, List.nil_append, List.cons_append]
  gi_wp2
  go_ret
  exact ⟨rfl, rfl⟩
theorem steps_seq (n sb gb pb B0 : Nat) (a1 ag ap : Option Addr) (c1 cg cp : Nat) (s : Sg) (g : List (List Int)) (p : List Stp) (w : World) (hg : ∀ t ∈ g, okT s t = true) (hp : okSteps g.length 0 p = true) (hlp : p.length ≤ 60) (hrow : RowLt B0 w)
    (hcs : w.cell? ⟨sb, 0, none⟩ = some (.slice a1 s.length c1)) (hss : Safe B0 w sb) (hcg : w.cell? ⟨gb, 0, none⟩ = some (.slice ag g.length cg)) (hsg : Safe B0 w gb) (hcp : w.cell? ⟨pb, 0, none⟩ = some (.slice ap p.length cp)) (hsp : Safe B0 w pb)
    (hsig : Sign (Safe B0 w) w a1 c1 s) (hgiv : Terms (Safe B0 w) w ag cg g) (hprf : Steps (Safe B0 w) w ap cp p) :
    SeqRelG Fence.wide n Tryz.prog 143 #[.pointer (some ⟨sb, 0, none⟩), .pointer (some ⟨gb, 0, none⟩), .pointer (some ⟨pb, 0, none⟩)] Td.enc TdR (Kp B0) (Rw B0) (fun xs => xs.map Td.pt = toldL s g p []) (fun pre => pre.map Td.pt <+: toldL s g p []) p.length w := fun l J Jx W hW hJ _ hY h0 => by
  have hl := Leaves.of_below hrow.1 hW
  exact steps1_in n l sb gb pb B0 a1 ag ap c1 cg cp s g p J Jx W (fun pre A A' row h hg hr => hJ pre A A' row h hg (fun r e => by obtain ⟨g1, o, g2, g3⟩ := hr r e; exact ⟨g1, o, g2, .inr g3⟩))
    (fun m pre x A h1 h2 h3 => YieldAt.wideAny m (hY pre x A h1 h2 h3)) hg hp hlp (hl.lt hrow) (hl.cell hss hcs) (hl.safe hss) (hl.cell hsg hcg) (hl.safe hsg) (hl.cell hsp hcp) (hl.sl hsig) (hl.sl hgiv) (hl.sl hprf) h0

/-- what a round of run leaves -/
def runI (w : World) (R0 R1 B0 : Nat) (pre : List Td) (W : World) : Prop :=
  (∀ x ∈ pre, x.e = 0) ∧ TBox W B0 B0 (pre.map Td.t) ∧ Below w.heap.size w W ∧ Boxed W R0 24 (.slice none 0 0) ∧ Boxed W R1 29 (.int .i64 0)
/-- what run leaves where it stops early -/
def runX (w : World) (R0 R1 B0 : Nat) (pre : List Td) (W : World) : Prop :=
  ∃ pre0 x v, pre = pre0 ++ [x] ∧ (∀ y ∈ pre0, y.e = 0) ∧ x.e ≠ 0 ∧ Below w.heap.size w W ∧ Boxed W R0 24 v ∧ Boxed W R1 29 (.int .i64 x.e) ∧ Boxed W B0 24 v ∧ OwnTT W B0 v (pre0.map Td.t)
theorem keep_rows {B0 : Nat} {W W' : World} {row : Option Nat} {d : Nat} (hg : W.grownBy W' row) (hr : ∀ r, row = some r → d ≤ r ∧ ∃ o : Obj, W.heap[r]? = some o ∧ (o.isCells = false ∨ Rw B0 W r o)) :
    IntKeep W W' ∧ (∀ b, b < d → b < W.heap.size → W'.heap[b]? = W.heap[b]?) ∧ (CellsAt W B0 → W'.heap[B0]? = W.heap[B0]?) ∧ (∀ k, rowOf B0 W = some k → CellsAt W k → W'.heap[k]? = W.heap[k]?) := by
  refine ⟨.of_grown hg (fun r e hi => ?_), fun b hb hlt => hg.block b hlt (fun e => by have := (hr b e.symm).1; omega), fun hc => hg.block B0 hc.lt (fun e => ?_), fun k hk hc => hg.block k hc.lt (fun e => ?_)⟩
  · obtain ⟨-, o, g2, g3⟩ := hr r e
    obtain ⟨cs, hi⟩ := hi
    rw [hi] at g2
    cases g2
    rcases g3 with g3 | ⟨cs', t, g4, g5, -⟩
    · cases g3
    · simp only [Obj.cells.injEq] at g4; exact g5 g4.2.1.symm
  · obtain ⟨-, o, g2, g3⟩ := hr B0 e.symm
    obtain ⟨o', h1, h2⟩ := hc
    rw [g2] at h1
    cases h1
    rcases g3 with g3 | ⟨cs', t, g4, g5, g6, -⟩
    · rw [h2] at g3; cases g3
    · exact g6 rfl
  · obtain ⟨-, o, g2, g3⟩ := hr k e.symm
    obtain ⟨o', h1, h2⟩ := hc
    rw [g2] at h1
    cases h1
    rcases g3 with g3 | ⟨cs', t, g4, g5, g6, g7⟩
    · rw [h2] at g3; cases g3
    · exact g7 hk.symm
theorem runI_own {w : World} {R0 R1 B0 d : Nat} (hB : w.heap.size ≤ d) (h0 : R0 < d) (h1 : R1 < d) : OwnRows (Rw B0) d (runI w R0 R1 B0) := by
  rintro pre W W' row ⟨i1, i2, i3, i4, i5⟩ hg hr
  obtain ⟨k1, k2, k3, k4⟩ := keep_rows hg hr
  refine ⟨i1, i2.keep (k3 ?_) (fun r e => k4 r e ?_) k1, i3.grown hg i3.size (fun j e => Nat.le_trans hB (hr j e).1), (k2 R0 h0 i4.lt).trans i4, (k2 R1 h1 i5.lt).trans i5⟩
  · obtain ⟨cur, hc⟩ := i2.boxCells; exact ⟨_, hc, rfl⟩
  · obtain ⟨-, -, cur, hc⟩ := i2.rowCells r e; exact ⟨_, hc, rfl⟩
theorem runX_own {w : World} {R0 R1 B0 d : Nat} (hB : w.heap.size ≤ d) (h0 : R0 < d) (h1 : R1 < d) : OwnRows (Rw B0) d (runX w R0 R1 B0) := by
  rintro pre W W' row ⟨pre0, x, v, i1, i2, i3, i4, i5, i6, i7, i8⟩ hg hr
  obtain ⟨k1, k2, k3, k4⟩ := keep_rows hg hr
  have hT : TBox W B0 B0 (pre0.map Td.t) := ⟨v, i7, i8⟩
  have hrw : ∀ k, v.ownBlock = some k → rowOf B0 W = some k := fun k hk => by rw [rowOf_boxed i7]; exact hk
  exact ⟨pre0, x, v, i1, i2, i3, i4.grown hg i4.size (fun j e => Nat.le_trans hB (hr j e).1), (k2 R0 h0 i5.lt).trans i5, (k2 R1 h1 i6.lt).trans i6, (k3 ⟨_, i7, rfl⟩).trans i7,
    OwnTT.keep i8 (fun k hk => k4 k (hrw k hk) (by obtain ⟨-, -, cur, hc⟩ := hT.rowCells k (hrw k hk); exact ⟨_, hc, rfl⟩)) k1⟩
theorem a24 (w : World) : (isAgg 24).run Tryz.prog w = .ok false w := by kernel_rfl
theorem aErr (w : World) : (isAgg 29).run Tryz.prog w = .ok false w := by kernel_rfl
theorem run_results {tmps : Array Value} {w : World} {b6 b7 : Nat} {v e : Value} (h6 : tmps.getD 6 undef = .pointer (some ⟨b6, 0, none⟩)) (h7 : tmps.getD 7 undef = .pointer (some ⟨b7, 0, none⟩)) (c6 : w.cell? ⟨b6, 0, none⟩ = some v) (c7 : w.cell? ⟨b7, 0, none⟩ = some e) :
    (results Tryz.f54 tmps).run Tryz.prog w = .ok (.tuple #[v, e]) w := by

  have h6' : tmps[6]?.getD undef = .pointer (some ⟨b6, 0, none⟩) := by simpa using h6
  have h7' : tmps[7]?.getD undef = .pointer (some ⟨b7, 0, none⟩) := by simpa using h7
  simp [results, h6', h7', loadVar, go_sem, c6, c7]
theorem run_fin {w W : World} {D : Nat} {v : Value} {L : List (List Int)} {e : Int} {tmps : Array Value} (hD : w.heap.size + 1 < D) (hK : W.heap[D]? = some (.deferred (some []))) (e0 : Boxed W w.heap.size 24 v) (e1 : Boxed W (w.heap.size + 1) 29 (.int .i64 e)) (ho : OwnTT W (w.heap.size + 1 + 1) v L) (hB : Below w.heap.size w W)
    (h6 : tmps.getD 6 undef = .pointer (some ⟨w.heap.size, 0, none⟩)) (h7 : tmps.getD 7 undef = .pointer (some ⟨w.heap.size + 1, 0, none⟩)) :
    ∃ x, (results Tryz.f54 tmps).run Tryz.prog (W.putObj D (.deferred none)) = .ok x (W.putObj D (.deferred none)) ∧ retTE (L, e) w (.returned x) (W.putObj D (.deferred none)) := by
  have hg := grownBy_putObj' W D (.deferred none)
  refine ⟨_, run_results h6 h7 (e0.kept hg (fun h => by injection h with h; omega)).cell (e1.kept hg (fun h => by injection h with h; omega)).cell, v, rfl, OwnL.baseMono (OwnL.putObj ho hK rfl (celled_sl celled_int)) (by omega), ?_⟩
  exact hB.trans (belowK_b (w := w) (Nat.le_refl _) W D _ _ (by omega) hK rfl rfl)
/-- the variable of a round -/
def Boxed2 (W : World) (tb : Nat) (x : Td) : Prop := W.heap[tb]? = some (.cells #[.slice x.ap x.t.length x.cp, .int .i64 x.e] 124 (0, 0))
set_option maxRecDepth 100000 in
set_option maxHeartbeats 1000000 in
theorem krun_any {S1 S2 S3 : Nat → Prop} (a1 ag ap : Option Addr) (c1 cg cp : Nat) (s : Sg) (g : List (List Int)) (p : List Stp) (w : World) (h1 : Sign S1 w a1 c1 s) (h2 : Terms S2 w ag cg g) (h3 : Steps S3 w ap cp p) (hg : ∀ t ∈ g, okT s t = true) (hp : okSteps g.length 0 p = true) (hlp : p.length ≤ 60) :
    Calls Tryz.prog 54 #[.slice a1 s.length c1, .slice ag g.length cg, .slice ap p.length cp] w (retTE (runL s g p []) w) := by
  have m1 := h1.le
  have m2 := h2.le
  have m3 := h3.le
  have h1H := Lib.hid h1.lt
  have h2H := Lib.hid h2.lt
  have h3H := Lib.hid h3.lt
  have hgH := Lib.hid hg
  have hpH := Lib.hid hp
  clear h1 h2 h3 hg hp
  refine (callsIn_wide (n := 6)).1 ?_
  refine callsIn_of_wp_marks Tryz.func54 rfl trivial ?_ rfl
  simp only [Tryz.ntmps54, List.size_toArray, List.length_cons, List.length_nil, Nat.reduceAdd, Nat.reduceSub, Array.replicate_succ, Array.replicate_zero, List.push_toArray, List.append_toArray, List.nil_append, List.cons_append]
  gi_wp2_with fail
  refine ⟨trivial, ?_⟩
  gi_at_call 105
  refine (steps_in _ _ _ _ _ _ _ _ _ _ _).mono ?_
  rintro e w' ⟨rfl, rfl⟩
  gi_wp2_with fail
  obtain ⟨W0, hW0⟩ : ∃ W0, (((((w.alloc (.cells #[.slice none 0 0] 24)).alloc (.cells #[.int .i64 0] 29)).alloc (.cells #[.slice none 0 0] 24)).alloc (.cells #[.slice a1 s.length c1] 23)).alloc (.cells #[.slice ag g.length cg] 24)).alloc (.cells #[.slice ap p.length cp] 25) = W0 := ⟨_, rfl⟩
  obtain ⟨w2, hw2⟩ : ∃ w2, (w.alloc (.cells #[.slice none 0 0] 24)).alloc (.cells #[.int .i64 0] 29) = w2 := ⟨_, rfl⟩
  have hz2 : w2.heap.size = w.heap.size + 1 + 1 := by rw [← hw2]; simp
  have hb2 : Below w.heap.size w w2 := by rw [← hw2]; exact below2 _ _ _
  have hR0 : Boxed w2 w.heap.size 24 (.slice none 0 0) := by rw [← hw2]; exact (Boxed.new w 24 _).alloc _
  have hR1 : Boxed w2 (w.heap.size + 1) 29 (.int .i64 0) := by
    rw [← hw2]
    have := Boxed.new (w.alloc (.cells #[.slice none 0 0] 24)) 29 (.int .i64 0)
    rw [World.size_alloc] at this; exact this
  have hW0' : (((w2.alloc (.cells #[.slice none 0 0] 24)).alloc (.cells #[.slice a1 s.length c1] 23)).alloc (.cells #[.slice ag g.length cg] 24)).alloc (.cells #[.slice ap p.length cp] 25) = W0 := by rw [← hw2]; exact hW0
  have hb20 : Below w2.heap.size w2 W0 := by
    rw [← hW0']
    exact ((((Below.refl _ w2).alloc (by simp) _).alloc (by simp <;> omega) _).alloc (by simp <;> omega) _).alloc (by simp <;> omega) _
  have hbW : Below w.heap.size w W0 := bcall hb2 hb20
  have hbox : TBox W0 w2.heap.size w2.heap.size [] := by
    rw [← hW0']
    exact (TBox.new w2).below (below3 _ _ _ _)
  have cB : W0.cell? ⟨w2.heap.size, 0, none⟩ = some (.slice none 0 0) := by rw [← hW0']; clear hW0' hW0; go_simp
  have hcs : W0.cell? ⟨w2.heap.size + 1, 0, none⟩ = some (.slice a1 s.length c1) := by rw [← hW0']; clear hW0' hW0; go_simp
  have hcg : W0.cell? ⟨w2.heap.size + 1 + 1, 0, none⟩ = some (.slice ag g.length cg) := by rw [← hW0']; clear hW0' hW0; go_simp
  have hcp : W0.cell? ⟨w2.heap.size + 1 + 1 + 1, 0, none⟩ = some (.slice ap p.length cp) := by rw [← hW0']; clear hW0' hW0; go_simp
  have hz0 : W0.heap.size = w2.heap.size + 1 + 1 + 1 + 1 := by rw [← hW0']; simp
  have hr0 : rowOf w2.heap.size W0 = none := by unfold rowOf; rw [cB]; rfl
  have hsafe : ∀ b, b ≠ w2.heap.size → CellsAt W0 b → Safe w2.heap.size W0 b := fun b hb hc => ⟨hb, by rw [hr0]; simp, hc⟩
  have hsig : Sign (Safe w2.heap.size W0) W0 a1 c1 s := (Sign.cellsAt (h1H.out.below hbW)).weak (fun b hb => hsafe b (by have := hb.1.2; omega) hb.2)
  have hgiv : Terms (Safe w2.heap.size W0) W0 ag cg g := (Terms.cellsAt (h2H.out.below hbW)).weak (fun b hb => hsafe b (by have := hb.1.2; omega) hb.2)
  have hprf : Steps (Safe w2.heap.size W0) W0 ap cp p := (Sl.cellsAt (fun _ _ _ _ h => h) (h3H.out.below hbW)).weak (fun b hb => hsafe b (by have := hb.1.2; omega) hb.2)
  have hseq := steps_seq (6 - 1) (w2.heap.size + 1) (w2.heap.size + 1 + 1) (w2.heap.size + 1 + 1 + 1) w2.heap.size a1 ag ap c1 cg cp s g p W0 hgH.out hpH.out hlp hbox.rowLt hcs (hsafe _ (by omega) (.of_cell hcs)) hcg (hsafe _ (by omega) (.of_cell hcg)) hcp (hsafe _ (by omega) (.of_cell hcp)) hsig hgiv hprf
  have hI0 : runI w w.heap.size (w.heap.size + 1) w2.heap.size [] W0 := ⟨(fun x h => by cases h), hbox, hbW, (hb20.block _ hR0.lt).trans hR0, (hb20.block _ hR1.lt).trans hR1⟩
  rw [hz2] at hseq hI0 hz0
  have hI0H := Lib.hid hI0
  rw [hW0]
  clear hI0 hbox hsig hgiv hprf hsafe hr0 hcs hcg hcp cB hbW hb20 hR0 hR1 hb2 hW0 hW0' hw2 hz2
  refine range_relG rfl (by omega) (gf := 143) (lb := #[.pointer (some ⟨(w.heap.size + 1 + 1) + 1, 0, none⟩), .pointer (some ⟨(w.heap.size + 1 + 1) + 1 + 1, 0, none⟩), .pointer (some ⟨(w.heap.size + 1 + 1) + 1 + 1 + 1, 0, none⟩)]) rfl trivial (enters_of Tryz.func143 (by kernel_rfl) rfl)
    hseq (fun W r o h => by obtain ⟨cs, t, rfl, -⟩ := h; rfl) (fun h k => h.trans k) (fun W l o o' hl h hc _ => ⟨Leaves.putObj (by omega) h hc, IntKeep.putObj h hc⟩) (Below.refl _ _) Td.size
    (runI w w.heap.size (w.heap.size + 1) (w.heap.size + 1 + 1))
    (fun c pre W => c = .ret ∧ runX w w.heap.size (w.heap.size + 1) (w.heap.size + 1 + 1) pre W)
    (runI_own (by omega) (by omega) (by omega))
    (fun c pre W W' row hs hgr hr => ⟨hs.1, runX_own (by omega) (by omega) (by omega) pre W W' row hs.2 hgr hr⟩)
    hI0H.out
    (fun x a' W => ∃ tb, Boxed2 W tb x ∧ TdR x W ∧ a' = { tmps := #[.slice a1 s.length c1, .slice ag g.length cg, .slice ap p.length cp, undef, undef, undef, .pointer (some ⟨w.heap.size, 0, none⟩), .pointer (some ⟨w.heap.size + 1, 0, none⟩), .pointer (some ⟨(w.heap.size + 1 + 1), 0, none⟩), .pointer (some ⟨tb, 0, none⟩),
          .slice a1 s.length c1, .slice ag g.length cg, .slice ap p.length cp, .func (.func 143) #[] #[.pointer (some ⟨(w.heap.size + 1 + 1) + 1, 0, none⟩), .pointer (some ⟨(w.heap.size + 1 + 1) + 1 + 1, 0, none⟩), .pointer (some ⟨(w.heap.size + 1 + 1) + 1 + 1 + 1, 0, none⟩)], .agg #[.slice x.ap x.t.length x.cp, .int .i64 x.e], undef, undef, undef, undef, undef, undef, undef, undef, undef, undef, undef, undef], defers := [] })
    (fun x a' => ?hAx) ?assign ?body ?done ?stop
  case hAx =>
    rintro s' A A' row ⟨tb, h2, h3, h4⟩ hg hr
    have hk : IntKeep A A' := .of_grown hg (fun r e hi => by
      obtain ⟨-, o, g2, g3⟩ := hr r e
      obtain ⟨cs, hi⟩ := hi
      rw [hi] at g2; cases g2; cases g3)
    have htb : A'.heap[tb]? = A.heap[tb]? := hg.block tb (Array.getElem?_eq_some_iff.1 h2).1 (fun e => by
      obtain ⟨-, o, g2, g3⟩ := hr tb e.symm
      rw [show A.heap[tb]? = _ from h2] at g2; cases g2; cases g3)
    exact ⟨tb, htb.trans h2, ⟨h3.1.intKeep hk, h3.2⟩, h4⟩
  case assign =>
    intro l pre x W K hi hr hK
    dsimp only [Td.enc]
    gi_wp2
    refine hK _ _ ((KeepsOthers.alloc W _).from _) ⟨Leaves.of_below hi.2.1.lt (below1 W _), .of_below (below1 W _)⟩ (runI_own (d := W0.heap.size) (by omega) (by omega) (by omega) pre W _ none hi (World.grownBy_alloc W _ none) (fun r e => by cases e)) ⟨W.heap.size, World.alloc_heap_new W _, ⟨hr.1.intKeep (.of_below (below1 W _)), hr.2⟩, ?_⟩
    rfl
  case body =>
    rintro l pre x a' W - - ⟨i1, i2, i3, i4, i5⟩ ⟨tb, hb, hR, rfl⟩ hlen
    have c1 : W.cell? ⟨tb, 1, none⟩ = some (.int .i64 x.e) := by simp [World.cell?, show W.heap[tb]? = _ from hb]
    have c0 : W.cell? ⟨tb, 0, none⟩ = some (.slice x.ap x.t.length x.cp) := by simp [World.cell?, show W.heap[tb]? = _ from hb]
    obtain ⟨L, hL⟩ : ∃ L, pre.map Td.t = L := ⟨_, rfl⟩
    rw [hL] at i2
    have hLl : L.length = pre.length := by rw [← hL, List.length_map]
    have hLlH := Lib.hid hLl
    clear hLl
    by_cases he : x.e = 0
    · have heb : (x.e != 0) = false := by simpa using he
      obtain ⟨vL, a', cap, W9, k1, k2, k3, k4, k5, k6, k7, k8, k9, k10, k11⟩ := i2.push (Nat.le_of_lt i2.lt) (.refl _ _) hR.1 (by rw [hLlH.out]; omega)
      have hnR : ∀ {r : Nat} {t : TypeId} {v : Value}, Boxed W r t v → t ≠ 34 → vL.ownBlock ≠ some r := fun hbx ht e => by
        obtain ⟨-, -, cur, hc⟩ := i2.rowCells _ (k8.out.trans e)
        rw [show W.heap[_]? = _ from hbx] at hc
        simp only [Option.some.injEq, Obj.cells.injEq] at hc
        exact ht hc.2.1
      have hrow : ∀ {r : Nat} {t : TypeId} {v : Value}, Boxed W r t v → t ≠ 34 → r ≠ (w.heap.size + 1 + 1) → Boxed (W9.setCell ⟨(w.heap.size + 1 + 1), 0, none⟩ (.slice a' (L.length + 1) cap)) r t v := fun hbx ht hne =>
        (k7.out.block _ (Nat.lt_of_lt_of_le hbx.lt k6.out.size) (fun e => hne (by injection e))).trans ((k6.out.block _ hbx.lt (fun e => hnR hbx ht e.symm)).trans hbx)
      have hfin : ∀ ac : Act, relPostG W0.heap.size (Kp (w.heap.size + 1 + 1)) (runI w w.heap.size (w.heap.size + 1) (w.heap.size + 1 + 1)) (fun c pre W => c = .ret ∧ runX w w.heap.size (w.heap.size + 1) (w.heap.size + 1 + 1) pre W) (pre ++ [x]) W .normal ac (W9.setCell ⟨(w.heap.size + 1 + 1), 0, none⟩ (.slice a' (L.length + 1) cap)) := by
        intro ac
        refine ⟨?_, ⟨⟨Nat.le_trans k6.out.size k7.out.size, fun b hb2 => ?_, ?_, fun _ => k5.out.rowLt⟩, k10.out⟩, ?_, ?_, ?_, hrow i4 (by decide) (by omega), hrow i5 (by decide) (by omega)⟩
        · refine ((KeepsOthers.of_grownBy k6.out (fun j o e ho => ?_)).trans (KeepsOthers.setCell _ _ _)).from _
          obtain ⟨-, -, cur, hc⟩ := i2.rowCells j (k8.out.trans e)
          rw [hc] at ho; cases ho; rfl
        · exact (k7.out.block b (Nat.lt_of_lt_of_le hb2.2.2.lt k6.out.size) (fun e => hb2.1 (by injection e))).trans (k6.out.block b hb2.2.2.lt (by rw [← k8.out]; exact hb2.2.1))
        · rw [k8.out]; exact k11.out
        · intro y hy
          rcases List.mem_append.1 hy with h | h
          · exact i1 y h
          · rw [List.mem_singleton] at h; rw [h]; exact he
        · rw [List.map_append, hL]; exact k5.out
        · exact (i3.grown k6.out i3.size (fun j e => by have := (i2.rowCells j (k8.out.trans e)).1; omega)).grown k7.out (Nat.le_trans i3.size k6.out.size) (fun j e => by cases e; omega)
      have hfinH := Lib.hid hfin
      have k1 := k1.out
      have k2 := k2.out
      have k3 := k3.out
      have k4 := k4.out
      clear hfin hrow hnR k5 k6 k7 k8 k9 k10 k11 i1 i2 i3 i4 i5 hb hL
      gi_wp2_with (gi_at_builtin; refine wpListIn_append_run rfl (.tmp 21) (.tmp 24) 24 rfl rfl rfl k2 ?_)
      exact hfinH.out _
    · have heb : (x.e != 0) = true := by simpa using he
      obtain ⟨vL0, hvL, hoL⟩ := i2
      obtain ⟨aL, cL, hvE, -⟩ := OwnL.sl hoL
      subst hvE
      have cB := hvL.cell
      have q0 := i4.cell
      have q1 := i5.cell
      have f0 := i4.frozen
      have f1 := i5.frozen
      have hn0 : ¬ tb = w.heap.size := fun e => by
        rw [e] at hb
        have h := i4
        unfold Boxed at h
        rw [show W.heap[w.heap.size]? = _ from hb] at h
        simp at h
      have hn1 : ¬ tb = w.heap.size + 1 := fun e => by
        rw [e] at hb
        have h := i5
        unfold Boxed at h
        rw [show W.heap[w.heap.size + 1]? = _ from hb] at h
        simp at h
      have hT : TBox W (w.heap.size + 1 + 1) (w.heap.size + 1 + 1) L := ⟨_, hvL, hoL⟩
      have hnR : ∀ {r : Nat} {t : TypeId} {v : Value}, Boxed W r t v → t ≠ 34 → (Value.slice aL L.length cL).ownBlock ≠ some r := fun hbx ht e => by
        obtain ⟨cur, hc⟩ := OwnL.rowCells hoL _ e
        rw [show W.heap[_]? = _ from hbx] at hc
        simp only [Option.some.injEq, Obj.cells.injEq] at hc
        exact ht hc.2.1
      obtain ⟨Wd, hWd⟩ : ∃ Wd, W.drew = Wd := ⟨_, rfl⟩
      obtain ⟨W3, hW3⟩ : ∃ W3, Wd.setCell ⟨w.heap.size, 0, none⟩ (.slice aL L.length cL) = W3 := ⟨_, rfl⟩
      have hbd : Below W.heap.size W Wd := by rw [← hWd]; exact (Below.refl _ _).drew
      have hg3 : Wd.grownBy W3 (some w.heap.size) := by rw [← hW3]; exact grownBy_setCell' _ _ _
      have hg4 : W3.grownBy (W3.setCell ⟨w.heap.size + 1, 0, none⟩ (.int .i64 x.e)) (some (w.heap.size + 1)) := grownBy_setCell' _ _ _
      have d4 : Boxed Wd w.heap.size 24 (.slice none 0 0) := (hbd.block _ i4.lt).trans i4
      have d5 : Boxed Wd (w.heap.size + 1) 29 (.int .i64 0) := (hbd.block _ i5.lt).trans i5
      have dB : Boxed Wd (w.heap.size + 1 + 1) 24 (.slice aL L.length cL) := (hbd.block _ hvL.lt).trans hvL
      have dO := OwnTT.keep hoL (fun k hk => hbd.block k (OwnL.lt hoL k hk).2) (.of_below hbd)
      have e4 : Boxed W3 w.heap.size 24 (.slice aL L.length cL) := by rw [← hW3]; exact d4.set _
      have e5 : Boxed W3 (w.heap.size + 1) 29 (.int .i64 0) := d5.kept hg3 (fun e => by injection e with e; omega)
      have eB : Boxed W3 (w.heap.size + 1 + 1) 24 (.slice aL L.length cL) := dB.kept hg3 (fun e => by injection e with e; omega)
      have eO := OwnTT.keep dO (fun k hk => hg3.block k (OwnL.lt dO k hk).2 (fun e => hnR i4 (by decide) (by rw [hk, e]))) (.of_grown hg3 (fun r e => by cases e; exact not_intB d4 (by decide)))
      have hfin : ∀ ac : Act, relPostG W0.heap.size (Kp (w.heap.size + 1 + 1)) (runI w w.heap.size (w.heap.size + 1) (w.heap.size + 1 + 1)) (fun c pre W => c = .ret ∧ runX w w.heap.size (w.heap.size + 1) (w.heap.size + 1 + 1) pre W) (pre ++ [x]) W .ret ac (W3.setCell ⟨w.heap.size + 1, 0, none⟩ (.int .i64 x.e)) := by
        intro ac
        refine ⟨?_, rfl, pre, x, _, rfl, i1, he, ?_, e4.kept hg4 (fun e => by injection e with e; omega), e5.set _, eB.kept hg4 (fun e => by injection e with e; omega), ?_⟩
        · refine ((KeepsOthers.of_grownBy (row := none) (Below.grow hbd) (fun j o e => by cases e)).trans (KeepsOthers.trans ?_ (KeepsOthers.setCell _ _ _))).from _
          rw [← hW3]; exact KeepsOthers.setCell _ _ _
        · exact ((i3.trans (hbd.mono i3.size)).grown hg3 (Nat.le_trans i3.size hbd.size) (fun j e => by cases e; omega)).grown hg4 (Nat.le_trans (Nat.le_trans i3.size hbd.size) hg3.size) (fun j e => by cases e; omega)
        · rw [hL]
          exact OwnTT.keep eO (fun k hk => hg4.block k (OwnL.lt eO k hk).2 (fun e => hnR i5 (by decide) (by rw [hk, e]))) (.of_grown hg4 (fun r e => by cases e; exact not_intB e5 (by decide)))
      have hfinH := Lib.hid hfin
      have hW3H := Lib.hid hW3
      have hWdH := Lib.hid hWd
      have cBd := dB.cell
      have q0d := d4.cell
      have f0d := d4.frozen
      have c1d : Wd.cell? ⟨tb, 1, none⟩ = some (.int .i64 x.e) := by rw [← hWd]; exact c1
      have cB3 := eB.cell
      have q13 := e5.cell
      have f13 := e5.frozen
      have c13 : W3.cell? ⟨tb, 1, none⟩ = some (.int .i64 x.e) := (World.cell?_of_block (w := Wd) (hg3.block tb (World.block_lt_of_cell? _ _ c1d) (fun e => hn0 (by injection e)))).trans c1d
      clear hfin hT hnR hbd hg3 hg4 d4 d5 dB dO e4 e5 eB eO hWd hW3 hvL hoL i1 i3 i4 i5 hL hn1
      gi_wp2
      refine wpIn_region_any (by kernel_rfl) ?_
      show wpAnyIn _ _ _ _ _ _ _ _ _ (W.drew)
      rw [hWdH.out]
      refine region_in2 0 1 rfl rfl (by kernel_rfl) (fun K hK => ?_) (fun K hK => ?_)
      · refine NextIn.value (v := (.slice aL L.length cL)) (w' := Wd) rfl (fun c => by simp) rfl (by go_simp) ?_
        refine hK.out _ _ ?_
        clear hK
        simp only [Act.put, List.setIfInBounds_toArray, List.set_cons_zero, List.set_cons_succ]
        refine region_in2 1 3 rfl rfl (by kernel_rfl) (fun K hK => ?_) (fun K hK => ?_)
        · refine NextIn.value (v := .pointer (some ⟨tb, 1, none⟩)) (w' := Wd) rfl (fun c => by simp) rfl (by go_simp) ?_
          refine hK.out _ _ ?_
          clear hK
          simp only [Act.put, List.setIfInBounds_toArray, List.set_cons_zero, List.set_cons_succ]
          refine region_in2 2 3 rfl rfl (by kernel_rfl) (fun K hK => ?_) (fun K hK => ?_)
          · refine NextIn.value (v := .int .i64 x.e) (w' := Wd) rfl (fun c => by simp) rfl (by go_simp) ?_
            refine hK.out _ _ ?_
            clear hK
            simp only [Act.put, List.setIfInBounds_toArray, List.set_cons_zero, List.set_cons_succ]
            refine region_in1 3 rfl (by kernel_rfl) (fun K hK => ?_)
            refine NextIn.skip (w' := Wd.setCell ⟨w.heap.size, 0, none⟩ (.slice aL L.length cL)) rfl (fun c => by simp) rfl (by go_simp) ?_
            rw [hW3H.out]
            refine hK.out _ _ ?_
            clear hK
            simp only [Act.put]
            refine region_in1 4 rfl (by kernel_rfl) (fun K hK => ?_)
            refine NextIn.skip (w' := W3.setCell ⟨w.heap.size + 1, 0, none⟩ (.int .i64 x.e)) rfl (fun c => by simp) rfl (by go_simp) ?_
            refine hK.out _ _ ?_
            clear hK
            simp only [Act.put]
            refine wpAnyIn_done (by kernel_rfl) ?_ _
            gi_wp2_with fail
            exact hfinH.out _
          · refine NextIn.skip (w' := Wd.setCell ⟨w.heap.size, 0, none⟩ (.slice aL L.length cL)) rfl (fun c => by simp) rfl (by go_simp) ?_
            rw [hW3H.out]
            refine hK.out _ _ ?_
            clear hK
            simp only [Act.put]
            refine region_in1 2 rfl (by kernel_rfl) (fun K hK => ?_)
            refine NextIn.value (v := .int .i64 x.e) (w' := W3) rfl (fun c => by simp) rfl (by go_simp) ?_
            refine hK.out _ _ ?_
            clear hK
            simp only [Act.put, List.setIfInBounds_toArray, List.set_cons_zero, List.set_cons_succ]
            refine region_in1 4 rfl (by kernel_rfl) (fun K hK => ?_)
            refine NextIn.skip (w' := W3.setCell ⟨w.heap.size + 1, 0, none⟩ (.int .i64 x.e)) rfl (fun c => by simp) rfl (by go_simp) ?_
            refine hK.out _ _ ?_
            clear hK
            simp only [Act.put]
            refine wpAnyIn_done (by kernel_rfl) ?_ _
            gi_wp2_with fail
            exact hfinH.out _
        · refine NextIn.skip (w' := Wd.setCell ⟨w.heap.size, 0, none⟩ (.slice aL L.length cL)) rfl (fun c => by simp) rfl (by go_simp) ?_
          rw [hW3H.out]
          refine hK.out _ _ ?_
          clear hK
          simp only [Act.put]
          refine region_in1 1 rfl (by kernel_rfl) (fun K hK => ?_)
          refine NextIn.value (v := .pointer (some ⟨tb, 1, none⟩)) (w' := W3) rfl (fun c => by simp) rfl (by go_simp) ?_
          refine hK.out _ _ ?_
          clear hK
          simp only [Act.put, List.setIfInBounds_toArray, List.set_cons_zero, List.set_cons_succ]
          refine region_in1 2 rfl (by kernel_rfl) (fun K hK => ?_)
          refine NextIn.value (v := .int .i64 x.e) (w' := W3) rfl (fun c => by simp) rfl (by go_simp) ?_
          refine hK.out _ _ ?_
          clear hK
          simp only [Act.put, List.setIfInBounds_toArray, List.set_cons_zero, List.set_cons_succ]
          refine region_in1 4 rfl (by kernel_rfl) (fun K hK => ?_)
          refine NextIn.skip (w' := W3.setCell ⟨w.heap.size + 1, 0, none⟩ (.int .i64 x.e)) rfl (fun c => by simp) rfl (by go_simp) ?_
          refine hK.out _ _ ?_
          clear hK
          simp only [Act.put]
          refine wpAnyIn_done (by kernel_rfl) ?_ _
          gi_wp2_with fail
          exact hfinH.out _
      · refine NextIn.value (v := .pointer (some ⟨tb, 1, none⟩)) (w' := Wd) rfl (fun c => by simp) rfl (by go_simp) ?_
        refine hK.out _ _ ?_
        clear hK
        simp only [Act.put, List.setIfInBounds_toArray, List.set_cons_zero, List.set_cons_succ]
        refine region_in2 0 2 rfl rfl (by kernel_rfl) (fun K hK => ?_) (fun K hK => ?_)
        · refine NextIn.value (v := (.slice aL L.length cL)) (w' := Wd) rfl (fun c => by simp) rfl (by go_simp) ?_
          refine hK.out _ _ ?_
          clear hK
          simp only [Act.put, List.setIfInBounds_toArray, List.set_cons_zero, List.set_cons_succ]
          refine region_in2 2 3 rfl rfl (by kernel_rfl) (fun K hK => ?_) (fun K hK => ?_)
          · refine NextIn.value (v := .int .i64 x.e) (w' := Wd) rfl (fun c => by simp) rfl (by go_simp) ?_
            refine hK.out _ _ ?_
            clear hK
            simp only [Act.put, List.setIfInBounds_toArray, List.set_cons_zero, List.set_cons_succ]
            refine region_in1 3 rfl (by kernel_rfl) (fun K hK => ?_)
            refine NextIn.skip (w' := Wd.setCell ⟨w.heap.size, 0, none⟩ (.slice aL L.length cL)) rfl (fun c => by simp) rfl (by go_simp) ?_
            rw [hW3H.out]
            refine hK.out _ _ ?_
            clear hK
            simp only [Act.put]
            refine region_in1 4 rfl (by kernel_rfl) (fun K hK => ?_)
            refine NextIn.skip (w' := W3.setCell ⟨w.heap.size + 1, 0, none⟩ (.int .i64 x.e)) rfl (fun c => by simp) rfl (by go_simp) ?_
            refine hK.out _ _ ?_
            clear hK
            simp only [Act.put]
            refine wpAnyIn_done (by kernel_rfl) ?_ _
            gi_wp2_with fail
            exact hfinH.out _
          · refine NextIn.skip (w' := Wd.setCell ⟨w.heap.size, 0, none⟩ (.slice aL L.length cL)) rfl (fun c => by simp) rfl (by go_simp) ?_
            rw [hW3H.out]
            refine hK.out _ _ ?_
            clear hK
            simp only [Act.put]
            refine region_in1 2 rfl (by kernel_rfl) (fun K hK => ?_)
            refine NextIn.value (v := .int .i64 x.e) (w' := W3) rfl (fun c => by simp) rfl (by go_simp) ?_
            refine hK.out _ _ ?_
            clear hK
            simp only [Act.put, List.setIfInBounds_toArray, List.set_cons_zero, List.set_cons_succ]
            refine region_in1 4 rfl (by kernel_rfl) (fun K hK => ?_)
            refine NextIn.skip (w' := W3.setCell ⟨w.heap.size + 1, 0, none⟩ (.int .i64 x.e)) rfl (fun c => by simp) rfl (by go_simp) ?_
            refine hK.out _ _ ?_
            clear hK
            simp only [Act.put]
            refine wpAnyIn_done (by kernel_rfl) ?_ _
            gi_wp2_with fail
            exact hfinH.out _
        · refine NextIn.value (v := .int .i64 x.e) (w' := Wd) rfl (fun c => by simp) rfl (by go_simp) ?_
          refine hK.out _ _ ?_
          clear hK
          simp only [Act.put, List.setIfInBounds_toArray, List.set_cons_zero, List.set_cons_succ]
          refine region_in1 0 rfl (by kernel_rfl) (fun K hK => ?_)
          refine NextIn.value (v := (.slice aL L.length cL)) (w' := Wd) rfl (fun c => by simp) rfl (by go_simp) ?_
          refine hK.out _ _ ?_
          clear hK
          simp only [Act.put, List.setIfInBounds_toArray, List.set_cons_zero, List.set_cons_succ]
          refine region_in1 3 rfl (by kernel_rfl) (fun K hK => ?_)
          refine NextIn.skip (w' := Wd.setCell ⟨w.heap.size, 0, none⟩ (.slice aL L.length cL)) rfl (fun c => by simp) rfl (by go_simp) ?_
          rw [hW3H.out]
          refine hK.out _ _ ?_
          clear hK
          simp only [Act.put]
          refine region_in1 4 rfl (by kernel_rfl) (fun K hK => ?_)
          refine NextIn.skip (w' := W3.setCell ⟨w.heap.size + 1, 0, none⟩ (.int .i64 x.e)) rfl (fun c => by simp) rfl (by go_simp) ?_
          refine hK.out _ _ ?_
          clear hK
          simp only [Act.put]
          refine wpAnyIn_done (by kernel_rfl) ?_ _
          gi_wp2_with fail
          exact hfinH.out _
  case done =>
    rintro D xs W hD hxs ⟨i1, ⟨vL, hvL, hoL⟩, i3, i4, i5⟩ hK
    obtain ⟨L, hL⟩ : ∃ L, xs.map Td.t = L := ⟨_, rfl⟩
    rw [hL] at hoL
    have hE : (L, (0 : Int)) = runL s g p [] := by
      rw [run_of_told p [] (fun y hy => ?_), ← hxs]
      · rw [List.nil_append, ← hL, List.map_map]; rfl
      · rw [← hxs] at hy
        obtain ⟨x, hx, rfl⟩ := List.mem_map.1 hy
        exact i1 x hx
    obtain ⟨aL, cL, hvE, -⟩ := OwnL.sl hoL
    subst hvE
    have cB := hvL.cell
    have q0 := i4.cell
    have q1 := i5.cell
    have f0 := i4.frozen
    have f1 := i5.frozen
    obtain ⟨W1, hW1⟩ : ∃ W1, W.setCell ⟨w.heap.size, 0, none⟩ (.slice aL L.length cL) = W1 := ⟨_, rfl⟩
    obtain ⟨W2, hW2⟩ : ∃ W2, W1.setCell ⟨w.heap.size + 1, 0, none⟩ (.int .i64 0) = W2 := ⟨_, rfl⟩
    have hnR : ∀ {r : Nat} {t : TypeId} {v : Value}, Boxed W r t v → t ≠ 34 → (Value.slice aL L.length cL).ownBlock ≠ some r := fun hbx ht e => by
      obtain ⟨cur, hc⟩ := OwnL.rowCells hoL _ e
      rw [show W.heap[_]? = _ from hbx] at hc
      simp only [Option.some.injEq, Obj.cells.injEq] at hc
      exact ht hc.2.1
    have hg1 : W.grownBy W1 (some w.heap.size) := by rw [← hW1]; exact grownBy_setCell' _ _ _
    have hg2 : W1.grownBy W2 (some (w.heap.size + 1)) := by rw [← hW2]; exact grownBy_setCell' _ _ _
    have d0 : Boxed W1 w.heap.size 24 (.slice aL L.length cL) := by rw [← hW1]; exact i4.set _
    have d1 : Boxed W1 (w.heap.size + 1) 29 (.int .i64 0) := i5.kept hg1 (fun e => by injection e with e; omega)
    have e0 : Boxed W2 w.heap.size 24 (.slice aL L.length cL) := d0.kept hg2 (fun e => by injection e with e; omega)
    have e1 : Boxed W2 (w.heap.size + 1) 29 (.int .i64 0) := by rw [← hW2]; exact d1.set _
    have dO := OwnTT.keep hoL (fun k hk => hg1.block k (OwnL.lt hoL k hk).2 (fun e => hnR i4 (by decide) (by rw [hk, e]))) (.of_grown hg1 (fun r e => by cases e; exact not_intB i4 (by decide)))
    have eO := OwnTT.keep dO (fun k hk => hg2.block k (OwnL.lt dO k hk).2 (fun e => hnR i5 (by decide) (by rw [hk, e]))) (.of_grown hg2 (fun r e => by cases e; exact not_intB d1 (by decide)))
    have hK2 : W2.heap[D]? = some (.deferred (some [])) := by
      have hl := (Array.getElem?_eq_some_iff.1 hK).1
      exact (hg2.block D (Nat.lt_of_lt_of_le hl hg1.size) (fun e => by injection e with e; omega)).trans ((hg1.block D hl (fun e => by injection e with e; omega)).trans hK)
    have eB : Below w.heap.size w W2 := (i3.grown hg1 i3.size (fun j e => by cases e; omega)).grown hg2 (Nat.le_trans i3.size hg1.size) (fun j e => by cases e; omega)
    have hfin : ∀ tmps : Array Value, tmps.getD 6 undef = .pointer (some ⟨w.heap.size, 0, none⟩) → tmps.getD 7 undef = .pointer (some ⟨w.heap.size + 1, 0, none⟩) → _ := fun tmps h6 h7 => run_fin (tmps := tmps) (by omega) hK2 e0 e1 eO eB h6 h7
    have hfinH := Lib.hid hfin
    have hK2H := Lib.hid hK2
    have hW1H := Lib.hid hW1
    have hW2H := Lib.hid hW2
    clear i1 i3 i4 i5 hoL hvL hxs hL hnR hg1 hg2 d0 d1 e0 e1 dO eO hK2 eB hfin hK hW1 hW2
    gi_wp2
    rw [hW1H.out, hW2H.out]
    refine ⟨by simp, .inl ⟨_, _, rfl, run_takeDeferred hK2H.out, ?_⟩⟩
    rw [← hE]
    exact hfinH.out _ rfl rfl
  case stop =>
    rintro D c pre W hD hSp ⟨rfl, pre0, x, v, rfl, j1, j2, j3, j4, j5, j6, j7⟩ hK
    have hE := run_of_stop p [] (pre0.map Td.pt) (Td.pt x) (by simpa using hSp) (fun y hy => by obtain ⟨z, hz, rfl⟩ := List.mem_map.1 hy; exact j1 z hz) j2
    have hL : pre0.map Td.t = [] ++ (pre0.map Td.pt).map Prod.fst := by rw [List.nil_append, List.map_map]; rfl
    rw [hL] at j7
    have hD' : w.heap.size + 1 < D := by omega
    have hfin : ∀ tmps : Array Value, tmps.getD 6 undef = .pointer (some ⟨w.heap.size, 0, none⟩) → tmps.getD 7 undef = .pointer (some ⟨w.heap.size + 1, 0, none⟩) → _ := fun tmps h6 h7 => run_fin (tmps := tmps) hD' hK j4 j5 j7 j3 h6 h7
    have hKH := Lib.hid hK
    have hfinH := Lib.hid hfin
    clear hfin hK j1 j2 j3 j4 j5 j6 j7 hSp
    gi_wp2
    refine ⟨by simp, .inl ⟨_, _, rfl, run_takeDeferred hKH.out, ?_⟩⟩
    rw [hE]
    exact hfinH.out _ rfl rfl
end Go.Proofs.YtgkddhakhapjlaaGreatDoor

/- Walks of package kernel: Run, Says. -/
namespace Go.Proofs.YtgkddhakhapjlaaGreatDoor
open Go Go.RowKit Go.Maps

def retR (r : List (List Int) × Int × Int) (w : World) (e : Ending) (w' : World) : Prop := ∃ v, e = .returned (.tuple #[v, .int .i64 r.2.1, .int .i64 r.2.2]) ∧ OwnTs (fun _ => True) w' w.heap.size v r.1 ∧ Below w.heap.size w w'
def retS (r : List Int × Int) (w : World) (e : Ending) (w' : World) : Prop := ∃ a c, e = .returned (.tuple #[.slice a r.1.length c, .int .i64 r.2]) ∧ Ints (fun _ => True) w' a c r.1 ∧ Below w.heap.size w w'
theorem askedB_full {s : Sg} {g : List (List Int)} {p : List Stp} (h : askedB s g p = true) : (∀ t ∈ g, okT s t = true) ∧ okSteps g.length 0 p = true ∧ 1 ≤ p.length ∧ p.length ≤ 60 := by
  simp only [askedB, validP, Bool.and_eq_true, decide_eq_true_eq] at h
  exact ⟨(givensB_parts h.1).2.2, h.2.1, h.2.2.1, h.2.2.2⟩
set_option maxHeartbeats 1000000 in
theorem Run_any {S1 S2 S3 : Nat → Prop} (a1 ag ap : Option Addr) (c1 cg cp : Nat) (s : Sg) (g : List (List Int)) (p : List Stp) (w : World) (h1 : Sign S1 w a1 c1 s) (h2 : Terms S2 w ag cg g) (h3 : Steps S3 w ap cp p) :
    Calls Tryz.prog 14 #[.slice a1 s.length c1, .slice ag g.length cg, .slice ap p.length cp] w (retR (runR s g p) w) := by
  have m1 := h1.le
  have m2 := h2.le
  have m3 := h3.le
  have v1 := asked_any a1 ag ap c1 cg cp s g p w h1 h2 h3
  cases hx : askedB s g p with
  | false =>
    rw [hx] at v1
    have hrH := Lib.hid (show runR s g p = ([], 0, 1) by rw [runR, hx]; rfl)
    have v1H := Lib.hid v1
    clear v1 h1 h2 h3 hx
    go_enter Tryz.func14, Tryz.ntmps14
    go_wp2_with fail
    refine v1H.out.mono ?_
    rintro e w1 ⟨rfl, hb1⟩
    go_wp2_with fail
    go_ret3
    rw [hrH.out]
    exact ⟨_, rfl, .nil _ _ _ _ _, hb1⟩
  | true =>
    rw [hx] at v1
    obtain ⟨q1, q2, -, q3⟩ := askedB_full hx
    have v2 := fun W (hb : Below w.heap.size w W) => krun_any a1 ag ap c1 cg cp s g p W (h1.below hb) (h2.below hb) (h3.below hb) q1 q2 q3
    obtain ⟨L, E, hLE⟩ : ∃ L E, runL s g p [] = (L, E) := ⟨_, _, rfl⟩
    rw [hLE] at v2
    have hr : runR s g p = if E = 0 then (L, -1, 0) else (L, (L.length : Int), E) := by rw [runR, if_pos hx, hLE]
    have v1H := Lib.hid v1
    have v2H := Lib.hid v2
    clear v1 v2 h1 h2 h3 hx q1 q2 q3 hLE
    by_cases hE : E = 0
    · rw [if_pos hE] at hr
      subst hE
      have hrH := Lib.hid hr
      clear hr
      go_enter Tryz.func14, Tryz.ntmps14
      go_wp2_with fail
      refine v1H.out.mono ?_
      rintro e w1 ⟨rfl, hb1⟩
      go_wp2_with fail
      refine (v2H.out _ hb1).mono ?_
      rintro e w2 ⟨v, rfl, ho, hb2⟩
      have hoH := Lib.hid (OwnL.baseMono (base' := w.heap.size) ho hb1.size)
      clear ho
      go_wp2_with fail
      go_ret3
      rw [hrH.out]
      exact ⟨_, rfl, hoH.out, bcall hb1 hb2⟩
    · rw [if_neg hE] at hr
      have hne : (E != 0) = true := by simpa using hE
      have hrH := Lib.hid hr
      clear hr hE
      go_enter Tryz.func14, Tryz.ntmps14
      go_wp2_with fail
      refine v1H.out.mono ?_
      rintro e w1 ⟨rfl, hb1⟩
      go_wp2_with fail
      refine (v2H.out _ hb1).mono ?_
      rintro e w2 ⟨v, rfl, ho, hb2⟩
      obtain ⟨aL, cL, rfl, -⟩ := OwnL.sl ho
      have hoH := Lib.hid (OwnL.baseMono (base' := w.heap.size) ho hb1.size)
      clear ho
      go_wp2_with fail
      go_ret3
      rw [hrH.out]
      exact ⟨_, rfl, hoH.out, bcall hb1 hb2⟩
set_option maxHeartbeats 1000000 in
theorem Says_any {S1 S2 S3 : Nat → Prop} (a1 ag ap : Option Addr) (c1 cg cp : Nat) (s : Sg) (g : List (List Int)) (p : List Stp) (w : World) (h1 : Sign S1 w a1 c1 s) (h2 : Terms S2 w ag cg g) (h3 : Steps S3 w ap cp p) :
    Calls Tryz.prog 19 #[.slice a1 s.length c1, .slice ag g.length cg, .slice ap p.length cp] w (retS (saysE s g p) w) := by
  have m1 := h1.le
  have m2 := h2.le
  have m3 := h3.le
  have v1 := Run_any a1 ag ap c1 cg cp s g p w h1 h2 h3
  obtain ⟨L, N, E, hR⟩ : ∃ L N E, runR s g p = (L, N, E) := ⟨_, _, _, rfl⟩
  have hS : (E ≠ 0 ∧ saysE s g p = ([], E)) ∨ (E = 0 ∧ 1 ≤ L.length ∧ L.length ≤ 60 ∧ saysE s g p = (L.getLastD [], 0)) := by
    rw [runR] at hR
    rw [saysE]
    by_cases hx : askedB s g p = true
    · rw [if_pos hx] at hR ⊢
      by_cases h0 : (runL s g p []).2 = 0
      · rw [if_pos h0] at hR ⊢
        cases hR
        obtain ⟨q1, q2, q4, q3⟩ := askedB_full hx
        have := (runL_okT q1 p [] (fun t h => by cases h) q2).2.1 h0
        simp only [List.length_nil] at this
        exact .inr ⟨rfl, by omega, by omega, rfl⟩
      · rw [if_neg h0] at hR ⊢
        cases hR
        exact .inl ⟨h0, rfl⟩
    · rw [if_neg hx] at hR ⊢
      cases hR
      exact .inl ⟨by decide, rfl⟩
  rw [hR] at v1
  have v1H := Lib.hid v1
  clear v1 hR h1 h2 h3
  rcases hS with ⟨hE, hS⟩ | ⟨rfl, hl1, hl2, hS⟩
  · have hne : (E != 0) = true := by simpa using hE
    have hSH := Lib.hid hS
    clear hS hE
    go_enter Tryz.func19, Tryz.ntmps19
    go_wp2_with fail
    refine v1H.out.mono ?_
    rintro e w1 ⟨v, rfl, ho, hb1⟩
    clear ho
    go_wp2_with fail
    go_ret2
    rw [hSH.out]
    exact ⟨_, _, rfl, Sl.empty, hb1⟩
  · have hSH := Lib.hid hS
    have e1 : IntKind.i64.wrap ((L.length : Int) - 1) = ((L.length - 1 : Nat) : Int) := by rw [IntWalk.i64_in _ (by omega)]; omega
    clear hS
    go_enter Tryz.func19, Tryz.ntmps19
    go_wp2_with fail
    refine v1H.out.mono ?_
    rintro e w1 ⟨v, rfl, ho, hb1⟩
    obtain ⟨a, c, rfl, hT⟩ := OwnL.sl ho
    obtain ⟨b1, o1, a4, c4, rfl, -, q1, hA⟩ := hT.sub (L.length - 1) (by simp only; omega)
    dsimp only at q1 hA
    have hq : L[L.length - 1] = L.getLastD [] := by
      rw [List.getLastD_eq_getLast?, List.getLast?_eq_getElem?, List.getElem?_eq_getElem (by omega)]; rfl
    obtain ⟨z, hz⟩ : ∃ z, L.getLastD [] = z := ⟨_, rfl⟩
    rw [hq, hz] at q1 hA
    have hS := hSH.out
    rw [hz] at hS
    have hSK := Lib.hid hS
    have hAH := Lib.hid hA.any
    clear ho hT hA hq hS hSH hz
    go_wp2_with fail
    all_goals go_ret2
    all_goals rw [hSK.out]
    all_goals exact ⟨_, _, rfl, hAH.out, hb1⟩
end Go.Proofs.YtgkddhakhapjlaaGreatDoor

/- Each thing follows from itself: what the proof of the laws on kernel says, in plain words. No program is named. -/
namespace Go.Proofs.YtgkddhakhapjlaaGreatDoor

/-- a unifier through which all others go gives what the most general one gives -/
theorem uniE_by {s : Sg} (hok : okSign s = true) {a b : List Int} (ha : W1 s a) (hb : W1 s b) (ra : Rg a) (rb : Rg b) {ξ : Int → List Int} (hξ : Wsub s ξ) (he : ap ξ a = ap ξ b)
    (hm : ∀ η, Wsub s η → ap η a = ap η b → ∀ n, n < 0 → ap η (ξ n) = η n) (t : List Int) : uniE s a b t = madeE ξ t := by
  obtain ⟨θ, hθ⟩ := mgu_ex hok ha hb ra rb hξ he
  have e2 : ap θ (ap ξ t) = ap θ t := by rw [ap_ap]; exact ap_congr (fun n _ hn => hm θ hθ.th hθ.eq n hn)
  obtain ⟨c1, c2, c3⟩ := canon_two hθ.th hξ (u1 := ap θ t) (u2 := ap ξ t) (hθ.most hξ he t) e2
  rw [uniE_some hθ]
  unfold madeE
  rw [c1, c2, c3]
def aw4S : Sg := [(⟨#[67]⟩, 2)]
def aw4K : List Int := [0, -1, 0, -2, -1]
def aw4C : List Int := [0, 0, -1, 0, -2, -3, 0, 0, -1, -2, 0, -1, -3]
def aw4G : List (List Int) := [aw4K, aw4C]
def aw4P : List Stp := [(1, 1, 0), (1, 0, 0), (2, 0, 1), (2, 2, 1)]
def aw4D : List Int := [0, 0, -1, -2, 0, -1, -1]
theorem aw4_unt : untE 2 ⟨#[68, 68, 103, 48, 49, 103, 48, 48, 103, 48, 48]⟩ = (aw4P, 0) := by decide +kernel
theorem aw4_one : detE aw4S aw4C aw4K = (aw4D, 0) := by
  have hC : okT aw4S aw4C = true := by decide +kernel
  have hK : okT aw4S aw4K = true := by decide +kernel
  have hA : W1 aw4S [0, -1, 0, -2, -3] := by unfold W1; decide +kernel
  have hA' : okT aw4S [0, -1, 0, -2, -3] = true := by decide +kernel
  rw [detE_at hC hK (A := [0, -1, 0, -2, -3]) (B := [0, 0, -1, -2, 0, -1, -3]) rfl hA]
  have hξ : Wsub aw4S (fun n => if n = -13 then [-1] else if n = -14 then [-2] else if n = -3 then [-1] else [n]) := fun n hn => by
    show W1 aw4S (if n = -13 then [-1] else if n = -14 then [-2] else if n = -3 then [-1] else [n])
    split
    · exact W1.var (by decide)
    · split
      · exact W1.var (by decide)
      · split
        · exact W1.var (by decide)
        · exact W1.var hn
  rw [uniE_by (okT_parts hC).1 hA (apartT_w (okT_w1 hK)) (okT_Rg hA') (apartT_rg hK) hξ (by decide +kernel) (fun η hw he n hn => ?_)]
  · decide +kernel
  · have e1 : ap η [0, -1, 0, -2, -3] = 0 :: (η (-1) ++ (0 :: (η (-2) ++ η (-3)))) := by
      rw [ap_pos (by decide), ap_neg (by decide), ap_pos (by decide), ap_neg (by decide), ap_one (by decide)]
    have e2 : ap η (apartT aw4K) = 0 :: (η (-13) ++ (0 :: (η (-14) ++ η (-13)))) := by
      show ap η [0, -13, 0, -14, -13] = _
      rw [ap_pos (by decide), ap_neg (by decide), ap_pos (by decide), ap_neg (by decide), ap_one (by decide)]
    rw [e1, e2] at he
    obtain ⟨q1, q2⟩ := W1.uniq (hw _ (by decide)) (hw _ (by decide)) (List.cons.inj he).2
    obtain ⟨q3, q4⟩ := W1.uniq (hw _ (by decide)) (hw _ (by decide)) (List.cons.inj q2).2
    show ap η (if n = -13 then [-1] else if n = -14 then [-2] else if n = -3 then [-1] else [n]) = η n
    split
    · rename_i h; subst h; rw [ap_one (by decide), q1]
    · split
      · rename_i h; subst h; rw [ap_one (by decide), q3]
      · split
        · rename_i h; subst h; rw [ap_one (by decide), q4, q1]
        · rw [ap_one hn]
theorem aw4_last : detE aw4S aw4D aw4K = ([0, -1, -1], 0) := by
  have hC : okT aw4S aw4D = true := by decide +kernel
  have hK : okT aw4S aw4K = true := by decide +kernel
  have hA : W1 aw4S [0, -1, -2] := by unfold W1; decide +kernel
  have hA' : okT aw4S [0, -1, -2] = true := by decide +kernel
  rw [detE_at hC hK (A := [0, -1, -2]) (B := [0, -1, -1]) rfl hA]
  have hξ : Wsub aw4S (fun n => if n = -13 then [-1] else if n = -2 then [0, -14, -1] else [n]) := fun n hn => by
    show W1 aw4S (if n = -13 then [-1] else if n = -2 then [0, -14, -1] else [n])
    split
    · exact W1.var (by decide)
    · split
      · unfold W1; decide +kernel
      · exact W1.var hn
  rw [uniE_by (okT_parts hC).1 hA (apartT_w (okT_w1 hK)) (okT_Rg hA') (apartT_rg hK) hξ (by decide +kernel) (fun η hw he n hn => ?_)]
  · decide +kernel
  · have e1 : ap η [0, -1, -2] = 0 :: (η (-1) ++ η (-2)) := by
      rw [ap_pos (by decide), ap_neg (by decide), ap_one (by decide)]
    have e2 : ap η (apartT aw4K) = 0 :: (η (-13) ++ (0 :: (η (-14) ++ η (-13)))) := by
      show ap η [0, -13, 0, -14, -13] = _
      rw [ap_pos (by decide), ap_neg (by decide), ap_pos (by decide), ap_neg (by decide), ap_one (by decide)]
    rw [e1, e2] at he
    obtain ⟨q1, q2⟩ := W1.uniq (hw _ (by decide)) (hw _ (by decide)) (List.cons.inj he).2
    show ap η (if n = -13 then [-1] else if n = -2 then [0, -14, -1] else [n]) = η n
    split
    · rename_i h; subst h; rw [ap_one (by decide), q1]
    · split
      · rename_i h; subst h
        rw [ap_pos (by decide), ap_neg (by decide), ap_one (by decide), q2, q1]
      · rw [ap_one hn]
theorem aw4_says : saysE aw4S aw4G aw4P = ([0, -1, -1], 0) := by
  have h1 : stepE aw4S aw4G [] (1, 1, 0) = (aw4C, 0) := by unfold stepE; rw [if_pos rfl]; decide +kernel
  have h2 : stepE aw4S aw4G [aw4C] (1, 0, 0) = (aw4K, 0) := by unfold stepE; rw [if_pos rfl]; decide +kernel
  have h3 : stepE aw4S aw4G [aw4C, aw4K] (2, 0, 1) = (aw4D, 0) := by unfold stepE; rw [if_neg (by decide)]; exact aw4_one
  have h4 : stepE aw4S aw4G [aw4C, aw4K, aw4D] (2, 2, 1) = ([0, -1, -1], 0) := by unfold stepE; rw [if_neg (by decide)]; exact aw4_last
  have hr : runL aw4S aw4G aw4P [] = ([aw4C, aw4K, aw4D, [0, -1, -1]], 0) := by
    unfold aw4P
    rw [runL, h1, if_pos rfl, List.nil_append, runL, h2, if_pos rfl, List.cons_append, List.nil_append, runL, h3, if_pos rfl, List.cons_append, List.cons_append, List.nil_append, runL, h4, if_pos rfl, runL]
    rfl
  unfold saysE
  rw [if_pos (by decide +kernel), hr]
  rfl
end Go.Proofs.YtgkddhakhapjlaaGreatDoor

/- Walks: awake of the laws on kernel. -/
namespace Go.Proofs.YtgkddhakhapjlaaGreatDoor
open Go Go.RowKit Go.Maps

theorem aw4Sign (w : World) : Sign (fun b => b = w.heap.size) (w.alloc (.cells #[.string ⟨#[67]⟩, .int .i64 2] 71)) (some ⟨w.heap.size, 0, none⟩) 1 aw4S := by
  have := Sl.new (E := symE) (S := fun _ => False) w [[.string ⟨#[67]⟩, .int .i64 2]] aw4S 71 rfl (by decide) (fun i h1 h2 => by
    match i, h1 with
    | 0, _ => exact ⟨[_], [_], rfl, ⟨rfl, (by decide : 1 ≤ big)⟩, ⟨rfl, (by unfold inRange; decide : inRange 2)⟩⟩)
  exact this.weak (fun b h => h.resolve_left (fun h => h))
set_option maxHeartbeats 2000000 in
theorem awake4_any (w : World) :
    Calls Tryz.prog 13 #[] w fun e w' => e = .returned (.bool true) ∧ Below w.heap.size w w' := by
  have hS := aw4Sign w
  obtain ⟨W1, hW1⟩ : ∃ W, w.alloc (.cells #[.string ⟨#[67]⟩, .int .i64 2] 71) = W := ⟨_, rfl⟩
  rw [hW1] at hS
  have hz1 : W1.heap.size = w.heap.size + 1 := by rw [← hW1]; simp
  have hB1 : Below w.heap.size w W1 := by rw [← hW1]; exact below1 w _
  have hK := Ints.new W1 aw4K 3 (by decide) (by unfold inRange; decide)
  obtain ⟨W2, hW2⟩ : ∃ W, W1.alloc (.cells (aw4K.map (Value.int .i64)).toArray 3) = W := ⟨_, rfl⟩
  rw [hW2] at hK
  have hB2 : Below W1.heap.size W1 W2 := by rw [← hW2]; exact below1 W1 _
  have hz2 : W2.heap.size = w.heap.size + 1 + 1 := by rw [← hW2]; simp [hz1]
  have hC := Ints.new W2 aw4C 3 (by decide) (by unfold inRange; decide)
  obtain ⟨W3, hW3⟩ : ∃ W, W2.alloc (.cells (aw4C.map (Value.int .i64)).toArray 3) = W := ⟨_, rfl⟩
  rw [hW3] at hC
  have hB3 : Below W2.heap.size W2 W3 := by rw [← hW3]; exact below1 W2 _
  have hG := Sl.new (E := slE intE) (S := fun _ => True) W3 [[.slice (some ⟨W1.heap.size, 0, none⟩) 5 5], [.slice (some ⟨W2.heap.size, 0, none⟩) 13 13]] aw4G 34 rfl (by decide) (fun i g1 g2 => by
    match i, g1 with
    | 0, _ => exact ⟨_, _, rfl, (hK.below hB3).any⟩
    | 1, _ => exact ⟨_, _, rfl, hC.any⟩)
  rw [hz1, hz2] at hG
  have hz3 : W3.heap.size = w.heap.size + 1 + 1 + 1 := by rw [← hW3]; simp [hz2]
  obtain ⟨W4, hW4⟩ : ∃ W, W3.alloc (.cells #[.slice (some ⟨w.heap.size + 1, 0, none⟩) 5 5, .slice (some ⟨w.heap.size + 1 + 1, 0, none⟩) 13 13] 34) = W := ⟨_, rfl⟩
  have hG4 : Terms (fun _ => True) W4 (some ⟨w.heap.size + 1 + 1 + 1, 0, none⟩) 2 aw4G := by rw [← hz3, ← hW4]; exact hG.any
  have hB4 : Below W3.heap.size W3 W4 := by rw [← hW4]; exact below1 W3 _
  have hS4 := ((hS.below hB2).below hB3).below hB4
  have hB14 := bcall (bcall (bcall hB1 (by rw [hz1]; rw [hz1] at hB2; exact hB2)) (by exact hB3)) hB4
  have hWW : (((w.alloc (.cells #[.string ⟨#[67]⟩, .int .i64 2] 71)).alloc (.cells (aw4K.map (Value.int .i64)).toArray 3)).alloc (.cells (aw4C.map (Value.int .i64)).toArray 3)).alloc (.cells #[.slice (some ⟨w.heap.size + 1, 0, none⟩) 5 5, .slice (some ⟨w.heap.size + 1 + 1, 0, none⟩) 13 13] 34) = W4 := by rw [hW1, hW2, hW3, hW4]
  simp only [aw4K, aw4C, List.map_cons, List.map_nil] at hWW
  have hS4H := Lib.hid hS4
  have hG4H := Lib.hid hG4
  have hB14H := Lib.hid hB14
  clear hS hK hC hG hB1 hB2 hB3 hB4 hW1 hW2 hW3 hW4 hz1 hz2 hz3 hG4 hS4 hB14
  go_enter Tryz.func13, Tryz.ntmps13
  go_wp2_with fail
  try rw [hWW]
  refine (Untree_any 2 _ _).mono ?_
  rw [aw4_unt]
  rintro e w5 ⟨v, rfl, ho, hb5⟩
  obtain ⟨aP, cP, rfl, hP⟩ := OwnSt.steps ho
  have hS5 := hS4H.out.below hb5
  have hG5 := hG4H.out.below hb5
  have hB5H := Lib.hid (bcall hB14H.out hb5)
  have kH := Lib.hid (Says_any _ _ _ _ _ _ aw4S aw4G aw4P _ hS5 hG5 hP)
  clear ho hb5 hP hS5 hG5 hWW
  go_wp2_with fail
  refine kH.out.mono ?_
  rw [aw4_says]
  rintro e w6 ⟨a, c, rfl, hI, hb6⟩
  have hB6H := Lib.hid (bcall hB5H.out hb6)
  have hT := Ints.new w6 [0, -1, -1] 3 (by decide) (by unfold inRange; decide)
  have hb7 := below1 w6 (.cells ([0, -1, -1].map (Value.int .i64)).toArray 3)
  have ks := Same_any _ _ _ _ _ _ _ (hI.below hb7) hT
  have ksH := Lib.hid ks
  have hb7H := Lib.hid hb7
  clear hI hT ks hb7 hb6
  go_wp2_with fail
  refine ksH.out.mono ?_
  rintro e w8 ⟨rfl, hb8⟩
  go_wp2_with fail
  go_ret
  exact ⟨rfl, bcall hB6H.out (bcall hb7H.out (Drew.below hb8 _))⟩
end Go.Proofs.YtgkddhakhapjlaaGreatDoor

/- Walks that the laws on kernel share: shelf, Light; awake behind what came before it. -/
namespace Go.Proofs.YtgkddhakhapjlaaGreatDoor
open Go Go.RowKit Go.Maps

theorem Light_any {S : Nat → Prop} (a : Option Addr) (c : Nat) (p : List Stp) (w : World) (h : Steps S w a c p) :
    Calls Tryz.prog 12 #[.slice a p.length c] w fun e w' => e = .returned (.bool (decide (p.length ≤ 100))) ∧ w = w' := by
  have m := h.le
  go_enter Tryz.func12, Tryz.ntmps12
  go_wp2_with fail
  go_ret
  exact ⟨ret_bool (by rw [Bool.eq_iff_iff]; simp only [decide_eq_true_eq]; omega), rfl⟩
def shelfT (s : Sg) (g : List (List Int)) : Bool := decide (g.length ≤ 80) && smallT s g
theorem shelf_any {S1 S2 : Nat → Prop} (a1 ag : Option Addr) (c1 cg : Nat) (s : Sg) (g : List (List Int)) (w : World) (h1 : Sign S1 w a1 c1 s) (h2 : Terms S2 w ag cg g) :
    Calls Tryz.prog 11 #[.slice a1 s.length c1, .slice ag g.length cg] w fun e w' => e = .returned (.bool (shelfT s g)) ∧ w = w' := by
  have m1 := h1.le
  have m2 := h2.le
  have csH := Lib.hid (Small_any a1 ag c1 cg s g w h1 h2)
  clear h1 h2
  unfold shelfT
  by_cases h80 : g.length ≤ 80
  · have hd : decide ((g.length : Int) ≤ 80) = true := by simp; omega
    rw [decide_eq_true h80]
    go_enter Tryz.func11, Tryz.ntmps11
    go_wp2_with fail
    refine csH.out.mono ?_
    rintro e w1 ⟨rfl, rfl⟩
    go_wp2_with fail
    go_ret
    exact ⟨rfl, rfl⟩
  · have hd : decide ((g.length : Int) ≤ 80) = false := by simp; omega
    rw [decide_eq_false h80]
    go_enter Tryz.func11, Tryz.ntmps11
    go_wp2_with fail
    go_ret
    exact ⟨rfl, rfl⟩
theorem aw4_from {B : Nat} {W W' : World} (hb : Below B W W') (hB : B ≤ W.heap.size) : Calls Tryz.prog 13 #[] W' fun e w' => e = .returned (.bool true) ∧ Below B W w' :=
  (awake4_any W').mono fun _ _ h => ⟨h.1, hb.trans (h.2.mono (Nat.le_trans hB hb.size))⟩
end Go.Proofs.YtgkddhakhapjlaaGreatDoor

/- Walks: the test of kernel.Moved: all places lie in the new list. -/
namespace Go.Proofs.YtgkddhakhapjlaaGreatDoor
open Go Go.RowKit Go.Maps

def inC (C n : Int) : Bool := decide (0 ≤ n) && decide (n ≤ C - 1)
set_option maxHeartbeats 1000000 in
theorem MovedF_any (C n : Int) (bx : Nat) (w : World) (h0 : 0 ≤ C) (h1 : C ≤ 60) (hq : w.cell? ⟨bx, 0, none⟩ = some (.int .i64 C)) :
    Calls Tryz.prog 72 #[.int .i64 n, .pointer (some ⟨bx, 0, none⟩)] w fun e w' => e = .returned (.bool (!(inC C n))) ∧ w = w' := by
  have e1 : IntKind.i64.wrap (C - 1) = C - 1 := IntWalk.i64_in _ (by omega)
  have v1H := Lib.hid (kwithin_any n 0 (C - 1) w)
  go_enter Tryz.func72, Tryz.ntmps72
  go_wp2_with (go_at_call 70; refine v1H.out.mono ?_; rintro e w1 ⟨rfl, rfl⟩)
  go_ret
  exact ⟨ret_bool (by unfold inC; rw [Bool.not_and]), rfl⟩
set_option maxHeartbeats 1000000 in
theorem IndexMv_any {S : Nat → Prop} (C : Int) (a : Option Addr) (c : Nat) (L : List Int) (bx : Nat) (w : World) (h : Ints S w a c L) (h0 : 0 ≤ C) (h1 : C ≤ 60) (hq : w.cell? ⟨bx, 0, none⟩ = some (.int .i64 C)) :
    Calls Tryz.prog 123 #[.slice a L.length c, .func (.func 72) #[] #[.pointer (some ⟨bx, 0, none⟩)]] w fun e w' => ∃ n : Int, e = .returned (.int .i64 n) ∧ decide (0 ≤ n) = !(L.all (inC C)) ∧ w = w' := by
  have m2 := h.le
  have cf := Lib.hid (fun n => MovedF_any C n bx w h0 h1 hq)
  clear hq
  go_enter Tryz.func123, Tryz.ntmps123
  go_wp2_with fail
  go_loopw [8] (fun i wr => ∃ k : Nat, k ≤ L.length ∧ i = .int .i64 k ∧ (L.take k).all (inC C) = true ∧ w = wr) (fun i _ => L.length - (intOf i).toNat)
  case atStart => exact ⟨0, Nat.zero_le _, rfl, rfl, rfl⟩
  case round =>
    obtain ⟨k, hk, rfl, hall, rfl⟩ := hrel
    by_cases hlt : k < L.length
    · obtain ⟨b, o, rfl, -, q, -⟩ := h.int k hlt
      have cf1 := cf.out L[k]
      obtain ⟨x, hx⟩ : ∃ x, inC C L[k] = x := ⟨_, rfl⟩
      rw [hx] at cf1
      obtain ⟨z, hz⟩ : ∃ z, L[k] = z := ⟨_, rfl⟩
      rw [hz] at cf1 q
      have hzH := Lib.hid hz
      have cfH := Lib.hid cf1
      have hallH := Lib.hid hall
      have hxH := Lib.hid hx
      clear cf1 hall h hx hz
      cases x with
      | true =>
        go_wp2_with (go_at_call 72; refine cfH.out.mono ?_; rintro e w1 ⟨rfl, rfl⟩)
        go_roundw
        case rel => exact ⟨k + 1, by omega, by go_num, by rw [List.take_succ_eq_append_getElem hlt, List.all_append, hallH.out]; simp [hxH.out], trivial⟩
        case measure => simp [intOf]; omega
      | false =>
        go_wp2_with (go_at_call 72; refine cfH.out.mono ?_; rintro e w1 ⟨rfl, rfl⟩)
        go_ret
        have hf : L.all (inC C) = false := by rw [List.all_eq_false]; exact ⟨L[k], List.getElem_mem hlt, by rw [hxH.out]; simp⟩
        exact ⟨k, rfl, by rw [hf]; simp, rfl⟩
    · rw [List.take_of_length_le (by omega)] at hall
      have hallH := Lib.hid hall
      clear hall
      go_wp2_with fail
      go_ret
      exact ⟨-1, rfl, by rw [hallH.out]; rfl, rfl⟩
end Go.Proofs.YtgkddhakhapjlaaGreatDoor

/- Walks: Moved of kernel and of its reference. -/
namespace Go.Proofs.YtgkddhakhapjlaaGreatDoor
open Go Go.RowKit Go.Maps

def stc (x : Stp) : List Value := [.int .i64 x.1, .int .i64 x.2.1, .int .i64 x.2.2]
theorem stp_rows {xs : List (List Value)} {T : Nat → Prop} {w : World} {l : List Stp} (hl : xs.length = l.length) (hx : ∀ i (h1 : i < xs.length) (h2 : i < l.length), stpE.R T w xs[i] l[i]) : xs = l.map stc ∧ ∀ x ∈ l, stpR x := by
  constructor
  · apply List.ext_getElem (by simpa using hl)
    intro i h1 h2
    rw [List.getElem_map]
    obtain ⟨us, ts, e, ⟨rfl, -⟩, us', ts', rfl, ⟨rfl, -⟩, ⟨rfl, -⟩⟩ := hx i h1 (by omega)
    rw [e]; rfl
  · intro x hxl
    obtain ⟨i, hi, rfl⟩ := List.getElem_of_mem hxl
    obtain ⟨us, ts, e, ⟨-, h1⟩, us', ts', -, ⟨-, h2⟩, ⟨-, h3⟩⟩ := hx i (by omega) hi
    exact ⟨h1, h2, h3⟩
section
variable {w : World} {base g n cap : Nat} {v : Value} {l : List Stp}
theorem OwnSt.row (h : OwnSt w base v l) : w.ownsRow base 86 3 v l.length (l.map stc).flatten ∧ ∀ x ∈ l, stpR x := by
  obtain ⟨xs, ho, hl, hx⟩ := h
  obtain ⟨rfl, hr⟩ := stp_rows hl hx
  exact ⟨ho, hr⟩
theorem OwnSt.of_row (h : w.ownsRow base 86 3 v l.length (l.map stc).flatten) (hr : ∀ x ∈ l, stpR x) : OwnSt w base v l :=
  ⟨l.map stc, h, by simp, fun i h1 h2 => by rw [List.getElem_map]; exact stp_R (hr _ (List.getElem_mem h2))⟩
theorem stc_len : ∀ x ∈ l.map stc, x.length = 3 := fun x hx => by obtain ⟨y, -, rfl⟩ := List.mem_map.1 hx; rfl
theorem OwnSt.cells (h : OwnSt w base (.slice (some ⟨g, 0, none⟩) n cap) l) (hn : n = l.length) (i : Nat) (hi : i < l.length) :
    w.cell? ⟨g, i * 3, none⟩ = some (.int .i64 l[i].1) ∧ w.cell? ⟨g, i * 3 + 1, none⟩ = some (.int .i64 l[i].2.1) ∧ w.cell? ⟨g, i * 3 + 2, none⟩ = some (.int .i64 l[i].2.2) ∧ w.frozen? ⟨g, i * 3 + 1, none⟩ = false ∧ stpR l[i] := by
  subst hn
  obtain ⟨ho, hr⟩ := OwnSt.row h
  have hf := flatten_get (stc_len (l := l)) i (by simpa using hi)
  have h0 := hf 0 (by simp [stc])
  have h1 := hf 1 (by simp [stc])
  have h2 := hf 2 (by simp [stc])
  simp only [List.getElem_map, stc, Nat.add_zero, List.getElem_cons_zero, List.getElem_cons_succ] at h0 h1 h2
  refine ⟨?_, ?_, ?_, ho.frozenAt _, hr _ (List.getElem_mem hi)⟩
  · rw [ho.cellAt _ (by omega)]; exact h0
  · rw [ho.cellAt _ (by omega)]; exact h1
  · rw [ho.cellAt _ (by omega)]; exact h2
theorem flat_set (x : Int) : ∀ (l : List Stp) (i : Nat) (hi : i < l.length), ((l.map stc).flatten).set (i * 3 + 1) (.int .i64 x) = ((l.set i (l[i].1, x, l[i].2.2)).map stc).flatten
  | y :: l, 0, _ => by simp [stc]
  | y :: l, i + 1, hi => by
    have ih := flat_set x l i (by simpa using hi)
    rw [show (i + 1) * 3 + 1 = i * 3 + 1 + 1 + 1 + 1 by omega]
    simp only [List.map_cons, List.flatten_cons, stc, List.cons_append, List.nil_append, List.set_cons_succ, List.getElem_cons_succ]
    rw [show (l.map stc).flatten.set (i * 3 + 1) (.int .i64 x) = _ from ih]
theorem OwnSt.setA (h : OwnSt w base (.slice (some ⟨g, 0, none⟩) n cap) l) (hn : n = l.length) (i : Nat) (hi : i < l.length) (x : Int) (hx : inRange x) :
    OwnSt (w.setCell ⟨g, i * 3 + 1, none⟩ (.int .i64 x)) base (.slice (some ⟨g, 0, none⟩) n cap) (l.set i (l[i].1, x, l[i].2.2)) ∧ w.grownBy (w.setCell ⟨g, i * 3 + 1, none⟩ (.int .i64 x)) (some g) := by
  subst hn
  obtain ⟨ho, hr⟩ := OwnSt.row h
  obtain ⟨h1, h2⟩ := ho.stored (i * 3 + 1) (.int .i64 x)
  rw [flat_set x l i hi] at h1
  refine ⟨OwnSt.of_row (by rw [List.length_set]; exact h1) (fun y hy => ?_), h2⟩
  rcases List.mem_or_eq_of_mem_set hy with h | h
  · exact hr y h
  · have := hr _ (List.getElem_mem hi)
    rw [h]; exact ⟨this.1, hx, this.2.2⟩
end
set_option maxHeartbeats 1000000 in
theorem ContainsMv_any {S : Nat → Prop} (C : Int) (a : Option Addr) (c : Nat) (L : List Int) (bx : Nat) (w : World) (h : Ints S w a c L) (h0 : 0 ≤ C) (h1 : C ≤ 60) (hq : w.cell? ⟨bx, 0, none⟩ = some (.int .i64 C)) :
    Calls Tryz.prog 71 #[.slice a L.length c, .func (.func 72) #[] #[.pointer (some ⟨bx, 0, none⟩)]] w fun e w' => e = .returned (.bool (!(L.all (inC C)))) ∧ w = w' := by
  have ciH := Lib.hid (IndexMv_any C a c L bx w h h0 h1 hq)
  clear h hq
  go_enter Tryz.func71, Tryz.ntmps71
  go_wp2_with (go_at_call 123; refine ciH.out.mono ?_; rintro e w' ⟨n, rfl, hn2, rfl⟩; have hn2H := Lib.hid hn2; clear hn2)
  go_ret
  exact ⟨ret_bool hn2H.out, rfl⟩
def mvL (to : List Int) (p : List Stp) (k : Nat) : List Stp := (p.take k).map (mvS to) ++ p.drop k
theorem mvL_len (to : List Int) (p : List Stp) (k : Nat) (hk : k ≤ p.length) : (mvL to p k).length = p.length := by unfold mvL; simp; omega
theorem mvL_at {to : List Int} {p : List Stp} {k : Nat} (hk : k < p.length) : (mvL to p k)[k]'(by rw [mvL_len _ _ _ (by omega)]; exact hk) = p[k] := by
  unfold mvL
  rw [List.getElem_append_right (by simp; omega)]
  simp [Nat.min_eq_left (Nat.le_of_lt hk)]
theorem mvL_set {to : List Int} {p : List Stp} {k : Nat} (hk : k < p.length) : (mvL to p k).set k (mvS to p[k]) = mvL to p (k + 1) := by
  unfold mvL
  rw [List.set_append_right _ _ (by simp; omega), List.length_map, List.length_take, Nat.min_eq_left (by omega), Nat.sub_self, List.drop_eq_getElem_cons hk, List.set_cons_zero, List.take_succ_eq_append_getElem hk, List.map_append, List.append_assoc]
  rfl
theorem mvL_skip {to : List Int} {p : List Stp} {k : Nat} (hk : k < p.length) (h1 : p[k].1 ≠ 1) : mvL to p k = mvL to p (k + 1) := by
  unfold mvL
  have : mvS to p[k] = p[k] := by unfold mvS; exact if_neg h1
  rw [List.drop_eq_getElem_cons hk, List.take_succ_eq_append_getElem hk, List.map_append, List.append_assoc, List.map_singleton, this]
  rfl
def mvI (to : List Int) (p : List Stp) (w : World) (v : Value) (i : Value) (wr : World) : Prop := ∃ k : Nat, i = .int .i64 k ∧ k ≤ p.length ∧ OwnSt wr w.heap.size v (mvL to p k) ∧ Below w.heap.size w wr
set_option maxRecDepth 100000 in
set_option maxHeartbeats 4000000 in
theorem Moved_any {S1 S2 : Nat → Prop} (G C : Int) (ap at_ : Option Addr) (cp ct : Nat) (p : List Stp) (to : List Int) (w : World) (h1 : Steps S1 w ap cp p) (h2 : Ints S2 w at_ ct to) :
    Calls Tryz.prog 28 #[.int .i64 G, .slice ap p.length cp, .slice at_ to.length ct, .int .i64 C] w (retStE (movedE G p to C) w) := by
  have m1 := h1.le
  have m2 := h2.le
  obtain ⟨W0, hW0⟩ : ∃ W, w.alloc (.cells #[.int .i64 C] 3) = W := ⟨_, rfl⟩
  have hb0 : Below w.heap.size w W0 := by rw [← hW0]; exact below1 w _
  have qc : W0.cell? ⟨w.heap.size, 0, none⟩ = some (.int .i64 C) := by rw [← hW0]; clear hW0; go_simp
  have h1' := h1.below hb0
  have h2' := h2.below hb0
  have v1 := ValidProof_any G ap cp p W0 h1'
  cases hx : proofB G p with
  | false =>
    rw [hx] at v1
    have hrH := Lib.hid (show movedE G p to C = ([], 1) by rw [movedE, if_neg (by simp [hx])])
    have v1H := Lib.hid v1
    have hb0H := Lib.hid hb0
    clear v1 h1 h2 hx h1' h2' hb0
    go_enter Tryz.func28, Tryz.ntmps28
    go_wp2_with fail
    try rw [hW0]
    refine v1H.out.mono ?_
    rintro e w1 ⟨rfl, hb1⟩
    go_wp2_with fail
    go_ret2
    rw [hrH.out]
    exact ⟨_, rfl, .nil _ _ _ _ _, bcall hb0H.out hb1⟩
  | true =>
    rw [hx] at v1
    have hm : movedE G p to C = if (to.length : Int) = G then (if (decide (0 ≤ C) && decide (C ≤ 60) && to.all (fun n => decide (0 ≤ n) && decide (n ≤ C - 1))) = true then (p.map (mvS to), 0) else ([], 7)) else ([], 9) := by rw [movedE, if_pos hx]
    have hx' := hx
    unfold proofB at hx'
    simp only [Bool.and_eq_true, decide_eq_true_eq] at hx'
    obtain ⟨⟨g0, g1⟩, hvp⟩ := hx'
    obtain ⟨ok, p1, p2⟩ := validP_parts hvp
    by_cases hl : (to.length : Int) = G
    case neg =>
      rw [if_neg hl] at hm
      have hlb : ((to.length : Int) != G) = true := by simpa using hl
      have hrH := Lib.hid hm
      have v1H := Lib.hid v1
      have hb0H := Lib.hid hb0
      clear v1 h1 h2 hx h1' h2' hb0 hm hvp ok hl
      go_enter Tryz.func28, Tryz.ntmps28
      go_wp2_with fail
      try rw [hW0]
      refine v1H.out.mono ?_
      rintro e w1 ⟨rfl, hb1⟩
      go_wp2_with fail
      go_ret2
      rw [hrH.out]
      exact ⟨_, rfl, .nil _ _ _ _ _, bcall hb0H.out hb1⟩
    rw [if_pos hl] at hm
    have hlb : ((to.length : Int) != G) = false := by simpa using hl
    have v2 := fun W => kwithin_any C 0 60 W
    cases hy : (decide (0 ≤ C) && decide (C ≤ 60)) with
    | false =>
      rw [hy] at hm v2
      have hrH := Lib.hid hm
      have v1H := Lib.hid v1
      have v2H := Lib.hid v2
      have hb0H := Lib.hid hb0
      have hlbH := Lib.hid hl
      clear v1 v2 h1 h2 hx h1' h2' hb0 hm hvp ok hl hy
      go_enter Tryz.func28, Tryz.ntmps28
      go_wp2_with fail
      try rw [hW0]
      refine v1H.out.mono ?_
      rintro e w1 ⟨rfl, hb1⟩
      have qc1 := cell_later hb1 qc
      go_wp2_with fail
      refine (v2H.out _).mono ?_
      rintro e w2 ⟨rfl, rfl⟩
      go_wp2_with fail
      go_ret2
      rw [hrH.out]
      exact ⟨_, rfl, .nil _ _ _ _ _, bcall hb0H.out hb1⟩
    | true =>
      rw [hy, Bool.true_and] at hm
      rw [hy] at v2
      simp only [Bool.and_eq_true, decide_eq_true_eq] at hy
      have v3 := fun W (hb : Below W0.heap.size W0 W) => ContainsMv_any C at_ ct to w.heap.size W (h2'.below hb) hy.1 hy.2 (cell_later hb qc)
      change _ = if to.all (inC C) = true then _ else _ at hm
      cases hz : to.all (inC C) with
      | false =>
        rw [hz] at hm v3
        have hrH := Lib.hid hm
        have v1H := Lib.hid v1
        have v2H := Lib.hid v2
        have v3H := Lib.hid v3
        have hb0H := Lib.hid hb0
        clear v1 v2 v3 h1 h2 hx h1' h2' hb0 hm hvp ok hl hy hz
        go_enter Tryz.func28, Tryz.ntmps28
        go_wp2_with fail
        try rw [hW0]
        refine v1H.out.mono ?_
        rintro e w1 ⟨rfl, hb1⟩
        have qc1 := cell_later hb1 qc
        go_wp2_with fail
        refine (v2H.out _).mono ?_
        rintro e w2 ⟨rfl, rfl⟩
        go_wp2_with fail
        refine (v3H.out _ hb1).mono ?_
        rintro e w2 ⟨rfl, rfl⟩
        go_wp2_with fail
        go_ret2
        rw [hrH.out]
        exact ⟨_, rfl, .nil _ _ _ _ _, bcall hb0H.out hb1⟩
      | true =>
        rw [hz] at hm v3
        rw [if_pos rfl] at hm
        have v4 := fun W (hb : Below W0.heap.size W0 W) => CloneS_any ap cp p W (h1'.below hb) (by unfold lim; omega)
        have hrH := Lib.hid hm
        have v1H := Lib.hid v1
        have v2H := Lib.hid v2
        have v3H := Lib.hid v3
        have v4H := Lib.hid v4
        have hb0H := Lib.hid hb0
        have h2H := Lib.hid h2'
        have h20H := Lib.hid h2
        have okH := Lib.hid ok
        have hlH := Lib.hid hl
        clear v1 v2 v3 v4 h1 h2 hx h1' h2' hb0 hm hvp ok hl hy hz
        go_enter Tryz.func28, Tryz.ntmps28
        go_wp2_with fail
        try rw [hW0]
        refine v1H.out.mono ?_
        rintro e w1 ⟨rfl, hb1⟩
        have qc1 := cell_later hb1 qc
        go_wp2_with fail
        refine (v2H.out _).mono ?_
        rintro e w2 ⟨rfl, rfl⟩
        go_wp2_with fail
        refine (v3H.out _ hb1).mono ?_
        rintro e w2 ⟨rfl, rfl⟩
        go_wp2_with fail
        refine (v4H.out _ hb1).mono ?_
        rintro e w2 ⟨v, rfl, ho, hb2⟩
        obtain ⟨g, cap, rfl, hg1, hg2⟩ := OwnL.form ho (by intro e; subst e; simp at p1)
        have hbw := bcall (bcall hb0H.out hb1) hb2
        have h2w := (h2H.out.below hb1).below hb2
        have hI0 : mvI to p w (.slice (some ⟨g, 0, none⟩) p.length cap) (.int .i64 0) w2 := ⟨0, rfl, Nat.zero_le _, by unfold mvL; simpa using OwnL.baseMono (base' := w.heap.size) ho (Nat.le_trans hb0H.out.size hb1.size), hbw⟩
        have hI0H := Lib.hid hI0
        have h2wH := Lib.hid h2w
        clear hI0 ho hb2 hbw h2w
        go_wp2_with fail
        go_loopw [36] (fun i wr => mvI to p w (.slice (some ⟨g, 0, none⟩) p.length cap) i wr) (fun i _ => p.length - (intOf i).toNat)
        case atStart => exact hI0H.out
        case round =>
          clear hI0H
          obtain ⟨k, rfl, hk, ho, hB⟩ := hrel
          have hlen := mvL_len to p k hk
          by_cases hlt : k < p.length
          · obtain ⟨r0, r1, r2, rf, hr⟩ := OwnSt.cells ho hlen.symm k (by omega)
            rw [mvL_at hlt] at r0 r1 r2 hr
            have hright := okS_get p 0 k hlt okH.out
            rw [Nat.zero_add] at hright
            have hstep := mvL_set (to := to) hlt
            have hskip := mvL_skip (to := to) hlt
            have hsetA := fun (W : World) (h : OwnSt W w.heap.size (.slice (some ⟨g, 0, none⟩) p.length cap) (mvL to p k)) x hx => OwnSt.setA h hlen.symm k (by omega) x hx
            rw [mvL_at hlt] at hsetA
            obtain ⟨x, hxe⟩ : ∃ x, p[k] = x := ⟨_, rfl⟩
            rw [hxe] at r0 r1 r2 hr hright hstep hskip hsetA
            obtain ⟨x1, x2, x3⟩ := x
            simp only at r0 r1 r2
            have hgw : w.heap.size ≤ g := (OwnL.lt ho g rfl).1
            have hglt : g < wr.heap.size := (OwnL.lt ho g rfl).2
            by_cases hk1 : x1 = 1
            · subst hk1
              obtain ⟨c1, c2, c3⟩ := rightB_cite hright rfl
              have hlG := hlH.out
              simp only at c1 c2
              obtain ⟨n, rfl⟩ : ∃ n : Nat, x2 = n := ⟨x2.toNat, by omega⟩
              have hn : n < to.length := by omega
              obtain ⟨bt, ot, hta, -, qt, hrt⟩ := (h20H.out.below hB).int n hn
              subst hta
              have hms : mvS to (1, (n : Int), x3) = (1, to[n], x3) := by
                show (if (1 : Int) = 1 then (1, to.getD (n : Int).toNat 0, x3) else (1, (n : Int), x3)) = _
                rw [if_pos rfl, List.getD_eq_getElem?_getD, Int.toNat_natCast, List.getElem?_eq_getElem hn]; rfl
              rw [hms] at hstep
              obtain ⟨y, hy⟩ : ∃ y, to[n] = y := ⟨_, rfl⟩
              rw [hy] at qt hrt hstep
              obtain ⟨s1, s2⟩ := hsetA wr ho y hrt
              rw [hstep] at s1
              have qt2 := cell_later (below1 wr (.cells #[.int .i64 1, .int .i64 (n : Int), .int .i64 x3] 86)) qt
              have r12 := cell_later (below1 wr (.cells #[.int .i64 1, .int .i64 (n : Int), .int .i64 x3] 86)) r1
              have rf2 : (wr.alloc (.cells #[.int .i64 1, .int .i64 (n : Int), .int .i64 x3] 86)).frozen? ⟨g, k * 3 + 1, none⟩ = false := ((below1 wr (.cells #[.int .i64 1, .int .i64 (n : Int), .int .i64 x3] 86)).frozen (p := ⟨g, k * 3 + 1, none⟩) hglt).trans rf
              have hrel : mvI to p w (.slice (some ⟨g, 0, none⟩) p.length cap) (.int .i64 ((k : Int) + 1)) ((wr.setCell ⟨g, k * 3 + 1, none⟩ (.int .i64 y)).alloc (.cells #[.int .i64 1, .int .i64 (n : Int), .int .i64 x3] 86)) := ⟨k + 1, by go_num, by omega, OwnL.call s1 (below1 _ _), (hB.grown s2 hB.size (fun j e => by injection e with e; omega)).trans ((below1 _ _).mono (Nat.le_trans hB.size s2.size))⟩
              have hrelH := Lib.hid hrel
              clear hrel s1 s2 ho hB hstep hskip hsetA hright hy hxe hms hr hrt
              go_wp2_with fail
              all_goals go_roundw
              all_goals first | exact hrelH.out | (simp [intOf]; omega)
            · have hk1b : (x1 == 1) = false := by simpa using hk1
              rw [hskip hk1] at ho
              have hrel : mvI to p w (.slice (some ⟨g, 0, none⟩) p.length cap) (.int .i64 ((k + 1 : Nat) : Int)) (wr.alloc (.cells #[.int .i64 x1, .int .i64 x2, .int .i64 x3] 86)) := ⟨k + 1, rfl, by omega, OwnL.call ho (below1 wr (.cells #[.int .i64 x1, .int .i64 x2, .int .i64 x3] 86)), hB.trans ((below1 wr (.cells #[.int .i64 x1, .int .i64 x2, .int .i64 x3] 86)).mono hB.size)⟩
              have hrelH := Lib.hid hrel
              clear hrel ho hB hstep hskip hsetA hright hxe hr
              go_wp2_with fail
              all_goals go_roundw
              all_goals first | exact hrelH.out | (simp [intOf]; omega)
          · obtain rfl : k = p.length := by omega
            have hfin : mvL to p p.length = p.map (mvS to) := by unfold mvL; rw [List.take_length, List.drop_length, List.append_nil]
            rw [hfin] at ho
            have hoH := Lib.hid ho
            have hBH := Lib.hid hB
            clear ho hB hfin hlen
            go_wp2_with fail
            go_ret2
            rw [hrH.out]
            exact ⟨_, rfl, hoH.out, hBH.out⟩
end Go.Proofs.YtgkddhakhapjlaaGreatDoor

/- Walks: ValidGivens of the reference. -/
namespace Go.Proofs.YtgkddhakhapjlaaGreatDoor
open Go Go.RowKit Go.Maps

set_option maxHeartbeats 1000000 in
theorem rValidGivens_any {S1 S2 : Nat → Prop} (a1 a2 : Option Addr) (c1 c2 : Nat) (s : Sg) (L : List (List Int)) (w : World) (h1 : Sign S1 w a1 c1 s) (h2 : Terms S2 w a2 c2 L) :
    Calls Tryz.prog 18 #[.slice a1 s.length c1, .slice a2 L.length c2] w fun e w' => e = .returned (.bool (givensB s L)) ∧ Below w.heap.size w w' := by
  have m2 := h2.le
  have v1 := rValidSign_any a1 c1 s w h1
  have v2 := fun W => isCount_any (L.length : Int) W
  have v3 := fun W (hd : Drew w W) => rAllValid_any a1 a2 c1 c2 s L W (h1.drew hd) (h2.drew hd)
  have hg : givensB s L = (okSign s && decide (L.length ≤ 60) && L.all (okT s)) := rfl
  have hc : (decide ((0 : Int) ≤ (L.length : Int)) && decide ((L.length : Int) ≤ 60)) = decide (L.length ≤ 60) := by
    rw [Bool.eq_iff_iff]; simp only [Bool.and_eq_true, decide_eq_true_eq]; omega
  rw [hc] at v2
  obtain ⟨x, hx⟩ : ∃ x, okSign s = x := ⟨_, rfl⟩
  obtain ⟨y, hy⟩ : ∃ x, decide (L.length ≤ 60) = x := ⟨_, rfl⟩
  obtain ⟨z, hz⟩ : ∃ x, L.all (okT s) = x := ⟨_, rfl⟩
  rw [hx, hy, hz] at hg
  rw [hx] at v1
  rw [hy] at v2
  rw [hz] at v3
  have v1H := Lib.hid v1
  have v2H := Lib.hid v2
  have v3H := Lib.hid v3
  have hgH := Lib.hid hg
  clear v1 v2 v3 h1 h2 hx hy hz hg hc
  cases x with
  | false =>
    go_enter Tryz.func18, Tryz.ntmps18
    go_wp2_with fail
    refine v1H.out.mono ?_
    rintro e w1 ⟨rfl, hd1⟩
    go_wp2_with fail
    go_ret
    exact ⟨by rw [hgH.out]; rfl, hd1.below _⟩
  | true =>
    cases y with
    | false =>
      go_enter Tryz.func18, Tryz.ntmps18
      go_wp2_with fail
      refine v1H.out.mono ?_
      rintro e w1 ⟨rfl, hd1⟩
      go_wp2_with fail
      refine (v2H.out _).mono ?_
      rintro e w2 ⟨rfl, rfl⟩
      go_wp2_with fail
      go_ret
      exact ⟨by rw [hgH.out]; rfl, hd1.below _⟩
    | true =>
      go_enter Tryz.func18, Tryz.ntmps18
      go_wp2_with fail
      refine v1H.out.mono ?_
      rintro e w1 ⟨rfl, hd1⟩
      go_wp2_with fail
      refine (v2H.out _).mono ?_
      rintro e w2 ⟨rfl, rfl⟩
      go_wp2_with fail
      refine (v3H.out _ hd1).mono ?_
      rintro e w2 ⟨rfl, hd2⟩
      go_wp2_with fail
      go_ret
      exact ⟨by rw [hgH.out]; rfl, bcall (hd1.below _) (hd2.below _)⟩
end Go.Proofs.YtgkddhakhapjlaaGreatDoor

/- The law KernelMoved, walked. -/
namespace Go.Proofs.YtgkddhakhapjlaaGreatDoor
open Go Go.RowKit Go.Maps

def mdI (g : List (List Int)) (to : List Int) (W : World) (v i : Value) (wr : World) : Prop :=
  ∃ k : Nat, i = .int .i64 k ∧ k ≤ to.length ∧ (∀ n ∈ to.take k, 0 ≤ n ∧ n < (g.length : Int)) ∧ OwnTs (fun b => b < W.heap.size) wr W.heap.size v ((to.take k).map (fun n => g.getD n.toNat [])) ∧ Below W.heap.size W wr
theorem moved_parts {G C : Int} {p : List Stp} {to : List Int} (h : (movedE G p to C).2 = 0) : (movedE G p to C).1 = p.map (mvS to) ∧ proofB G p = true := by
  unfold movedE at h ⊢
  split at h
  · rename_i hp
    rw [if_pos hp]
    split at h
    · rename_i hl
      rw [if_pos hl]
      split at h
      · rename_i hc; rw [if_pos hc]; exact ⟨rfl, hp⟩
      · cases h
    · cases h
  · cases h
set_option maxRecDepth 100000 in
set_option maxHeartbeats 2000000 in
theorem KernelMoved_walk {S1 S2 S3 S4 : Nat → Prop} (a1 : Option Addr) (k1 : Nat) (s : Sg) (ag : Option Addr) (cg : Nat) (g : List (List Int)) (ap : Option Addr) (cp : Nat) (p : List Stp) (at_ : Option Addr) (ct : Nat) (to : List Int) (C : Int) (w : World) (h1 : Sign S1 w a1 k1 s) (h2 : Terms S2 w ag cg g) (h3 : Steps S3 w ap cp p) (h4 : Ints S4 w at_ ct to) :
    Calls Tryz.prog 5 #[.slice a1 s.length k1, .slice ag g.length cg, .agg #[.slice ap p.length cp, .slice at_ to.length ct, .int .i64 C]] w fun e w' => e = .returned (.bool true) ∧ Below w.heap.size w w' := by
  have m1 := h1.le
  have m2 := h2.le
  have m3 := h3.le
  have m4 := h4.le
  obtain ⟨W, hW⟩ : ∃ W, w.alloc (.cells #[.slice ap p.length cp, .slice at_ to.length ct, .int .i64 C] 44) = W := ⟨_, rfl⟩
  have hB : Below w.heap.size w W := by rw [← hW]; exact below1 w _
  have q0 : W.cell? ⟨w.heap.size, 0, none⟩ = some (.slice ap p.length cp) := by rw [← hW]; clear hW; go_simp
  have q1 : W.cell? ⟨w.heap.size, 1, none⟩ = some (.slice at_ to.length ct) := by rw [← hW]; clear hW; go_simp
  have h1H := Lib.hid (h1.below hB)
  have h2H := Lib.hid (h2.below hB).lt
  have h3H := Lib.hid (h3.below hB)
  have h4H := Lib.hid (h4.below hB)
  have hBH := Lib.hid hB
  have csH := Lib.hid (shelf_any a1 ag k1 cg s g W h1H.out h2H.out)
  have clH := Lib.hid (Light_any ap cp p W h3H.out)
  have cvH := Lib.hid (rValidGivens_any a1 ag k1 cg s g W h1H.out h2H.out)
  have awH := Lib.hid (fun W' (hb : Below W.heap.size W W') => aw4_from hb (Nat.le_refl _))
  have kmH := Lib.hid (fun W' (hb : Below W.heap.size W W') => Moved_any (to.length : Int) (g.length : Int) ap at_ cp ct p to W' (h3H.out.below hb) (h4H.out.below hb))
  have hpmH := Lib.hid (moved_parts (G := (to.length : Int)) (C := (g.length : Int)) (p := p) (to := to))
  clear h1 h2 h3 h4 hB
  cases hsh : shelfT s g with
  | false =>
    rw [hsh] at csH
    go_enter Tryz.func5, Tryz.ntmps5
    go_wp2_with fail
    try rw [hW]
    refine csH.out.mono ?_
    rintro e w1 ⟨rfl, rfl⟩
    go_wp2_with fail
    refine (awH.out _ (.refl _ _)).mono ?_
    rintro e w2 ⟨rfl, hb2⟩
    go_wp2_with fail
    go_ret
    exact ⟨rfl, bcall hBH.out hb2⟩
  | true =>
  rw [hsh] at csH
  cases hp : decide (p.length ≤ 100) with
  | false =>
    rw [hp] at clH
    go_enter Tryz.func5, Tryz.ntmps5
    go_wp2_with fail
    try rw [hW]
    refine csH.out.mono ?_
    rintro e w1 ⟨rfl, rfl⟩
    go_wp2_with fail
    refine clH.out.mono ?_
    rintro e w1 ⟨rfl, rfl⟩
    go_wp2_with fail
    refine (awH.out _ (.refl _ _)).mono ?_
    rintro e w2 ⟨rfl, hb2⟩
    go_wp2_with fail
    go_ret
    exact ⟨rfl, bcall hBH.out hb2⟩
  | true =>
  rw [hp] at clH
  clear hp hsh
  by_cases ht : (100 : Int) < (to.length : Int)
  · go_enter Tryz.func5, Tryz.ntmps5
    go_wp2_with fail
    try rw [hW]
    refine csH.out.mono ?_
    rintro e w1 ⟨rfl, rfl⟩
    go_wp2_with fail
    refine clH.out.mono ?_
    rintro e w1 ⟨rfl, rfl⟩
    go_wp2_with fail
    refine (awH.out _ (.refl _ _)).mono ?_
    rintro e w2 ⟨rfl, hb2⟩
    go_wp2_with fail
    go_ret
    exact ⟨rfl, bcall hBH.out hb2⟩
  cases hg : givensB s g with
  | false =>
    rw [hg] at cvH
    go_enter Tryz.func5, Tryz.ntmps5
    go_wp2_with fail
    try rw [hW]
    refine csH.out.mono ?_
    rintro e w1 ⟨rfl, rfl⟩
    go_wp2_with fail
    refine clH.out.mono ?_
    rintro e w1 ⟨rfl, rfl⟩
    go_wp2_with fail
    refine cvH.out.mono ?_
    rintro e w1 ⟨rfl, hb1⟩
    go_wp2_with fail
    refine (awH.out _ hb1).mono ?_
    rintro e w2 ⟨rfl, hb2⟩
    go_wp2_with fail
    go_ret
    exact ⟨rfl, bcall hBH.out hb2⟩
  | true =>
  rw [hg] at cvH
  have hgH := Lib.hid hg
  clear hg
  go_enter Tryz.func5, Tryz.ntmps5
  go_wp2_with fail
  try rw [hW]
  refine csH.out.mono ?_
  rintro e w1 ⟨rfl, rfl⟩
  go_wp2_with fail
  refine clH.out.mono ?_
  rintro e w1 ⟨rfl, rfl⟩
  go_wp2_with fail
  refine cvH.out.mono ?_
  rintro e w1 ⟨rfl, hb1⟩
  clear csH clH cvH
  go_wp2_with fail
  go_loopw [7, 8] (fun v i wr => mdI g to W v i wr) (fun _ i _ => to.length - (intOf i).toNat)
  case atStart => exact ⟨0, rfl, Nat.zero_le _, (fun n h => by cases h), .nil _ _ _ _ _, hb1⟩
  case round =>
    obtain ⟨k, rfl, hk, hall, ho, hb⟩ := hrel
    have q0k := cell_later hb q0
    have q1k := cell_later hb q1
    by_cases hlt : k < to.length
    · obtain ⟨bt, ot, hta, -, qt, hrt⟩ := (h4H.out.below hb).int k hlt
      subst hta
      have hstep : to.take (k + 1) = to.take k ++ [to[k]] := List.take_succ_eq_append_getElem hlt
      obtain ⟨y, hy⟩ : ∃ y, to[k] = y := ⟨_, rfl⟩
      rw [hy] at qt hrt hstep
      have hbH := Lib.hid hb
      by_cases hy0 : y < 0
      · clear ho hb hall hstep hy
        go_wp2_with fail
        refine (awH.out _ hbH.out).mono ?_
        rintro e w3 ⟨rfl, hb3⟩
        go_wp2_with fail
        go_ret
        exact ⟨rfl, bcall hBH.out hb3⟩
      by_cases hyl : (g.length : Int) ≤ y
      · clear ho hb hall hstep hy
        go_wp2_with fail
        refine (awH.out _ hbH.out).mono ?_
        rintro e w3 ⟨rfl, hb3⟩
        go_wp2_with fail
        go_ret
        exact ⟨rfl, bcall hBH.out hb3⟩
      obtain ⟨n, rfl⟩ : ∃ n : Nat, y = n := ⟨y.toNat, by omega⟩
      have hn : n < g.length := by omega
      obtain ⟨bg, og, agn, cgn, hag, -, qg, hIg⟩ := (h2H.out.below hb).sub n hn
      subst hag
      have hgd : g.getD ((n : Int)).toNat [] = g[n] := by rw [List.getD_eq_getElem?_getD, Int.toNat_natCast, List.getElem?_eq_getElem hn]; rfl
      have hmap : (to.take (k + 1)).map (fun n => g.getD n.toNat []) = (to.take k).map (fun n => g.getD n.toNat []) ++ [g[n]] := by rw [hstep, List.map_append, List.map_singleton, hgd]
      have hall' : ∀ m ∈ to.take (k + 1), 0 ≤ m ∧ m < (g.length : Int) := fun m hm => by
        rw [hstep, List.mem_append, List.mem_singleton] at hm
        rcases hm with hm | rfl
        · exact hall m hm
        · omega
      have hll : ((to.take k).map (fun n => g.getD n.toNat [])).length = k := by rw [List.length_map, List.length_take]; omega
      obtain ⟨v', w', hrun, ho', hgr, -⟩ := OwnL.push (P := Tryz.prog) (t := 24) (ty := 24) ho Tryz.underlying24 infoTerm rfl (vs := [.slice agn g[n].length cgn]) (x := g[n])
        ⟨_, _, rfl, hIg.weak (fun b hb' => ⟨hb'.2, fun e => by have := (OwnL.lt ho b e.symm).1; have := hb'.2; omega⟩)⟩ (by rw [hll]; omega) (by rw [hll]; unfold big; omega) hb.size
      have hrel : mdI g to W v' (.int .i64 ((k : Int) + 1)) w' := ⟨k + 1, by go_num, by omega, hall', by rw [hmap]; exact ho', hb.grown hgr hb.size (fun j e => (OwnL.lt ho j e).1)⟩
      have hrunH := Lib.hid hrun
      have hrelH := Lib.hid hrel
      clear ho hb hall hstep hy hIg hmap hall' hll hrun ho' hgr hrel hgd
      go_wp2_with (at_builtin; refine wpList_append_run rfl _ _ _ rfl rfl rfl hrunH.out ?_)
      all_goals go_roundw
      all_goals first | exact hrelH.out | (simp [intOf]; omega)
    · obtain rfl : k = to.length := by omega
      rw [List.take_length] at hall ho
      obtain ⟨old, hold⟩ : ∃ l, to.map (fun n => g.getD n.toNat []) = l := ⟨_, rfl⟩
      have hol : old.length = to.length := by rw [← hold, List.length_map]
      rw [hold] at ho
      obtain ⟨ao, co, hv, hT⟩ := OwnL.sl ho
      rw [hol] at hv
      subst hv
      have hsm : proofB (to.length : Int) p = true → saysE s old p = saysE s g (p.map (mvS to)) := fun h => by rw [← hold]; exact says_moved hgH.out hall h
      have hsmH := Lib.hid hsm
      have hTH := Lib.hid hT.any
      have hbH := Lib.hid hb
      obtain ⟨⟨pl, pe⟩, hpe⟩ : ∃ r, movedE (to.length : Int) p to (g.length : Int) = r := ⟨_, rfl⟩
      rw [hpe] at kmH hpmH
      simp only at hpmH
      clear ho hT hall hb hsm hold hpe
      go_wp2_with fail
      refine (kmH.out _ hbH.out).mono ?_
      rintro e w2 ⟨v2, rfl, o2, hb2⟩
      obtain ⟨a3, c3, rfl, s3⟩ := OwnSt.steps o2
      have q0m := cell_later hb2 q0k
      have hb2' := bcall hbH.out hb2
      have s3H := Lib.hid s3
      have hT2H := Lib.hid (hTH.out.below hb2)
      have hb2H := Lib.hid hb2'
      clear o2 hb2 s3 hb2' kmH
      dsimp only at s3H
      by_cases hpe0 : pe = 0
      case neg =>
        have hab : (pe != 0) = true := by simpa using hpe0
        go_wp2_with fail
        refine (awH.out _ hb2H.out).mono ?_
        rintro e w6 ⟨rfl, hb6⟩
        go_wp2_with fail
        go_ret
        exact ⟨rfl, bcall hBH.out hb6⟩
      subst hpe0
      obtain ⟨hpl, hpb⟩ := hpmH.out rfl
      have hse : saysE s old p = saysE s g pl := by rw [hpl]; exact hsmH.out hpb
      have k1H := Lib.hid (Says_any a1 ao ap k1 co cp s old p w2 (h1H.out.below hb2H.out) hT2H.out (h3H.out.below hb2H.out))
      have k2H := Lib.hid (fun W' (hb : Below w2.heap.size w2 W') => Says_any a1 ag a3 k1 cg c3 s g pl W' ((h1H.out.below hb2H.out).below hb) ((h2H.out.below hb2H.out).below hb) (s3H.out.below hb))
      rw [hse, hol] at k1H
      obtain ⟨⟨td, ed⟩, hde⟩ : ∃ r, saysE s g pl = r := ⟨_, rfl⟩
      rw [hde] at k1H k2H
      clear hse hde hpb hpl hol hsmH hpmH
      go_wp2_with fail
      refine k1H.out.mono ?_
      rintro e w3 ⟨a5, c5, rfl, i5, hb3⟩
      go_wp2_with fail
      refine (k2H.out _ hb3).mono ?_
      rintro e w4 ⟨a6, c6, rfl, i6, hb4⟩
      have cmH := Lib.hid (Same_any a5 a6 c5 c6 td td w4 (i5.below hb4) i6)
      rw [decide_eq_true rfl] at cmH
      have hb4H := Lib.hid (bcall hb2H.out (bcall hb3 hb4))
      clear i5 i6 hb3 hb4
      simp only
      go_wp2_with fail
      refine cmH.out.mono ?_
      rintro e w8 ⟨rfl, hd8⟩
      go_wp2_with fail
      refine (awH.out _ (bcall hb4H.out (hd8.below _))).mono ?_
      rintro e w9 ⟨rfl, hb9⟩
      go_wp2_with fail
      go_ret
      exact ⟨rfl, bcall hBH.out hb9⟩
end Go.Proofs.YtgkddhakhapjlaaGreatDoor

/- What the arguments of a call read as: from the form's own reading of data to plain lists. No program is named. -/
namespace Go.Proofs.YtgkddhakhapjlaaGreatDoor
open Go Go.RowKit Go.ChangeShapes Go.WideShapes Go.ChangeAt Go.Deep

/-- whatever reads as data of type t reads as some a of E -/
def Gives {α : Type} (P : Program) (t : TypeId) (E : Enc α) : Prop :=
  ∀ (H : Type) (enc : TypeId × Value → H) (w : World) (base : Nat) (spare : Nat → Bool) (held : Bool) (n : Nat) (cs : List Value) (x : DataW H × List MemPlace), DataW.trod enc P w base spare held n t cs = some x → ∃ a : α, E.R (fun _ => True) w cs a

section
variable {P : Program} {t e : TypeId} {α β : Type}
theorem range_of_wf {x : Int} (h : (Lit.int .i64 x).wf = true) : inRange x := by
  have h1 : IntKind.i64.min = -9223372036854775808 := rfl
  have h2 : IntKind.i64.max = 9223372036854775807 := rfl
  simp only [Lit.wf, Bool.and_eq_true, decide_eq_true_eq] at h
  unfold inRange
  omega
theorem gives_int (ht : P.underlying t = some (.int .i64)) : Gives P t intE := by
  intro H enc w base spare held n cs x h
  obtain ⟨v, rfl, _, hw⟩ := DataW.trod_int ht h
  exact ⟨v, rfl, range_of_wf hw⟩
theorem gives_str (ht : P.underlying t = some .string) : Gives P t strE := by
  intro H enc w base spare held n cs x h
  obtain ⟨s, rfl, _, hs⟩ := DataW.trod_string ht h
  exact ⟨s, rfl, by unfold big; unfold maxLen at hs; omega⟩
theorem gives_slice {E : Enc α} (ht : P.underlying t = some (.slice e)) (hc : P.cellsOf e = E.size) (g : Gives P e E) : Gives P t (slE E) := by
  intro H enc w base spare held n cs x h
  rcases open_slice ht h with ⟨rfl, _⟩ | ⟨a, len, cap, m, n', D, Pl, rfl, hb, hl, hm, hmm, _, hel⟩
  · exact ⟨[], none, 0, rfl, .empty⟩
  · have hlm : len ≤ m := by rw [hmm]; split <;> omega
    have hch : ∀ i : Fin len, ∃ vs : List Value, ∃ y : α, vs.length = E.size ∧ (∀ j (hj : j < vs.length), w.cell? ((a.add (i.1 * E.size)).add j) = some vs[j]) ∧ E.R (fun _ => True) w vs y := by
      intro i
      obtain ⟨cs', h1, h2⟩ := hel i.1 (by omega)
      obtain ⟨y, hy⟩ := g H enc w base spare held n' cs' _ h2
      obtain ⟨_, h4, h5⟩ := World.cells?_some h1
      refine ⟨cs', y, by rw [h4, hc], fun j hj => ?_, hy⟩
      rw [← hc, h5 j (by rw [← h4]; exact hj)]
      simp [hj]
    refine ⟨List.ofFn (fun i : Fin len => (Classical.choose (Classical.choose_spec (hch i)))), some a, cap, by simp, ?_⟩
    refine ⟨by simpa using hl, by unfold big; unfold maxLen at hm; omega, fun h => by simp at h, fun hne => ?_⟩
    have hl0 : 0 < len := by
      rcases Nat.eq_zero_or_pos len with h0 | h0
      · subst h0; simp at hne
      · exact h0
    obtain ⟨b, off, spot⟩ := a
    have hs0 := Classical.choose_spec (Classical.choose_spec (hch ⟨0, hl0⟩))
    have hspot : spot = none := by
      have := World.cell?_spot (hs0.2.1 0 (by rw [hs0.1]; exact E.pos))
      simpa [Addr.add] using this
    subst hspot
    have hadd : ∀ k j : Nat, ((⟨b, off, none⟩ : Addr).add k).add j = ⟨b, off + k + j, none⟩ := by
      intro k j; rw [add_add]; unfold Addr.add; split
      · rename_i h0; simp at h0 ⊢ <;> omega
      · simp [Nat.add_assoc]
    have hblt : b < w.heap.size := by
      have := hs0.2.1 0 (by rw [hs0.1]; exact E.pos)
      rw [hadd] at this
      exact World.block_lt_of_cell? w _ this
    refine ⟨b, off, rfl, trivial, hblt, fun i hi => ?_⟩
    have hi' : i < len := by simpa using hi
    have hsp := Classical.choose_spec (Classical.choose_spec (hch ⟨i, hi'⟩))
    refine ⟨_, hsp.1, fun j hj => ?_, ?_⟩
    · rw [← hadd]; exact hsp.2.1 j hj
    · rw [List.getElem_ofFn]; exact hsp.2.2
theorem gives_pair {E : Enc α} {F : Enc β} {f0 f1 : Field} (ht : P.underlying t = some (.struct #[f0, f1])) (h0 : f0.offset = 0) (h1 : f1.offset = E.size) (hc : P.cellsOf t = E.size + F.size)
    (hc0 : P.cellsOf f0.type = E.size) (hc1 : P.cellsOf f1.type = F.size) (g0 : Gives P f0.type E) (g1 : Gives P f1.type F) : Gives P t (pairE E F) := by
  intro H enc w base spare held n cs x h
  obtain ⟨y0, y1, n', _, hl, r0, r1⟩ := trod_struct2 ht h
  obtain ⟨a, ha⟩ := g0 H enc w base spare held n' _ _ r0
  obtain ⟨b, hb⟩ := g1 H enc w base spare held n' _ _ r1
  refine ⟨(a, b), _, _, ?_, ha, hb⟩
  rw [h0, h1, hc0, hc1, List.drop_zero]
  have : (cs.drop E.size).take F.size = cs.drop E.size := List.take_of_length_le (by simp; omega)
  rw [this, List.take_append_drop]
/-- three fields, or an array of three -/
theorem gives_three {E F G : Enc α} {f0 f1 f2 : Field} (ht : P.underlying t = some (.struct #[f0, f1, f2])) (h0 : f0.offset = 0) (h1 : f1.offset = E.size) (h2 : f2.offset = E.size + F.size) (hc : P.cellsOf t = E.size + (F.size + G.size))
    (hc0 : P.cellsOf f0.type = E.size) (hc1 : P.cellsOf f1.type = F.size) (hc2 : P.cellsOf f2.type = G.size) (g0 : Gives P f0.type E) (g1 : Gives P f1.type F) (g2 : Gives P f2.type G) : Gives P t (pairE E (pairE F G)) := by
  intro H enc w base spare held n cs x h
  obtain ⟨y0, y1, y2, n', _, hl, r0, r1, r2⟩ := trod_struct3 ht h
  obtain ⟨a, ha⟩ := g0 H enc w base spare held n' _ _ r0
  obtain ⟨b, hb⟩ := g1 H enc w base spare held n' _ _ r1
  obtain ⟨c, hcc⟩ := g2 H enc w base spare held n' _ _ r2
  refine ⟨(a, b, c), _, _, ?_, ha, _, _, rfl, hb, hcc⟩
  rw [h0, h1, h2, hc0, hc1, hc2, List.drop_zero]
  have e1 : (cs.drop (E.size + F.size)).take G.size = cs.drop (E.size + F.size) := List.take_of_length_le (by simp; omega)
  rw [e1, ← List.drop_drop, List.take_append_drop, List.take_append_drop]
theorem gives_array3 {E : Enc α} (ht : P.underlying t = some (.array 3 e)) (hc : P.cellsOf t = E.size + (E.size + E.size)) (he : P.cellsOf e = E.size) (g : Gives P e E) : Gives P t (pairE E (pairE E E)) := by
  intro H enc w base spare held n cs x h
  obtain ⟨xs, m, _, _, hl, hx, hf⟩ := DataW.trod_array ht h
  match xs, hx with
  | [x0, x1, x2], _ =>
    obtain ⟨a, ha⟩ := g H enc w base spare held m _ _ (hf 0 (by omega))
    obtain ⟨b, hb⟩ := g H enc w base spare held m _ _ (hf 1 (by omega))
    obtain ⟨c, hcc⟩ := g H enc w base spare held m _ _ (hf 2 (by omega))
    refine ⟨(a, b, c), _, _, ?_, ha, _, _, rfl, hb, hcc⟩
    rw [he, Nat.zero_mul, Nat.one_mul, List.drop_zero, Nat.two_mul]
    have e1 : (cs.drop (E.size + E.size)).take E.size = cs.drop (E.size + E.size) := List.take_of_length_le (by simp; omega)
    rw [e1, ← List.drop_drop, List.take_append_drop, List.take_append_drop]
/-- an argument that is a slice -/
theorem Gives.arg {E : Enc α} (g : Gives P t (slE E)) {H : Type} {enc : TypeId × Value → H} {w : World} {base : Nat} {spare : Nat → Bool} {held : Bool} {v : Value} {d : DataW H} {p : List MemPlace}
    (h : DataW.Trod enc P w base spare held t v d p) (hv : ∃ a n c, v = .slice a n c) : ∃ (l : List α) (a : Option Addr) (c : Nat), v = .slice a l.length c ∧ Sl E (fun _ => True) w a c l := by
  obtain ⟨n, hn⟩ := h
  obtain ⟨l, a, c, h1, h2⟩ := g H enc w base spare held n _ _ hn
  obtain ⟨a', n', c', rfl⟩ := hv
  simp [Value.cells] at h1
  obtain ⟨rfl, rfl, rfl⟩ := h1
  exact ⟨l, _, _, rfl, h2⟩
end
theorem okWide_array {P : Program} {w : World} {r : Reach} {base : Nat} {t e : TypeId} {n : Nat} {v : Value} (ht : P.underlying t = some (.array n e)) (h : Value.okWide P w r base t v) : ∃ cs, v = .agg cs := by
  unfold Value.okWide at h
  rw [ht] at h
  obtain ⟨cs, h, _⟩ := h
  exact ⟨cs, h⟩
/-- an argument that is an aggregate -/
theorem Gives.argAgg {P : Program} {t : TypeId} {α : Type} {E : Enc α} (g : Gives P t E) {H : Type} {enc : TypeId × Value → H} {w : World} {base : Nat} {spare : Nat → Bool} {held : Bool} {v : Value} {d : DataW H} {p : List MemPlace}
    (h : DataW.Trod enc P w base spare held t v d p) (hv : ∃ cs, v = .agg cs) : ∃ (x : α) (vs : List Value), v = .agg vs.toArray ∧ E.R (fun _ => True) w vs x := by
  obtain ⟨n, hn⟩ := h
  obtain ⟨x, hx⟩ := g H enc w base spare held n _ _ hn
  obtain ⟨cs, rfl⟩ := hv
  exact ⟨x, cs.toList, by simp, by simpa [Value.cells] using hx⟩
end Go.Proofs.YtgkddhakhapjlaaGreatDoor

/- Facts of the program's types that every law's row wants. -/
namespace Go.Proofs.YtgkddhakhapjlaaGreatDoor
open Go Go.RowKit Go.ChangeShapes Go.WideShapes Go.ChangeAt
theorem Tryz.own : ownKnob Tryz.prog.godebug = none := by kernel_rfl
theorem Tryz.laidOut : laidOutB Tryz.prog = true := by kernel_rfl
theorem gInt : Gives Tryz.prog 3 intE := gives_int Tryz.underlying3
theorem gStr : Gives Tryz.prog 9 strE := gives_str Tryz.underlying9
theorem gTerm : Gives Tryz.prog 34 (slE intE) := gives_slice Tryz.underlying34 (by kernel_rfl) gInt
theorem gSym : Gives Tryz.prog 71 symE := gives_pair Tryz.underlying71 rfl rfl (by kernel_rfl) (by kernel_rfl) (by kernel_rfl) gStr gInt
theorem gSign : Gives Tryz.prog 23 (slE symE) := gives_slice Tryz.underlying23 (by kernel_rfl) gSym
theorem gTerms : Gives Tryz.prog 24 (slE (slE intE)) := gives_slice Tryz.underlying24 (by kernel_rfl) gTerm
theorem gInts : Gives Tryz.prog 33 (slE intE) := gives_slice Tryz.underlying33 (by kernel_rfl) gInt
end Go.Proofs.YtgkddhakhapjlaaGreatDoor

/- Facts of the program's types that the rows over the kernel want; the start of a row that lists variables. -/
namespace Go.Proofs.YtgkddhakhapjlaaGreatDoor
open Go Go.RowKit Go.ChangeShapes Go.WideShapes Go.ChangeAt Go.Deep

theorem gives3 {P : Program} {t : TypeId} {α β γ : Type} {E : Enc α} {F : Enc β} {G : Enc γ} {f0 f1 f2 : Field} (ht : P.underlying t = some (.struct #[f0, f1, f2])) (h0 : f0.offset = 0) (h1 : f1.offset = E.size) (h2 : f2.offset = E.size + F.size) (hc : P.cellsOf t = E.size + (F.size + G.size))
    (hc0 : P.cellsOf f0.type = E.size) (hc1 : P.cellsOf f1.type = F.size) (hc2 : P.cellsOf f2.type = G.size) (g0 : Gives P f0.type E) (g1 : Gives P f1.type F) (g2 : Gives P f2.type G) : Gives P t (pairE E (pairE F G)) := by
  intro H enc w base spare held n cs x h
  obtain ⟨y0, y1, y2, n', _, hl, r0, r1, r2⟩ := trod_struct3 ht h
  obtain ⟨a, ha⟩ := g0 H enc w base spare held n' _ _ r0
  obtain ⟨b, hb⟩ := g1 H enc w base spare held n' _ _ r1
  obtain ⟨c, hcc⟩ := g2 H enc w base spare held n' _ _ r2
  refine ⟨(a, b, c), _, _, ?_, ha, _, _, rfl, hb, hcc⟩
  rw [h0, h1, h2, hc0, hc1, hc2, List.drop_zero]
  have e1 : (cs.drop (E.size + F.size)).take G.size = cs.drop (E.size + F.size) := List.take_of_length_le (by simp; omega)
  rw [e1, ← List.drop_drop, List.take_append_drop, List.take_append_drop]
theorem gStp : Gives Tryz.prog 86 stpE := gives3 Tryz.underlying86 rfl rfl rfl (by kernel_rfl) (by kernel_rfl) (by kernel_rfl) (by kernel_rfl) gInt gInt gInt
theorem gSteps : Gives Tryz.prog 25 (slE stpE) := gives_slice Tryz.underlying25 (by kernel_rfl) gStp
theorem gMove : Gives Tryz.prog 44 (pairE (slE stpE) (pairE (slE intE) intE)) := gives3 Tryz.underlying44 rfl rfl rfl (by kernel_rfl) (by kernel_rfl) (by kernel_rfl) (by kernel_rfl) gSteps gInts gInt
theorem gives_array2 {P : Program} {t e : TypeId} {α : Type} {E : Enc α} (ht : P.underlying t = some (.array 2 e)) (hc : P.cellsOf t = E.size + E.size) (he : P.cellsOf e = E.size) (g : Gives P e E) : Gives P t (pairE E E) := by
  intro H enc w base spare held n cs x h
  obtain ⟨xs, m, _, _, hl, hx, hf⟩ := DataW.trod_array ht h
  match xs, hx with
  | [x0, x1], _ =>
    obtain ⟨a, ha⟩ := g H enc w base spare held m _ _ (hf 0 (by omega))
    obtain ⟨b, hb⟩ := g H enc w base spare held m _ _ (hf 1 (by omega))
    refine ⟨(a, b), _, _, ?_, ha, hb⟩
    rw [he, Nat.zero_mul, Nat.one_mul, List.drop_zero]
    have e1 : (cs.drop E.size).take E.size = cs.drop E.size := List.take_of_length_le (by simp; omega)
    rw [e1, List.take_append_drop]
theorem gClaim : Gives Tryz.prog 49 (pairE (slE (slE intE)) (pairE (slE stpE) (slE intE))) := gives3 Tryz.underlying49 rfl rfl rfl (by kernel_rfl) (by kernel_rfl) (by kernel_rfl) (by kernel_rfl) gTerms gSteps gTerm
end Go.Proofs.YtgkddhakhapjlaaGreatDoor

/- The card of KernelMoved: for every input KernelMoved returns true and leaves its arguments as they were; the listed variables are tied to the program's text. No condition. -/
namespace Go.Proofs.YtgkddhakhapjlaaGreatDoor
open Go Go.RowKit Go.ChangeShapes Go.WideShapes Go.ChangeAt

theorem kernelMoved_door (os : Os) (args : Array Value) : laidMetH Tryz.prog Rows.kernelMovedRow.laid ((World.doorLaid Tryz.prog 400 os).forCall (fun _ _ => 0) ⟨#[], args, []⟩).memory :=
  laidMetH_of_parts3 (fuel := 8) (laidMet_of_run' 8 (by kernel_rfl) (by kernel_rfl)) (by kernel_rfl) (by kernel_rfl)
set_option maxRecDepth 100000 in
theorem kernelMoved_lifted (os : Os) (started : os.Started) (H : Type) (enc : TypeId × Value → H) :
    ReturnsInHanded {} Tryz.checked os 5 .any (fun w args => (Rows.kernelMovedSpec.pre enc Tryz.prog Tryz.f5 [] false w args ∧ laidMetH Tryz.prog Rows.kernelMovedRow.laid w) ∧ sizedMet enc Tryz.prog Tryz.f5 (OpenSpec.ofChange Rows.kernelMovedSpec) false w args)
      (Rows.kernelMovedSpec.post enc Tryz.prog Tryz.f5 false true false false) := by
  refine returnsInHanded_of_change_and (C := Tryz.checked) (X := fun w _ => laidMetH Tryz.prog Rows.kernelMovedRow.laid w) (fun _ _ _ hh h => h.of_heap hh) Tryz.own started (by kernel_rfl) Tryz.func5
    (ChangeSpec.witness_shaped (enc := enc) (C := Tryz.checked) (os := os) (X := fun w _ => laidMetH Tryz.prog Rows.kernelMovedRow.laid w) false (World.doorLaid Tryz.prog 400 os) #[.slice none 0 0, .slice none 0 0, .agg #[.slice none 0 0, .slice none 0 0, .int .i64 0]] 8 rfl (World.shaped_of_RefB (by kernel_rfl) (by kernel_rfl)) (by kernel_rfl) (by kernel_rfl) (by kernel_rfl) (kernelMoved_door os _)) ?_
  intro W base args ds gs before hval0 hW _ _ hL _
  clear hL
  have hval : ∀ (j : Nat) t v, Tryz.f5.params[j]? = some t → args[j]? = some v → Value.okWide Tryz.prog W .any base t v := hval0
  have hW' := hW
  obtain ⟨p, q, hA0, hV, rfl, hfz, hnd⟩ := hW
  have hA : DataW.TrodAll enc Tryz.prog W 0 (fun _ => true) true Tryz.f5.params.toList args.toList ds p := hA0
  rw [Tryz.params5] at hA hval
  obtain ⟨v0, v1, v2, d0, d1, d2, p0, p1, p2, rfl, rfl, rfl, h0, h1, h2⟩ := trodAll_three hA
  obtain ⟨rfl, rfl⟩ := trodVars_none hV
  clear hA0 hval0
  simp only [List.append_nil] at hW'
  have hlt : ∀ x ∈ p0 ++ (p1 ++ p2), x.block < W.heap.size := fun x hx => hW'.lt x (by simpa using hx)
  have keep0 := fun (W' : World) (hn : Below W.heap.size W W') => Below.trod Tryz.laidOut (by kernel_rfl) (of_decide_eq_true (by kernel_rfl)) h0 hn (fun x hx => hlt x (by simp [hx]))
  have keep1 := fun (W' : World) (hn : Below W.heap.size W W') => Below.trod Tryz.laidOut (by kernel_rfl) (of_decide_eq_true (by kernel_rfl)) h1 hn (fun x hx => hlt x (by simp [hx]))
  have keep2 := fun (W' : World) (hn : Below W.heap.size W W') => Below.trod Tryz.laidOut (by kernel_rfl) (of_decide_eq_true (by kernel_rfl)) h2 hn (fun x hx => hlt x (by simp [hx]))
  obtain ⟨l0, a0, c0, rfl, r0⟩ := gSign.arg h0 (okWide_slice Tryz.underlying23 (hval 0 23 v0 rfl rfl))
  obtain ⟨l1, a1, c1, rfl, r1⟩ := gTerms.arg h1 (okWide_slice Tryz.underlying24 (hval 1 24 v1 rfl rfl))
  obtain ⟨⟨t0, t1, x2⟩, vs, rfl, us, ts, rfl, ⟨a20, c20, rfl, r20⟩, us1, ts1, rfl, ⟨a21, c21, rfl, r21⟩, ⟨rfl, wx2⟩⟩ := gMove.argAgg h2 (let ⟨cs, h, _⟩ := okWide_struct Tryz.underlying44 (hval 2 44 v2 rfl rfl); ⟨cs, h⟩)
  refine (KernelMoved_walk _ _ _ _ _ _ _ _ _ _ _ _ _ W r0 r1 r20 r21).mono fun e W' ⟨he, hB⟩ => ?_
  subst he
  exact ⟨_, rfl, _, _, _, [], p0 ++ (p1 ++ p2), [], hW', trodAll_mk1 (shut_bool Tryz.underlying4 true), trodAll_mk3 (keep0 _ hB) (keep1 _ hB) (keep2 _ hB), rfl, hB.frame _, fun h => by cases h⟩

/-- KernelMoved: for every input it returns true, and each argument reads as it did. -/
theorem kernelMoved_holds : Rows.KernelMovedSaid :=
  OpenClaim.holds_of_wide 5 Tryz.f5 rfl rfl rfl rfl rfl rfl rfl ⟨rfl, rfl, rfl, rfl, rfl⟩ rfl rfl rfl rfl rfl (by kernel_rfl) Tryz.func5 (by kernel_rfl)
    (of_decide_eq_true (by kernel_rfl)) (by unfold Func.isWrapper; first | (rw [if_pos (by decide +kernel)]; kernel_rfl) | (rw [if_neg (by decide +kernel)]; exact ⟨rfl, rfl⟩))
    (fun os started H enc _ => kernelMoved_lifted os started H enc)
/-- the card of KernelMoved -/
theorem kernelMoved_card_holds : Rows.KernelMovedCardSaid :=
  Claim7.holds_tied_plain_at .later [] [.data, .data, .data, .sentinel, .sentinel] true Rows.kernelMovedCard.stood.harness Rows.kernelMovedCard.stood.looks
    kernelMoved_holds (fun _ h => by cases h) (by kernel_rfl) (fun _ h => by cases h) kernelMoved_row_tie rfl ⟨rfl, rfl⟩ (by kernel_rfl) rfl
    (fun f fn hf hfn => by
      obtain rfl : f = 5 := Option.some.inj ((show Tryz.prog.funcNamed Rows.kernelMovedRow.func = some 5 by kernel_rfl).symm.trans hf) |>.symm
      obtain rfl : fn = Tryz.f5 := (Option.some.inj (Tryz.func5.symm.trans hfn)).symm
      exact ⟨by kernel_rfl, fun j t ht => by
        rw [Tryz.params5] at ht
        have hm : t ∈ [23, 24, 44] := by simpa using Array.mem_of_getElem? ht
        have hall : ([23, 24, 44].all fun u => !Tryz.prog.wantsStandIn u) = true := by kernel_rfl
        exact (show Tryz.prog.wantsStandIn t = false by simpa using List.all_eq_true.1 hall t hm)⟩)
    (by kernel_rfl)
end Go.Proofs.YtgkddhakhapjlaaGreatDoor
