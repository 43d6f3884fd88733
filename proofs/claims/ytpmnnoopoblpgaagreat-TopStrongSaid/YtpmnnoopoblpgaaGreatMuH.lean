/- The proof of a statement, some of its texts joined in build order: part H. -/
import Derived.Test.YtpmnnoopoblpgaaGreatRegS
import Derived.Test.YtpmnnoopoblpgaaGreatRange
import Derived.Test.YtpmnnoopoblpgaaGreatRangeG
import Derived.Test.YtpmnnoopoblpgaaGreatBoxList
import Derived.Test.YtpmnnoopoblpgaaGreatRegionIn
import Derived.Test.YtpmnnoopoblpgaaGreatMuP
import Derived.Test.YtpmnnoopoblpgaaGreatMuE
import Derived.Test.YtpmnnoopoblpgaaGreatMuI
import Derived.Test.YtpmnnoopoblpgaaGreatMuD
import Derived.Sort.OwnSorted
import Derived.Deep.RegionHeld3
import Derived.Lib.SliceRun
/- A range over a function whose iterator changes cells that lay before the loop. No program is named. -/
namespace Go.Proofs.YtpmnnoopoblpgaaGreat
open Go Go.RowKit

def OwnRowsB {β : Type} (Rw : World → Nat → Obj → Prop) (B : Nat) (I : β → World → Prop) : Prop :=
 ∀ s W W' row, I s W → W.grownBy W' row → (∀ r, row = some r → ∃ o : Obj, W.heap[r]? = some o ∧ ((B ≤ r ∧ o.isCells = false) ∨ Rw W r o)) → I s W'
theorem OwnRowsB.from {β : Type} {Rw : World → Nat → Obj → Prop} {B : Nat} {I : β → World → Prop} (h : OwnRowsB Rw B I) : OwnFrom B I := fun s W W' row hs hg hr =>
 h s W W' row hs hg (fun r e => by obtain ⟨g1, o, g2, g3⟩ := hr r e; exact ⟨o, g2, .inl ⟨g1, g3⟩⟩)
def AbidesRowsB {β : Type} (Rw : World → Nat → Obj → Prop) (B : Nat) (J : β → World → Prop) : Prop :=
 ∀ s W W' row, J s W → W.grownBy W' row → (∀ r, row = some r → ∃ o : Obj, W.heap[r]? = some o ∧ ((B ≤ r ∧ o.isWalk = true) ∨ Rw W r o)) → J s W'
theorem OwnRowsB.and {β : Type} {Rw : World → Nat → Obj → Prop} {B : Nat} {I I' : β → World → Prop} (h : OwnRowsB Rw B I) (h' : OwnRowsB Rw B I') : OwnRowsB Rw B (fun s W => I s W ∧ I' s W) := fun s W W' row hs hg hr => ⟨h s W W' row hs.1 hg hr, h' s W W' row hs.2 hg hr⟩
def SeqRelB {α : Type} (F : Fence) (n : Nat) (P : Program) (g : Nat) (lb : Array Value) (encs : α → Array Value) (R : α → World → Prop) (Kp : World → World → Prop) (Rw : World → Nat → Obj → Prop) (S Sp : List α → Prop) (N : Nat) (w : World) : Prop :=
 ∀ (l : Nat) (J Jx : List α → World → Prop) (W : World), Below w.heap.size w W → AbidesRowsB Rw W.heap.size J → AbidesRowsB Rw W.heap.size Jx →
  (∀ pre x W1, J pre W1 → R x W1 → pre.length < N → YieldAt F (n - 1) P l (encs x) W1 fun e W' =>
   (e = .returned (.bool true) ∧ J (pre ++ [x]) W' ∧ Kp W1 W') ∨ (e = .returned (.bool false) ∧ Jx (pre ++ [x]) W')) →
  J [] W → CallsIn F n P g (#[.func (.yield l) #[] #[]] ++ lb) W fun e W' => (∃ v, e = .returned v) ∧ ((∃ xs, S xs ∧ J xs W') ∨ (∃ pre, Sp pre ∧ Jx pre W'))
section
variable {F : Fence} {n : Nat} {P : Program} {α : Type}
set_option maxHeartbeats 1000000 in
theorem range_relB {g : Operand} {ps : Array Tmp} {assign body : Code} {Q : Exit → Act → World → Prop} {a : Act} {w : World}
  (hro : F.round = none) (h1 : 1 ≤ n) {gf : Nat} {lb : Array Value} (hg : a.eval g = .func (.func gf) #[] lb) (hFg : F.fn gf) (eg : ∀ args w, (callFunc gf args).run P w = .ok (.enter gf args) w)
  {encs : α → Array Value} {R : α → World → Prop} {Kp : World → World → Prop} {Rw : World → Nat → Obj → Prop} {S Sp : List α → Prop} {N : Nat} {w0 : World} (hseq : SeqRelB F (n - 1) P gf lb encs R Kp Rw S Sp N w0) (hRw : ∀ W r o, Rw W r o → o.isCells = true)
  (hKt : ∀ {A B C : World}, Kp A B → Kp B C → Kp A C) (hKb : ∀ (W : World) (l : Nat) (o o' : Obj), w.heap.size ≤ l → W.heap[l]? = some o → o.isCells = false → o.isWalk = false → Kp W (W.putObj l o')) (hb0 : Below w0.heap.size w0 w) (hps : ∀ x, (encs x).size = ps.size)
  (I : List α → World → Prop) (Ix : Code → List α → World → Prop) (hI : OwnRowsB Rw w.heap.size I) (hIx : ∀ c, OwnRowsB Rw w.heap.size (Ix c)) (h0 : I [] w) (Ax : α → Act → World → Prop) (hAx : ∀ x a', OwnFrom w.heap.size (fun (_ : Unit) W => Ax x a' W))
  (hassign : ∀ (l : Nat) (pre : List α) (x : α) (W : World) (K : Act → World → Prop), I pre W → R x W → (∀ a' W', KeepsFrom w.heap.size W W' → Kp W W' → I pre W' → Ax x a' W' → K a' W') →
   assign.wpIn (F.inRound l) (n - 1 - 1) P (Exit.then K (fun _ _ _ => False)) { tmps := (ps.zip (encs x)).foldl (fun t (p, v) => t.setIfInBounds p v) a.tmps, defers := [] } W)
  (hbody : ∀ (l : Nat) (pre : List α) (x : α) (a' : Act) (W : World), w.heap.size ≤ l → (∃ r, W.heap[l]? = some (.loop r)) → I pre W → Ax x a' W → pre.length < N → body.wpIn (F.inRound l) (n - 1 - 1) P (relPostG w.heap.size Kp I Ix (pre ++ [x]) W) a' W)
  (hdone : ∀ (D : Nat) (xs : List α) (W : World), w.heap.size ≤ D → S xs → I xs W → W.heap[D]? = some (.deferred (some [])) → Q .normal { a with defers := { target := .collected D, args := #[] } :: a.defers } W)
  (hstop : ∀ (D : Nat) (c : Code) (pre : List α) (W : World), w.heap.size ≤ D → Sp pre → Ix c pre W → W.heap[D]? = some (.deferred (some [])) → c.wpIn F n P Q { a with defers := { target := .collected D, args := #[] } :: a.defers } W) :
  (Code.rangeFunc g ps assign body).wpIn F n P Q a w := by
 refine wpIn_rangeFunc fun fn hfn => ?_
 rw [hro]
 obtain ⟨d, hd⟩ : ∃ d, w.heap.size = d := ⟨_, rfl⟩
 rw [hd] at hKb hI hIx hAx hassign hbody hdone hstop
 obtain ⟨rec, hrec⟩ : ∃ rec : LoopState → Option Code → Loop, ∀ st pe, rec st pe = { state := st, pending := pe, fn, tmps := a.tmps, params := ps, assign, body, defers := d } := ⟨_, fun _ _ => rfl⟩
 have hz : (w.alloc (.deferred (some []))).heap.size = d + 1 := by simp [hd]
 have hB1 : Book (d + 1) d (rec .ready none) ((w.alloc (.deferred (some []))).alloc (.loop (rec .ready none))) := by
  refine ⟨by rw [← hz]; exact World.alloc_heap_new _ _, ?_⟩
  rw [Below.heap_alloc _ _ _ (by omega), ← hd]; exact World.alloc_heap_new w _
 have hIF := hI.from
 have hIxF := fun c => (hIx c).from
 have hI1 : I [] ((w.alloc (.deferred (some []))).alloc (.loop (rec .ready none))) := hIF.alloc _ (hIF.alloc _ h0)
 have hW1 : Below w0.heap.size w0 ((w.alloc (.deferred (some []))).alloc (.loop (rec .ready none))) := (hb0.alloc hb0.size _).alloc (by have := hb0.size; omega) _
 have hs1 : ((w.alloc (.deferred (some []))).alloc (.loop (rec .ready none))).heap.size = d + 2 := by rw [World.size_alloc, hz]
 have hen := run_enterLoop_outer (P := P) (w := w) fn a.tmps ps assign body
 rw [hd, ← hrec .ready none] at hen
 generalize (w.alloc (.deferred (some []))).alloc (.loop (rec .ready none)) = W1 at hB1 hI1 hW1 hs1 hen
 refine ⟨d + 1, [{ target := .collected d, args := #[] }], W1, { target := .fn (.func gf) lb, args := #[.func (.yield (d + 1)) #[] #[]] }, W1, gf, #[.func (.yield (d + 1)) #[] #[]] ++ lb, W1, hen, ?_, ?_, ?_, fun _ => h1, ?_⟩
 ·simp only [resolve, hg]; simp [go_sem]
 ·intro f' hf'
  simp [Target.leads] at hf'
  rw [← hf']; exact hFg
 ·simp [invoke, go_sem, eg]
 have hcall := hseq (d + 1) (fun pre W => I pre W ∧ Book (d + 1) d (rec .ready none) W) (fun pre W => ∃ c, Ix c pre W ∧ Book (d + 1) d (rec .done (some c)) W) W1 hW1
  (fun s A B row hs hgr hr => ⟨hI s A B row hs.1 hgr (fun r e => by obtain ⟨o, g2, g3⟩ := hr r e; exact ⟨o, g2, g3.imp (fun q => ⟨by omega, Obj.not_cells_of_walk q.2⟩) id⟩), hs.2.grownG hgr (fun r e => by obtain ⟨o, g2, g3⟩ := hr r e; exact ⟨o, g2, g3.imp And.right (hRw _ _ _)⟩)⟩)
  (fun s A B row hs hgr hr => by obtain ⟨c, q1, q2⟩ := hs; exact ⟨c, hIx c s A B row q1 hgr (fun r e => by obtain ⟨o, g2, g3⟩ := hr r e; exact ⟨o, g2, g3.imp (fun q => ⟨by omega, Obj.not_cells_of_walk q.2⟩) id⟩), q2.grownG hgr (fun r e => by obtain ⟨o, g2, g3⟩ := hr r e; exact ⟨o, g2, g3.imp And.right (hRw _ _ _)⟩)⟩)
 refine (hcall ?_ ⟨hI1, hB1⟩).mono ?_
 ·rintro pre x W ⟨hi, hb⟩ hR hlen
  have hy := run_yield (P := P) (args := encs x) hb.loop (by rw [hrec]; exact hps x)
  rw [hrec] at hy
  refine ⟨fn, _, assign, body, hy, roundIn_of_wpIn hfn (hassign (d + 1) pre x W _ hi hR fun a' Wa k1 k2 k3 k4 => ?_)⟩
  have hba := hb.keeps (by omega) (Nat.le_refl _) k1
  refine ⟨_, run_beginRound hba.loop (by rw [hrec]), ?_⟩
  have hb2 : Book (d + 1) d { rec .ready none with state := .busy } (Wa.putObj (d + 1) (.loop { rec .ready none with state := .busy })) := hba.turn (by omega)
  have hk2 : Kp Wa (Wa.putObj (d + 1) (.loop { rec .ready none with state := .busy })) := hKb _ _ _ _ (by omega) hba.loop rfl rfl
  have hi2 := hIF.putObj (.loop { rec .ready none with state := .busy }) k3 (by omega) hba.loop rfl
  have ha2 := (hAx x a').putObj (s := ()) (.loop { rec .ready none with state := .busy }) k4 (by omega) hba.loop rfl
  have hend : ∀ (jump : Option Code) (W3 : World), KeepsFrom d (Wa.putObj (d + 1) (.loop { rec .ready none with state := .busy })) W3 →
    (Instr.endRound (d + 1) jump).run P W3 = .ok (.bool jump.isNone) (W3.putObj (d + 1) (.loop (rec (if jump.isNone then .ready else .done) jump))) ∧
    W3.heap[d + 1]? = some (.loop { rec .ready none with state := .busy }) ∧ Book (d + 1) d (rec (if jump.isNone then .ready else .done) jump) (W3.putObj (d + 1) (.loop (rec (if jump.isNone then .ready else .done) jump))) := fun jump W3 k => by
   have hb3 := hb2.keeps (by omega) (Nat.le_refl _) k
   have hr := run_endRound (P := P) jump hb3.loop
   rw [hrec .ready none] at hr
   rw [hrec (if jump.isNone then .ready else .done) jump]
   exact ⟨hr, hb3.loop, hb3.turn (by omega)⟩
  refine wpIn_mono (hbody (d + 1) pre x a' _ (by omega) ⟨_, hb2.loop⟩ hi2 ha2 hlen) fun e a3 W3 hp => ?_
  obtain ⟨q1, q3⟩ := hp
  cases e with
  | normal =>
   obtain ⟨q2, q3⟩ := q3
   have hkk : ∀ o', Kp W (W3.putObj (d + 1) o') := fun o' => hKt k2 (hKt (hKt hk2 q2) (hKb _ _ _ _ (by omega) (hb2.keeps (by omega) (Nat.le_refl _) q1).loop rfl rfl))
   obtain ⟨r1, r2, r3⟩ := hend none W3 q1
   exact ⟨_, _, r1, .inl ⟨rfl, ⟨hIF.putObj _ q3 (by omega) r2 rfl, r3⟩, hkk _⟩⟩
  | ret =>
   obtain ⟨r1, r2, r3⟩ := hend (some .ret) W3 q1
   exact ⟨_, _, r1, .inr ⟨rfl, ⟨.ret, (hIxF _).putObj _ q3 (by omega) r2 rfl, r3⟩⟩⟩
  | exit id =>
   obtain ⟨r1, r2, r3⟩ := hend (some (.exit id)) W3 q1
   exact ⟨_, _, r1, .inr ⟨rfl, ⟨.exit id, (hIxF _).putObj _ q3 (by omega) r2 rfl, r3⟩⟩⟩
  | goto t =>
   obtain ⟨r1, r2, r3⟩ := hend (some (.goto t)) W3 q1
   exact ⟨_, _, r1, .inr ⟨rfl, ⟨.goto t, (hIxF _).putObj _ q3 (by omega) r2 rfl, r3⟩⟩⟩
  | panic ch => exact q3.elim
  | outgrown => exact q3.elim
 ·rintro e W2 ⟨⟨v, rfl⟩, (⟨xs, hS, hi, hb⟩ | ⟨pre, hSp, c, hi, hb⟩)⟩
  ·have hr := run_endLoop (P := P) hb.loop (by rw [hrec]; simp)
   rw [hrec] at hr
   exact ⟨none, _, hr, hdone d xs _ (Nat.le_refl _) hS (hIF.putObj _ hi (by omega) hb.loop rfl) ((World.putObj_heap_other (by omega)).trans hb.calls)⟩
  ·have hr := run_endLoop (P := P) hb.loop (by rw [hrec]; simp)
   rw [hrec] at hr
   exact ⟨some c, _, hr, hstop d c pre _ (Nat.le_refl _) hSp ((hIxF c).putObj _ hi (by omega) hb.loop rfl) ((World.putObj_heap_other (by omega)).trans hb.calls)⟩
end
end Go.Proofs.YtpmnnoopoblpgaaGreat

/- A list kept in a box of the caller's, appended to in the rounds of a range over a function that turns a cell of its own. No program is named. -/
namespace Go.Proofs.YtpmnnoopoblpgaaGreat
open Go Go.RowKit

theorem wpListIn_appendU {F : Fence} {n : Nat} {P : Program} {Q : Exit → Act → World → Prop} {ops : Array Oper} {rest : List Oper} {o : Oper} {a : Act} {w : World} (hg : Region.wanted o (yielded ops a.tmps) = true) (s x : Operand) (t : TypeId)
  (ho : o.op = .call { callee := .builtin .append, args := #[s, x], argTypes := #[t, t] }) {vs vx : Value} (hs : a.eval s = vs) (hx : a.eval x = vx) {v' : Value} {w' : World}
  (hr : (Builtin.append_ #[t, t] o.type #[vs, vx]).run P w = .ok v' w') (h : wpListIn F n P ops Q rest (a.put o.dst v') w') : wpListIn F n P ops Q (o :: rest) a w :=
 NextIn.append (K := wpListIn F n P ops Q rest) hg s x t ho hs hx hr h
def RwB (sb : Nat) (_ : World) (r : Nat) (o : Obj) : Prop := r = sb ∧ o.isCells = true
def BoxB {α : Type} (E : Enc α) (B0 : Nat) (T : TypeId) (base : Nat) (e : TypeId) (l : List α) (W : World) : Prop := ∃ v, Boxed W B0 T v ∧ OwnL E (fun b => base ≤ b) W base e v l
section
variable {α : Type} {E : Enc α} {B0 sb : Nat} {T e : TypeId} {base : Nat} {l : List α} {W : World}
theorem boxB_own {β : Type} (hE : Celled E) (hs : sb < base) (hsB : sb ≠ B0) (B : Nat) (f : β → List α) : OwnRowsB (RwB sb) B (fun s W => BoxB E B0 T base e (f s) W) := by
 rintro s A A' row ⟨v, hv, ho⟩ hg hr
 have hne : ∀ {k : Nat} {o : Obj}, A.heap[k]? = some o → o.isCells = true → (base ≤ k ∨ k = B0) → row ≠ some k := by
  intro k o hk hc hb er
  obtain ⟨o', ho', ⟨-, hc'⟩ | ⟨rfl, -⟩⟩ := hr k er
  ·rw [hk] at ho'; cases ho'; rw [hc] at hc'; cases hc'
  ·rcases hb with hb | hb
   ·omega
   ·exact hsB hb
 refine ⟨v, hv.kept hg (fun er => hne hv rfl (.inr rfl) er.symm), OwnL.weak ((OwnL.celled hE ho).grown hg (fun k hk => ?_) (fun b hb _ => ?_)) (fun b _ hb => hb.1)⟩
 ·obtain ⟨cur, hc⟩ := ho.rowCells k hk; exact hne hc rfl (.inl (ho.lt k hk).1)
 ·obtain ⟨o, h1, h2⟩ := hb.2; exact hne h1 h2 (.inl hb.1)
theorem belowB_own {β : Type} {w : World} {K : Nat} (hs : K ≤ sb) (B : Nat) (hB : K ≤ B) : OwnRowsB (β := β) (RwB sb) B (fun _ W => Below K w W ∧ K ≤ W.heap.size) := by
 rintro s A A' row ⟨h1, h2⟩ hg hr
 refine ⟨h1.grown hg h2 (fun k er => ?_), Nat.le_trans h2 hg.size⟩
 obtain ⟨o', -, ⟨h3, -⟩ | ⟨rfl, -⟩⟩ := hr k er <;> omega
theorem BoxB.below {W' : World} (h : BoxB E B0 T base e l W) (hb : Below W.heap.size W W') : BoxB E B0 T base e l W' := by
 obtain ⟨v, hv, ho⟩ := h
 exact ⟨v, (hb.block B0 hv.lt).trans hv, ho.call hb⟩
theorem boxB_push {P : Program} {v : Value} {W1 : World} (hv : Boxed W B0 T v) (ho : OwnL E (fun b => base ≤ b) W base e v l) (hT : T ≠ e) (hbs : base ≤ W.heap.size) (hb0 : B0 < base) (hb1 : Below W.heap.size W W1)
  {t ty : TypeId} {z : Value} {bytes : Nat} (ht : P.underlying t = some (.slice e)) (hinfo : (P.info? e).map (fun i => (i.zero, i.size, i.bytes)) = some (some z, E.size, bytes)) (hzs : z.cells.size = E.size)
  {vs : List Value} {x : α} (hR : E.R (Off (fun b => base ≤ b) v) W1 vs x) (hlen : (l.length + 1) * bytes ≤ 140737488355328) (hmax : l.length + 1 ≤ big) :
  ∃ a' cap W2, RowKit.Hid ((Builtin.append_ #[t, t] ty #[v, .slice (some ⟨W1.heap.size, 0, none⟩) 1 1]).run P (W1.alloc (.cells vs.toArray e)) = .ok (.slice a' (l.length + 1) cap) W2) ∧
   RowKit.Hid (W1.cell? ⟨B0, 0, none⟩ = some v) ∧ RowKit.Hid (W2.cell? ⟨B0, 0, none⟩ = some v) ∧ RowKit.Hid (W2.frozen? ⟨B0, 0, none⟩ = false) ∧
   RowKit.Hid (BoxB E B0 T base e (l ++ [x]) (W2.setCell ⟨B0, 0, none⟩ (.slice a' (l.length + 1) cap))) ∧ RowKit.Hid (KeepsOthers W (W2.setCell ⟨B0, 0, none⟩ (.slice a' (l.length + 1) cap))) ∧
   RowKit.Hid (∀ b, b < base → b ≠ B0 → (W2.setCell ⟨B0, 0, none⟩ (.slice a' (l.length + 1) cap)).heap[b]? = W.heap[b]?) ∧ RowKit.Hid (∀ B, B ≤ B0 → Below B W (W2.setCell ⟨B0, 0, none⟩ (.slice a' (l.length + 1) cap))) := by
 have ho1 := ho.call hb1
 have hv1 : Boxed W1 B0 T v := (hb1.block B0 hv.lt).trans hv
 obtain ⟨v', W2, hrun, ho2, hg, hat⟩ := ho1.push (P := P) (t := t) (ty := ty) ht hinfo hzs hR hlen hmax (Nat.le_trans hbs hb1.size)
 obtain ⟨a', cap, rfl, -⟩ := ho2.sl
 rw [List.length_append, List.length_singleton] at hrun ho2 hat
 have hv2 : Boxed W2 B0 T v := hv1.kept hg (fun e => ho1.notBox hv1 hT e.symm)
 have hg3 : W2.grownBy (W2.setCell ⟨B0, 0, none⟩ (.slice a' (l.length + 1) cap)) (some B0) := grownBy_setCell' _ _ _
 have ho3 := ho2.grown hg3 (fun k hk e => by cases e; exact ho2.notBox hv2 hT hk) (fun b hb _ e => by cases e; exact absurd hb (by omega))
 have hv3 : Boxed (W2.setCell ⟨B0, 0, none⟩ (.slice a' (l.length + 1) cap)) B0 T (.slice a' (l.length + 1) cap) := hv2.set _
 have hsz : W.heap.size ≤ W2.heap.size := Nat.le_trans hb1.size hg.size
 refine ⟨a', cap, W2, Lib.hid hrun, Lib.hid hv1.cell, Lib.hid hv2.cell, Lib.hid hv2.frozen, Lib.hid ⟨_, hv3, ho3⟩, Lib.hid ?_, Lib.hid ?_, Lib.hid ?_⟩
 ·refine (KeepsOthers.of_grownBy (row := none) (Below.grow hb1) (fun j o e => by cases e)).trans ((KeepsOthers.of_grownBy hg (fun j o e ho => ?_)).trans (KeepsOthers.setCell _ _ _))
  obtain ⟨cur, hc⟩ := ho1.rowCells j e
  rw [hc] at ho; cases ho; rfl
 ·intro b hb hne
  have hbl : b < W.heap.size := Nat.lt_of_lt_of_le hb hbs
  exact (hg3.block b (Nat.lt_of_lt_of_le hbl hsz) (fun e => hne (by cases e; rfl))).trans ((hg.block b (Nat.lt_of_lt_of_le hbl hb1.size) (fun er => by have := (ho1.lt b er.symm).1; omega)).trans (hb1.block b hbl))
 ·intro B hB
  exact ((hb1.mono (by omega)).grown hg (by have := hb1.size; omega) (fun k e => by have := (ho1.lt k e).1; omega)).grown hg3 (by omega) (fun k e => by cases e; exact hB)
end
end Go.Proofs.YtpmnnoopoblpgaaGreat

/- The least circle, as the reference finds it by marks. No program is named. -/
namespace Go.Proofs.YtpmnnoopoblpgaaGreat

structure CiOn (l : List Ent) (first now : ByteArray) (out : List ByteArray) : Prop where
 nd : out.Nodup
 sub : ∀ x ∈ out, (atN l x).isSome = true
 rch : Rch (usesN l) (fun x => freeB first out x = true) now first
 acc : ∀ C, CircS l first out now C → CircS l first [first] first C
 fo : first ∈ out
theorem CiOn.start {l : List Ent} {x : ByteArray} (h : loopB l x = true) (hx : (atN l x).isSome = true) : CiOn l x x [x] :=
 ⟨by simp, fun y hy => by rw [List.mem_singleton] at hy; rw [hy]; exact hx, loop_start h, fun _ h => h, by simp⟩
theorem cand_in {l : List Ent} {first : ByteArray} {out : List ByteArray} {u : ByteArray} (h : candB l first out u = true) : (atN l u).isSome = true := by
 unfold candB at h
 rw [Bool.and_eq_true, Bool.and_eq_true, rchB_iff] at h
 have hin : ∀ m v, v ∈ usesN l m → (atN l m).isSome = true := fun m v hv => by
  unfold usesN at hv
  cases hat : atN l m with
  | none => rw [hat] at hv; cases hv
  | some k => rfl
 obtain ⟨v, hv, -⟩ := h.2.2.head
 exact hin u v hv
theorem CiOn.step {l : List Ent} {first now nx : ByteArray} {out : List ByteArray} (h : CiOn l first now out) (hno : first ∉ usesN l now) (hu : nx ∈ usesN l now) (hc : candB l first out nx = true) (hl : ∀ u ∈ usesN l now, candB l first out u = true → u = nx ∨ ltN nx u) : CiOn l first nx (out ++ [nx]) := by
 have hcn := hc
 unfold candB freeB at hcn
 rw [Bool.and_eq_true, Bool.and_eq_true, Bool.or_eq_true] at hcn
 have hni : nx ∉ out := fun hm => by
  rcases hcn.2.1 with e | e
  ·simp only [decide_eq_true_eq] at e; rw [e] at hcn; simp at hcn
  ·rw [Bool.and_eq_true, memB_iff.2 hm] at e; simp at e
 refine ⟨?_, fun x hx => ?_, cand_on hc, fun C hC => h.acc C (.step hno hu hc hl hC), List.mem_append_left _ h.fo⟩
 ·rw [List.nodup_append]
  exact ⟨h.nd, by simp, fun a ha b hb e => hni (by rw [List.mem_singleton] at hb; rw [← hb, ← e]; exact ha)⟩
 ·rcases List.mem_append.1 hx with e | e
  ·exact h.sub x e
  ·rw [List.mem_singleton] at e; rw [e]; exact cand_in hc
theorem CiOn.size {l : List Ent} {first now : ByteArray} {out : List ByteArray} (h : CiOn l first now out) : out.length ≤ l.length := by
 have := nodupLe (m := l.map eNm) h.nd (fun x hx => by
  have := h.sub x hx
  cases hat : atN l x with
  | none => rw [hat] at this; cases this
  | some k =>
   obtain ⟨hk, e⟩ := atN_some hat
   rw [← e]; exact List.mem_map.2 ⟨l[k], List.getElem_mem hk, rfl⟩)
 rwa [List.length_map] at this
end Go.Proofs.YtpmnnoopoblpgaaGreat

/- The least by name among those of a kind, come to step by step. No program is named. -/
namespace Go.Proofs.YtpmnnoopoblpgaaGreat

inductive LstR (l : List Ent) (p : Nat → Bool) (k : Nat) : Int → Prop
 | no : (∀ j, j < k → p j = false) → LstR l p k (-1)
 | yes (q : Nat) : q < k → p q = true → (∀ j, j < k → p j = true → ¬ ltN (nmI l j) (nmI l q)) → LstR l p k (q : Int)
section
variable {l : List Ent} {p : Nat → Bool} {k q : Nat}
theorem LstR.start : LstR l p 0 (-1) := .no fun j hj => by omega
theorem LstR.skip {v : Int} (h : LstR l p k v) (hp : p k = false) : LstR l p (k + 1) v := by
 have hl : ∀ j, j < k + 1 → j < k ∨ j = k := fun j hj => by omega
 cases h with
 | no h => exact .no fun j hj => (hl j hj).elim (h j) (fun e => by rw [e]; exact hp)
 | yes q h1 h2 h3 =>
  refine .yes q (by omega) h2 fun j hj hpj => (hl j hj).elim (fun h => h3 j h hpj) (fun e => ?_)
  rw [e, hp] at hpj; cases hpj
theorem LstR.first (h : LstR l p k (-1)) (hp : p k = true) : LstR l p (k + 1) (k : Int) := by
 generalize hv : (-1 : Int) = v at h
 cases h with
 | no h =>
  refine .yes k (by omega) hp fun j hj hpj => ?_
  rcases Nat.lt_or_ge j k with e | e
  ·rw [h j e] at hpj; cases hpj
  ·have : j = k := by omega
   rw [this]; exact ltN_irr _
 | yes q _ _ _ => omega
theorem LstR.open (h : LstR l p k (q : Int)) : q < k ∧ p q = true ∧ ∀ j, j < k → p j = true → ¬ ltN (nmI l j) (nmI l q) := by
 generalize hv : (q : Int) = v at h
 cases h with
 | no h => omega
 | yes q' h1 h2 h3 =>
  have : q = q' := by omega
  subst this
  exact ⟨h1, h2, h3⟩
theorem LstR.less (h : LstR l p k (q : Int)) (hp : p k = true) (hl : ltB (nmI l k) (nmI l q) = true) : LstR l p (k + 1) (k : Int) := by
 obtain ⟨h1, h2, h3⟩ := h.open
 refine .yes k (by omega) hp fun j hj hpj hlt => ?_
 rcases Nat.lt_or_ge j k with e | e
 ·exact h3 j e hpj (ltN_tr _ _ _ hlt (ltB_iff.1 hl))
 ·have : j = k := by omega
  rw [this] at hlt; exact ltN_irr _ hlt
theorem LstR.keep (h : LstR l p k (q : Int)) (hl : ltB (nmI l k) (nmI l q) = false) : LstR l p (k + 1) (q : Int) := by
 obtain ⟨h1, h2, h3⟩ := h.open
 refine .yes q (by omega) h2 fun j hj hpj hlt => ?_
 rcases Nat.lt_or_ge j k with e | e
 ·exact h3 j e hpj hlt
 ·have : j = k := by omega
  rw [this] at hlt
  rw [ltB_iff.2 hlt] at hl; cases hl
theorem LstR.cases {v : Int} (h : LstR l p k v) : v = -1 ∨ ∃ q : Nat, v = (q : Int) ∧ q < k := by
 cases h with
 | no _ => exact .inl rfl
 | yes q h1 _ _ => exact .inr ⟨q, rfl, h1⟩
end
def ShR (l : List Ent) (sh : List Bool) (i n : Nat) : Prop := sh.length = l.length ∧ ∀ k, k < n → k < l.length → sh.getD k false = !ltB (nmI l i) (nmI l k)
theorem ShR.step {l : List Ent} {sh : List Bool} {i n : Nat} (h : ShR l sh i n) (hn : n < l.length) : ShR l (sh.set n (!ltB (nmI l i) (nmI l n))) i (n + 1) := by
 refine ⟨by rw [List.length_set]; exact h.1, fun k hk hkl => ?_⟩
 by_cases e : k = n
 ·subst e; rw [List.getD_eq_getElem?_getD, List.getElem?_set_self (by rw [h.1]; exact hkl)]; rfl
 ·rw [List.getD_eq_getElem?_getD, List.getElem?_set_ne (fun e' => e e'.symm), ← List.getD_eq_getElem?_getD]; exact h.2 k (by omega) hkl
def ShO (l : List Ent) (sh : List Bool) (first : ByteArray) (out : List ByteArray) : Prop := sh.length = l.length ∧ ∀ k, k < l.length → sh.getD k false = !(ltB first (nmI l k) && !memB out (nmI l k))
theorem ShO.next {l : List Ent} {sh : List Bool} {first : ByteArray} {out : List ByteArray} (hd : (l.map eNm).Nodup) (h : ShO l sh first out) {q : Nat} (hq : q < l.length) : ShO l (sh.set q true) first (out ++ [nmI l q]) := by
 refine ⟨by rw [List.length_set]; exact h.1, fun k hk => ?_⟩
 have hm : memB (out ++ [nmI l q]) (nmI l k) = (memB out (nmI l k) || decide (nmI l q = nmI l k)) := by unfold memB; rw [List.any_append]; simp
 by_cases e : k = q
 ·subst e
  rw [List.getD_eq_getElem?_getD, List.getElem?_set_self (by rw [h.1]; exact hk), hm]
  simp
 ·rw [List.getD_eq_getElem?_getD, List.getElem?_set_ne (fun e' => e e'.symm), ← List.getD_eq_getElem?_getD, h.2 k hk, hm]
  have : decide (nmI l q = nmI l k) = false := decide_eq_false fun e' => e (by
   have h1 := atN_nmI hd hq
   have h2 := atN_nmI hd hk
   rw [e'] at h1
   rw [h1] at h2
   injection h2 with h2; exact h2.symm)
  rw [this, Bool.or_false]
end Go.Proofs.YtpmnnoopoblpgaaGreat

/- Walks: slices.Sorted(slices.Values(l)) of a list of names. -/
namespace Go.Proofs.YtpmnnoopoblpgaaGreat
open Go Go.RowKit Go.Maps Go.Sort Go.Shelf

attribute [local go_sem] Oper.semAt_some

def KpV (K : Nat) (W W' : World) : Prop := ∀ b, b < K → W'.heap[b]? = W.heap[b]?
theorem KpV.trans {K : Nat} {A B C : World} (h : KpV K A B) (k : KpV K B C) : KpV K A C := fun b hb => (k b hb).trans (h b hb)
theorem KpV.cell {K : Nat} {A B : World} (h : KpV K A B) {b o : Nat} (hb : b < K) : B.cell? ⟨b, o, none⟩ = A.cell? ⟨b, o, none⟩ := by
 have := h b hb
 unfold World.cell?
 simp only [this]
theorem KpV.of_below {K : Nat} {A B : World} (h : Below K A B) : KpV K A B := fun b hb => h.block b hb
set_option maxRecDepth 100000 in
set_option maxHeartbeats 4000000 in
theorem valS1_in (n l pb N K : Nat) {S : Nat → Prop} {a : Option Addr} {c : Nat} {xs : List ByteArray} (J Jx : List ByteArray → World → Prop)
  (hY : ∀ q pre x W, J pre W → x.size ≤ big → pre.length < N → YieldAt Fence.wide q Tryz.prog l #[.string x] W fun e W' => (e = .returned (.bool true) ∧ J (pre ++ [x]) W' ∧ KpV K W W') ∨ (e = .returned (.bool false) ∧ Jx (pre ++ [x]) W'))
  (W : World) (hN : xs.length ≤ N) (hx : Sl strE S W a c xs) (hS : ∀ b, S b → b < K) (hp : W.cell? ⟨pb, 0, none⟩ = some (.slice a xs.length c)) (hJ : J [] W) :
  CallsIn Fence.wide n Tryz.prog 188 #[.func (.yield l) #[] #[], .pointer (some ⟨pb, 0, none⟩)] W fun e W' => (∃ v, e = .returned v) ∧
   ((∃ ys : List ByteArray, ys = xs ∧ J ys W') ∨ (∃ pre, True ∧ Jx pre W')) := by
 have hro : Fence.wide.round = none := rfl
 have m := hx.le
 have hxH := Lib.hid hx
 have hSH := Lib.hid hS
 have hYH := Lib.hid hY
 have hJH := Lib.hid hJ
 clear hx hS hY hJ
 refine callsIn_of_wp Tryz.func188 rfl trivial ?_ hro
 simp only [Tryz.ntmps188, List.size_toArray, List.length_cons, List.length_nil, Nat.reduceAdd, Nat.reduceSub, Array.replicate_succ, Array.replicate_zero, List.push_toArray, List.append_toArray, List.nil_append, List.cons_append]
 gi_wp2_with fail
 gi_loopw [7] (fun i wr => ∃ k : Nat, i = .int .i64 k ∧ k ≤ xs.length ∧ J (xs.take k) wr ∧ KpV K W wr) (fun i _ => xs.length - (intOf i).toNat)
 case atStart => exact ⟨0, rfl, Nat.zero_le _, hJH.out, fun b _ => rfl⟩
 case round =>
  obtain ⟨k, rfl, hk, hR, hK⟩ := hrel
  by_cases hlt : k < xs.length
  ·obtain ⟨b, o, rfl, hb, q, hz⟩ := hxH.out.str k hlt
   rw [← hK.cell (hSH.out b hb)] at q
   obtain ⟨x, hxx⟩ : ∃ x, xs[k] = x := ⟨_, rfl⟩
   have ht : xs.take k ++ [x] = xs.take (k + 1) := by rw [← hxx, List.take_succ_eq_append_getElem hlt]
   obtain ⟨fn, tmps, assign, body, hy, hRR⟩ := hYH.out (n - 1) (xs.take k) xs[k] wr hR hz (by rw [List.length_take]; omega)
   rw [hxx] at q hz hy hRR
   rw [ht] at hRR
   have hKH := Lib.hid hK
   have htH := Lib.hid ht
   clear hR hK ht hxx
   gi_wp2_with fail
   refine ⟨fun h => (by cases h), ?_⟩
   refine hRR.mono ?_
   clear hRR hy
   rintro e W3 (⟨rfl, hJ3, hk3⟩ | ⟨rfl, hJx⟩)
   ·have hfin := Lib.hid (⟨k + 1, by simp, hlt, hJ3, hKH.out.trans hk3⟩ : ∃ k' : Nat, (Value.int .i64 ((k : Int) + 1)) = .int .i64 k' ∧ k' ≤ xs.length ∧ J (xs.take k') W3 ∧ KpV K W W3)
    clear hJ3 hk3
    gi_wp2_with fail
    go_roundw
    case rel => exact hfin.out
    case measure => simp [intOf]; omega
   ·gi_wp2_with fail
    refine bodyPost_ret (results_none rfl _ _ _) rfl ?_
    exact ⟨⟨_, rfl⟩, .inr ⟨_, trivial, hJx⟩⟩
  ·have hkk : ((k : Int) < (xs.length : Int)) = False := eq_false (by omega)
   rw [List.take_of_length_le (by omega)] at hR
   have hRH := Lib.hid hR
   clear hR hK hlt hk
   gi_wp2_with fail
   go_end0
   exact ⟨⟨_, rfl⟩, .inl ⟨_, rfl, hRH.out⟩⟩
theorem valS_seq (n pb N : Nat) {S : Nat → Prop} {a : Option Addr} {c : Nat} {xs : List ByteArray} (w : World) (hN : xs.length ≤ N) (hpb : pb < w.heap.size) (hx : Sl strE S w a c xs) (hS : ∀ b, S b → b < w.heap.size) (hp : w.cell? ⟨pb, 0, none⟩ = some (.slice a xs.length c)) :
  SeqRelB Fence.wide n Tryz.prog 188 #[.pointer (some ⟨pb, 0, none⟩)] (fun x : ByteArray => #[.string x]) (fun x _ => x.size ≤ big) (KpV w.heap.size) (fun _ _ _ => False) (fun ys => ys = xs) (fun _ => True) N w := fun l J Jx W hW hJ _ hY h0 => by
 exact valS1_in n l pb N w.heap.size J Jx (fun q pre x A h1 h2 h3 => YieldAt.wideAny q (hY pre x A h1 h2 h3)) W hN (hx.below hW) hS ((hW.cell (p := ⟨pb, 0, none⟩) hpb).trans hp) h0
theorem valS_call (a : Option Addr) (k c : Nat) (W : World) : Calls Tryz.prog 159 #[.slice a k c] W fun e w' => e = .returned (.func (.func 188) #[] #[.pointer (some ⟨W.heap.size, 0, none⟩)]) ∧ w' = W.alloc (.cells #[.slice a k c] 29) := by
 go_enter Tryz.func159, Tryz.ntmps159
 go_wp2_with fail
 go_ret
 exact ⟨rfl, rfl⟩
theorem OwnL.anyN {S S' : Nat → Prop} {w : World} {base : Nat} {e : TypeId} {v : Value} {l : List ByteArray} (h : OwnL strE S w base e v l) : OwnL strE S' w base e v l := by
 obtain ⟨xs, ho, hl, hx⟩ := h
 exact ⟨xs, ho, hl, fun i h1 h2 => hx i h1 h2⟩
theorem celled_str : Celled strE := fun _ _ _ _ h => h
theorem OwnRowsB.nar {β : Type} {Rw : World → Nat → Obj → Prop} {B : Nat} {I : β → World → Prop} (h : OwnRowsB Rw B I) : OwnRowsB (fun _ _ _ => False) B I := fun s W W' row hs hg hr =>
 h s W W' row hs hg (fun r e => by obtain ⟨o, g2, g3⟩ := hr r e; exact ⟨o, g2, .inl (g3.elim id False.elim)⟩)
def ApOut (w : World) (xs : List ByteArray) (e : Ending) (w' : World) : Prop := ∃ v, e = .returned v ∧ OwnS w' w.heap.size v xs ∧ Below w.heap.size w w'
set_option maxRecDepth 100000 in
set_option maxHeartbeats 4000000 in
theorem apV_any {S : Nat → Prop} {a : Option Addr} {c : Nat} {xs : List ByteArray} (w : World) (hm : xs.length ≤ 1000000) (pb : Nat) (hpb : pb < w.heap.size) (hx : Sl strE S w a c xs) (hS : ∀ b, S b → b < w.heap.size) (hp : w.cell? ⟨pb, 0, none⟩ = some (.slice a xs.length c)) :
  Calls Tryz.prog 212 #[.slice none 0 0, .func (.func 188) #[] #[.pointer (some ⟨pb, 0, none⟩)]] w (ApOut w xs) := by
 refine (callsIn_wide (n := 6)).1 ?_
 refine callsIn_of_wp_marks Tryz.func212 rfl trivial ?_ rfl
 simp only [Tryz.ntmps212, List.size_toArray, List.length_cons, List.length_nil, Nat.reduceAdd, Nat.reduceSub, Array.replicate_succ, Array.replicate_zero, List.push_toArray, List.append_toArray, List.nil_append, List.cons_append]
 obtain ⟨W0, hW0⟩ : ∃ W0, w.alloc (.cells #[.slice none 0 0] 29) = W0 := ⟨_, rfl⟩
 have hz0 : W0.heap.size = w.heap.size + 1 := by rw [← hW0]; simp
 have hbW : Below w.heap.size w W0 := by rw [← hW0]; exact below1 _ _
 have hv0 : Boxed W0 w.heap.size 29 (.slice none 0 0) := by rw [← hW0]; exact Boxed.new w _ _
 have hseq := valS_seq (6 - 1) pb (xs.length) w (Nat.le_refl _) hpb hx hS hp
 have hbx : BoxB strE w.heap.size 29 W0.heap.size 9 ([] : List ByteArray) W0 := ⟨_, hv0, .nil _ _ _ _ _⟩
 have hbxH := Lib.hid hbx
 have hbWH := Lib.hid hbW
 have hmH := Lib.hid hm
 have hw0 : w.heap.size ≠ 0 := by omega
 have hpbH := Lib.hid hpb
 clear hbx hbW hv0 hx hS hp hm hpb
 gi_wp2_with fail
 refine range_relB rfl (by omega) (gf := 188) (lb := #[.pointer (some ⟨pb, 0, none⟩)]) rfl trivial (enters_of Tryz.func188 (by kernel_rfl) rfl)
  hseq (fun W r o h => h.elim) (fun h k => h.trans k) (fun W l o o' hl h hc _ b hb => World.putObj_heap_other (by omega)) hbWH.out (fun _ => rfl)
  (fun pre W => BoxB strE w.heap.size 29 W0.heap.size 9 pre W ∧ (Below w.heap.size w W ∧ w.heap.size ≤ W.heap.size) ∧ W0.heap.size ≤ W.heap.size)
  (fun _ _ _ => False)
  ?hI (fun _ _ _ _ _ hs _ _ => hs) ?h0
  (fun x a' _ => a' = { tmps := #[.slice none 0 0, .func (.func 188) #[] #[.pointer (some ⟨pb, 0, none⟩)], .pointer (some ⟨w.heap.size, 0, none⟩), undef, .slice none 0 0, .string x, .func (.func 188) #[] #[.pointer (some ⟨pb, 0, none⟩)], .string x, undef, undef, undef, undef, undef], defers := [] } ∧ x.size ≤ big)
  (fun x a' => ownFrom_pure _ (fun _ => _)) ?assign ?body ?done ?stop
 case h0 => exact ⟨hbxH.out, ⟨hbWH.out, hbWH.out.size⟩, Nat.le_refl _⟩
 case hI => exact OwnRowsB.and (boxB_own (sb := 0) celled_str (by omega) (by omega) _ _).nar (OwnRowsB.and (belowB_own (K := w.heap.size) (sb := w.heap.size) (by omega) _ (by omega)).nar (fun s A A' row h hg _ => Nat.le_trans h hg.size))
 case assign =>
  intro l pre x W K hi hr hK
  dsimp only
  gi_wp2
  exact hK _ _ (KeepsFrom.refl _ _) (fun b _ => rfl) hi ⟨rfl, hr⟩
 case body =>
  rintro l pre x a' W - - ⟨⟨vv, hv, ho⟩, ⟨hB, hB1⟩, hB2⟩ ⟨rfl, hx⟩ hlen
  have hzz := hmH.out
  have hpu := boxB_push (P := Tryz.prog) (W1 := W) (t := 29) (ty := 29) (x := x) (vs := [.string x]) hv ho (by decide) hB2 (by omega) (Below.refl _ _) Tryz.underlying29 infoStr rfl ⟨rfl, hx⟩ (by omega) (by unfold big; omega)
  obtain ⟨a5, cap5, W5, r5, z5, q5, f5, s5, k5, l5, b5⟩ := hpu
  have z5 := z5.out
  have q5 := q5.out
  have f5 := f5.out
  have r5 := r5.out
  have hBH := Lib.hid hB
  clear hB hv ho
  gi_wp2_with (gi_at_builtin; refine wpListIn_appendU rfl (.tmp 8) (.tmp 10) 29 rfl rfl rfl r5 ?_)
  have hl5 := l5.out
  refine ⟨k5.out.from _, fun b hb => hl5 b (by omega) (by omega), s5.out, ⟨hBH.out.trans ((b5.out _ (Nat.le_refl _))), ?_⟩, ?_⟩
  ·exact Nat.le_trans hB1 (b5.out _ (Nat.le_refl _)).size
  ·exact Nat.le_trans hB2 (b5.out _ (Nat.le_refl _)).size
 case done =>
  rintro D ys W hD rfl ⟨⟨vv, hv, ho⟩, ⟨hB, hB1⟩, hB2⟩ hK
  have hc := hv.cell
  have hKH := Lib.hid hK
  have hoH := Lib.hid ho
  clear hK ho hv
  gi_wp2_with fail
  refine ⟨by simp, .inl ⟨_, _, rfl, run_takeDeferred hKH.out, ?_⟩⟩
  refine ⟨_, results_tmp rfl _ _ _, _, rfl, ?_, hB.trans (belowK_b (w := w) (Nat.le_refl _) W D _ _ (by omega) hKH.out rfl rfl)⟩
  exact OwnL.anyN (OwnL.baseMono (OwnL.putObj hoH.out hKH.out rfl celled_str) (by omega))
 case stop => rintro D c pre W - - h -; exact h.elim
end Go.Proofs.YtpmnnoopoblpgaaGreat

/- Walks: circle where there is none; whole, Sound there. -/
namespace Go.Proofs.YtpmnnoopoblpgaaGreat
open Go Go.RowKit Go.Maps Go.Shelf

theorem bytesLess_ltB (x y : ByteArray) : Op.bytesLess x.toList y.toList = ltB x y := by
 unfold ltB
 rw [ByteArray.toList_eq, ByteArray.toList_eq, bytesLess_eq]
theorem circ1_fn {B b : Nat} {w : World} {first : ByteArray} (hb : b < B) (hc : w.cell? ⟨b, 0, none⟩ = some (.string first)) : MayFn 158 #[.pointer (some ⟨b, 0, none⟩)] (geB first) B w := by
 refine ⟨enters_of Tryz.func158 (by kernel_rfl) rfl, fun x hx W hB => ?_⟩
 have q := (hB.cell (p := ⟨b, 0, none⟩) hb).trans hc
 have hg : geB first x = !Op.bytesLess x.toList first.toList := by rw [bytesLess_ltB]; rfl
 have hgH := Lib.hid hg
 clear hc hB hg
 go_enter Tryz.func158, Tryz.ntmps158
 go_wp2_with fail
 go_ret
 exact ⟨ret_bool hgH.out.symm, .refl _ _⟩
theorem keysI_sorted {B xb : Nat} {w : World} {s : Sg} {l : List Ent} {sa : Option Addr} {sc : Nat} {la : Option Addr} {lc bm : Nat} (h : DOp B w xb s l sa sc la lc bm) :
  Calls Tryz.prog 138 #[.func (.func 187) #[] #[.pointer (some ⟨w.heap.size, 0, none⟩)]] (w.alloc (.cells #[.map (some bm)] 68)) (SortedOut w (fun x => (atN l x).isSome)) := by
 obtain ⟨n, hn, D, ho, ht, hs, hf⟩ := h.hM
 have c2 := sortedOf ho (by rw [hs]; omega) (keysI_seq ho) (enters_of Tryz.func187 (by kernel_rfl) rfl)
 have e : (fun x : ByteArray => has D (.string (bs x))) = fun x => (atN l x).isSome := funext fun x => by
  have := (hf x).1
  unfold atV at this
  rw [Option.isSome_map] at this
  exact this
 rw [e] at c2
 exact c2
theorem keepS2 {K : Nat} {w w1 w2 : World} {p1 p2 : Addr} {v1 v2 : Value} (h : Below w.heap.size w w1 ∧ w1.cell? p1 = some v1 ∧ w1.cell? p2 = some v2) (hb : Below K w1 w2) (hK : K = w1.heap.size) :
  Below w.heap.size w w2 ∧ w2.cell? p1 = some v1 ∧ w2.cell? p2 = some v2 := by
 subst hK
 exact ⟨bcall h.1 hb, cell_later hb h.2.1, cell_later hb h.2.2⟩
def noLoop (l : List Ent) : Prop := ∀ x, (atN l x).isSome = true → loopB l x = false
def ciRel (w1 : World) (L : List ByteArray) (i : Value) (wr : World) : Prop := ∃ k : Nat, i = .int .i64 k ∧ k ≤ L.length ∧ Below w1.heap.size w1 wr
set_option maxHeartbeats 4000000 in
theorem circleNo_any {B xb : Nat} {w : World} {s : Sg} {l : List Ent} (h : DLib B w xb s l) (hno : noLoop l) : Calls Tryz.prog 114 #[.pointer (some ⟨xb, 0, none⟩)] w fun e w' => e = .returned (.slice none 0 0) ∧ Below w.heap.size w w' := by
 obtain ⟨W, hW⟩ : ∃ W, w.alloc (.cells #[.pointer (some ⟨xb, 0, none⟩)] 61) = W := ⟨_, rfl⟩
 have hBW : Below w.heap.size w W := by rw [← hW]; exact below1 w _
 have q0 : W.cell? ⟨w.heap.size, 0, none⟩ = some (.pointer (some ⟨xb, 0, none⟩)) := by rw [← hW]; clear hW; go_simp
 have hDW := h.call hBW
 obtain ⟨sa, sc, la, lc, bm, hO⟩ := hDW.op
 have q2 := hO.q2
 have c1 := keysI_call (some bm) W
 have c2 := keysI_sorted hO
 have c1H := Lib.hid c1
 have c2H := Lib.hid c2
 have hDH := Lib.hid hDW
 have hnoH := Lib.hid hno
 have hBWH := Lib.hid hBW
 clear c1 c2 hO hDW h hno
 go_enter Tryz.func114, Tryz.ntmps114
 go_wp2_with fail
 try rw [hW]
 refine c1H.out.mono ?_
 rintro e w1 ⟨rfl, rfl⟩
 go_wp2_with fail
 refine c2H.out.mono ?_
 rintro e w2 ⟨v, L, rfl, hL, -, hmem, hb2⟩
 obtain ⟨aL, cL, rfl, hLs⟩ := OwnS.strs hL
 have mL := hLs.le
 have hLH := Lib.hid hLs
 have hmH := Lib.hid hmem
 have hb2H := Lib.hid hb2
 have p0 := cell_later hb2 q0
 clear hL hmem hb2 hLs q0 q2 hBW
 clear hW
 go_wp2_with fail
 go_loopw [18] (fun i wr => ciRel w2 L i wr) (fun i _ => L.length - (intOf i).toNat)
 case atStart => exact ⟨0, rfl, Nat.zero_le _, .refl _ _⟩
 case round =>
  obtain ⟨k, rfl, hk, hB⟩ := hrel
  by_cases hlt : k < L.length
  ·obtain ⟨bL, oL, rfl, -, qL, hz⟩ := (hLH.out.below hB).str k hlt
   have hlo := hnoH.out L[k] ((hmH.out _).1 (List.getElem_mem hlt))
   obtain ⟨first, hfst⟩ : ∃ first, L[k] = first := ⟨_, rfl⟩
   rw [hfst] at qL hz hlo
   obtain ⟨W3, hW3⟩ : ∃ W3, wr.alloc (.cells #[.string first] 9) = W3 := ⟨_, rfl⟩
   have hB3 : Below wr.heap.size wr W3 := by rw [← hW3]; exact below1 wr _
   have r4 : W3.cell? ⟨wr.heap.size, 0, none⟩ = some (.string first) := by rw [← hW3]; clear hW3; go_simp
   have r1 := cell_later hB3 (cell_later hB p0)
   have hBall := bcall hB hB3
   have hwr : wr.heap.size < W3.heap.size := by rw [← hW3]; simp
   have hDr := hDH.out.call (hb2H.out.trans (hBall.mono hb2H.out.size))
   have hbd : Below W3.heap.size W3 W3.drew := Below.drew (.refl W3.heap.size _)
   have vr : ∀ Wc, Below W3.heap.size W3 Wc → Calls Tryz.prog 152 #[.pointer (some ⟨xb, 0, none⟩), .string first, .func (.func 158) #[] #[.pointer (some ⟨wr.heap.size, 0, none⟩)]] Wc fun e w' => ∃ ob, e = .returned (.map (some ob)) ∧ (∀ W', Below w'.heap.size w' W' → (Instr.lookup 88 (.map (some ob)) (.string first) false).run Tryz.prog W' = .ok (.bool false) W') ∧ Below Wc.heap.size Wc w' := fun Wc hc => by
    refine (reached_any (hDr.call hc) (circ1_fn (by have := hc.size; omega) (cell_later hc r4)) first hz).mono ?_
    rintro e w' ⟨ob, m, rfl, h1, h2, h3, h4⟩
    refine ⟨ob, rfl, fun W' hb' => ?_, h4⟩
    have := (h3.below hb' h3.lt).look (tm := 88) Tryz.underlying88 Tryz.underlying9 Tryz.underlying4 (zBool W') first (big_max hz)
    rw [show rchB l (geB first) first first = false from hlo] at this
    exact this
   have hk0 : Below W3.heap.size W3 W3.drew ∧ W3.drew.cell? ⟨w.heap.size, 0, none⟩ = some (.pointer (some ⟨xb, 0, none⟩)) ∧ W3.drew.cell? ⟨wr.heap.size, 0, none⟩ = some (.string first) := ⟨hbd, cell_later hbd r1, cell_later hbd r4⟩
   have vrH := Lib.hid vr
   have hBaH := Lib.hid hBall
   have hWH := Lib.hid hW3
   clear vr hBall hDr hbd hB hB3 hlo hfst hwr r1 r4 hW3
   go_wp2_with fail
   rw [hWH.out]
   go_region_held3 (fun w' => Below W3.heap.size W3 w' ∧ w'.cell? ⟨w.heap.size, 0, none⟩ = some (.pointer (some ⟨xb, 0, none⟩)) ∧ w'.cell? ⟨wr.heap.size, 0, none⟩ = some (.string first))
    ((first | exact hk0 | exact keepS2 ‹_› hb4 rfl))
    ((go_at_call 152; (with_reducible refine (vrH.out _ ?_).mono ?_); exact (And.left ‹_›); rintro e w4 ⟨ob, rfl, hlkF, hb4⟩; have hlk := hlkF w4 (.refl _ _)))
   have hB4 := And.left (‹Below W3.heap.size W3 w4 ∧ _›)
   have hfin := Lib.hid (show ciRel w2 L (.int .i64 ((k : Int) + 1)) w4 from ⟨k + 1, by simp, hlt, bcall hBaH.out hB4⟩)
   clear hB4
   go_wp2_with fail
   go_roundw
   case rel => exact hfin.out
   case measure => simp [intOf]; omega
  ·have hkk : ((k : Int) < (L.length : Int)) = False := eq_false (by omega)
   have hfin := Lib.hid (hBWH.out.trans (hb2H.out.trans (hB.mono hb2H.out.size) |>.mono hBWH.out.size))
   clear hB hlt hk
   go_wp2_with fail
   go_ret
   exact ⟨rfl, hfin.out⟩
end Go.Proofs.YtpmnnoopoblpgaaGreat

/- Walks: whole, Sound. -/
namespace Go.Proofs.YtpmnnoopoblpgaaGreat
open Go Go.RowKit Go.Maps Go.Shelf

open Classical in
noncomputable def noneB (f : ByteArray → Bool) : Bool := decide (∀ x, f x = false)
theorem SMap.none {w : World} {b M n : Nat} {f : ByteArray → Bool} (h : SSet w b M n f) : (((n : Nat) : Int) == 0) = noneB f := by
 obtain ⟨D, ho, ht, hs, hf⟩ := h
 obtain ⟨hnd, hmem⟩ := strKeys_set ho (string_keyed Tryz.underlying9) Tryz.underlying9
 obtain ⟨es, rfl, _⟩ := ht
 rw [Bool.eq_iff_iff, beq_iff_eq]
 unfold noneB
 simp only [decide_eq_true_eq]
 have hlen : (strKeys (.map es : DataW Unit)).length = n := by rw [← hs]; simp [strKeys, Maps.size]
 constructor
 ·intro e x
  have : strKeys (.map es : DataW Unit) = [] := List.length_eq_zero_iff.1 (by omega)
  cases hx : f x with
  | false => rfl
  | true =>
   rw [← (hf x).1] at hx
   have := (hmem _).2 hx
   simp_all
 ·intro hall
  cases hk : strKeys (.map es : DataW Unit) with
  | nil => rw [hk] at hlen; simp at hlen; omega
  | cons y r =>
   have h1 := (hmem y).1 (by rw [hk]; simp)
   have h2 := (hf (nmOf y)).1
   have h3 : (nmOf y).data.toList = y := bs_nmOf y
   rw [h3, hall] at h2
   rw [h1] at h2
   cases h2
def CircNil (xb : Nat) (b : Bool) (w : World) : Prop := ∀ W, Below w.heap.size w W → Calls Tryz.prog 114 #[.pointer (some ⟨xb, 0, none⟩)] W fun e w' => ∃ a n c, e = .returned (.slice a n c) ∧ a.isNone = b ∧ Below W.heap.size W w'
theorem circNil_no {B xb : Nat} {w : World} {s : Sg} {l : List Ent} (h : DLib B w xb s l) (hno : noLoop l) : CircNil xb true w := fun _ hb =>
 (circleNo_any (h.call hb) hno).mono fun _ _ ⟨h1, h2⟩ => ⟨none, 0, 0, h1, rfl, h2⟩
set_option maxHeartbeats 1000000 in
theorem whole_any {B xb : Nat} {w : World} {s : Sg} {l : List Ent} {b : Bool} (h : DLib B w xb s l) (hc : CircNil xb b w) : Calls Tryz.prog 92 #[.pointer (some ⟨xb, 0, none⟩)] w fun e w' => e = .returned (.bool (noneB (misB l) && b)) ∧ Below w.heap.size w w' := by
 have vm := Lib.hid (missing_any h)
 have hcH := Lib.hid hc
 clear h hc
 go_enter Tryz.func92, Tryz.ntmps92
 go_wp2_with fail
 refine vm.out.mono ?_
 rintro e w1 ⟨ob, M, m, rfl, -, -, -, h4, h5⟩
 have hlen := h4.len (tm := 88) Tryz.underlying88 3
 have hn := SMap.none h4
 have vc := Lib.hid (hcH.out w1 h5)
 have hbH := Lib.hid h5
 clear h4 h5
 cases hz : noneB (misB l) with
 | false =>
  rw [hz] at hn
  have hzH := Lib.hid hz
  clear hz
  go_wp2_with fail
  go_ret
  exact ⟨ret_bool (by rw [hzH.out]; rfl), hbH.out⟩
 | true =>
  rw [hz] at hn
  have hzH := Lib.hid hz
  clear hz
  go_wp2_with fail
  refine vc.out.mono ?_
  rintro e w2 ⟨a, n, c, rfl, ha, hb⟩
  have hnl := Lib.run_eql_slice_nil (P := Tryz.prog) w2 29 9 a n c 0 0 Tryz.underlying29
  rw [ha] at hnl
  have hb2H := Lib.hid (bcall hbH.out hb)
  clear hb ha
  go_wp2_with fail
  go_ret
  exact ⟨ret_bool (by rw [hzH.out, Bool.true_and]), hb2H.out⟩
noncomputable def soundE (s : Sg) (l : List Ent) (b : Bool) : Bool × Int := if okLib s l = true then ((noneB (misB l) && b) && noneB (faiB s l), 0) else (false, 1)
set_option maxHeartbeats 1000000 in
theorem Sound_any {S1 S2 : Nat → Prop} {b : Bool} (sa la : Option Addr) (sc lc : Nat) (s : Sg) (l : List Ent) (w : World) (h1 : Sign S1 w sa sc s) (h2 : LibL S2 w la lc l) (hl : l.length ≤ 1000)
  (hc : ∀ B W xb, Below w.heap.size w W → DLib B W xb s l → CircNil xb b W) :
  Calls Tryz.prog 32 #[.slice sa s.length sc, .slice la l.length lc] w fun e w' => e = .returned (.tuple #[.bool (soundE s l b).1, .int .i64 (soundE s l b).2]) ∧ Below w.heap.size w w' := by
 have v := open_any sa la sc lc s l w h1 h2 hl
 have m := h2.le
 have m1 := h1.le
 obtain ⟨r, hr⟩ : ∃ r, soundE s l b = r := ⟨_, rfl⟩
 rw [hr]
 have vH := Lib.hid v
 have hrH := Lib.hid hr
 have hcH := Lib.hid hc
 clear v h1 h2 hr hc
 go_enter Tryz.func32, Tryz.ntmps32
 go_wp2_with fail
 refine vH.out.mono ?_
 rintro e w1 ⟨hb, h⟩
 have hbH := Lib.hid hb
 rcases h with ⟨hok, rfl⟩ | ⟨hok, xb, hxb, rfl, hD⟩
 ·have hf : soundE s l b = (false, 1) := by unfold soundE; rw [hok]; rfl
  have hfH := Lib.hid (hrH.out.symm.trans hf)
  clear hb hok vH hf
  go_wp2_with fail
  go_ret2
  exact ⟨by rw [hfH.out]; rfl, hbH.out⟩
 ·have hf : soundE s l b = ((noneB (misB l) && b) && noneB (faiB s l), 0) := by unfold soundE; rw [hok]; rfl
  have vw := whole_any hD (hcH.out _ w1 xb hb hD)
  have vf := fun W (hw : Below w1.heap.size w1 W) => failing_any (hD.call hw)
  have hfH := Lib.hid (hrH.out.symm.trans hf)
  have vwH := Lib.hid vw
  have vfH := Lib.hid vf
  clear hb hok vH hf hxb hD vw vf
  generalize (noneB (misB l) && b) = bw at *
  cases bw with
  | false =>
   go_wp2_with fail
   refine vwH.out.mono ?_
   rintro e w2 ⟨rfl, hb2⟩
   have hb2H := Lib.hid (bcall hbH.out hb2)
   clear hb2
   go_wp2_with fail
   go_ret2
   exact ⟨by rw [hfH.out]; rfl, hb2H.out⟩
  | true =>
   go_wp2_with fail
   refine vwH.out.mono ?_
   rintro e w2 ⟨rfl, hb2⟩
   have vf2 := Lib.hid (vfH.out w2 hb2)
   have hb2H := Lib.hid (bcall hbH.out hb2)
   clear hb2
   go_wp2_with fail
   refine vf2.out.mono ?_
   rintro e w3 ⟨ob, M, m, rfl, -, -, -, h4, h5⟩
   have hlen := h4.len (tm := 88) Tryz.underlying88 3
   have hn := SMap.none h4
   have hb3H := Lib.hid (bcall hb2H.out h5)
   clear h4 h5
   go_wp2_with fail
   go_ret2
   exact ⟨by rw [hfH.out]; rfl, hb3H.out⟩
end Go.Proofs.YtpmnnoopoblpgaaGreat

/- Walks: slices.Sorted of slices.Values, slices.Contains of names; what is free on the way along a circle. -/
namespace Go.Proofs.YtpmnnoopoblpgaaGreat
open Go Go.RowKit Go.Maps Go.Shelf

def SortV (w : World) (xs : List ByteArray) (e : Ending) (w' : World) : Prop := ∃ v L, e = .returned v ∧ OwnS w' w.heap.size v L ∧ AscN L ∧ (∀ x, x ∈ L ↔ x ∈ xs) ∧ Below w.heap.size w w'
theorem collV_any {S : Nat → Prop} {a : Option Addr} {c : Nat} {xs : List ByteArray} (w : World) (hm : xs.length ≤ 1000000) (pb : Nat) (hpb : pb < w.heap.size) (hx : Sl strE S w a c xs) (hS : ∀ b, S b → b < w.heap.size) (hp : w.cell? ⟨pb, 0, none⟩ = some (.slice a xs.length c)) :
  Calls Tryz.prog 174 #[.func (.func 188) #[] #[.pointer (some ⟨pb, 0, none⟩)]] w (ApOut w xs) := by
 have c1 := Lib.hid (apV_any w hm pb hpb hx hS hp)
 clear hx hS hp hpb hm
 go_enter Tryz.func174, Tryz.ntmps174
 go_wp2_with fail
 refine c1.out.mono ?_
 rintro e w' ⟨v, rfl, h1, h2⟩
 have hR := Lib.hid (⟨v, rfl, h1, h2⟩ : ApOut w xs (.returned v) w')
 obtain ⟨av, cv, rfl, -⟩ := OwnS.strs h1
 clear h1 h2
 go_wp2_with fail
 go_ret
 exact hR.out
theorem sortedV_any {S : Nat → Prop} {a : Option Addr} {c : Nat} {xs : List ByteArray} (w : World) (hm : xs.length ≤ 1000000) (hnd : xs.Nodup) (pb : Nat) (hpb : pb < w.heap.size) (hx : Sl strE S w a c xs) (hS : ∀ b, S b → b < w.heap.size) (hp : w.cell? ⟨pb, 0, none⟩ = some (.slice a xs.length c)) :
  Calls Tryz.prog 138 #[.func (.func 188) #[] #[.pointer (some ⟨pb, 0, none⟩)]] w (SortV w xs) := by
 have c1 := Lib.hid (collV_any w hm pb hpb hx hS hp)
 have hnb : (xs.map bs).Nodup := List.pairwise_map.2 (hnd.imp fun hne e => hne (bs_inj e))
 obtain ⟨h1, h2⟩ := sort_names (List.Perm.refl (xs.map bs)) hnb
 have hmem : ∀ x, x ∈ ((xs.map bs).mergeSort fun x y => decide (x ≤ y)).map nmOf ↔ x ∈ xs := fun x => by
  rw [h2, List.mem_map]
  exact ⟨fun ⟨y, hy, e⟩ => by rw [← bs_inj e]; exact hy, fun h => ⟨x, h, rfl⟩⟩
 have hmH := Lib.hid hm
 have hAH := Lib.hid h1
 have hMH := Lib.hid hmem
 clear hx hS hp hpb hm hnd hnb h1 h2 hmem
 go_enter Tryz.func138, Tryz.ntmps138
 go_wp2_with fail
 refine c1.out.mono ?_
 rintro e w' ⟨v, rfl, h1, h2⟩
 have c2 := Lib.hid (sortS_any h1 hmH.out h2.size)
 have h2H := Lib.hid h2
 obtain ⟨av, cv, rfl, -⟩ := OwnS.strs h1
 clear h1 h2
 go_wp2_with fail
 refine c2.out.mono ?_
 rintro e w2 ⟨rfl, h3, h4⟩
 have hR := Lib.hid (⟨_, _, rfl, h3, hAH.out, hMH.out, h2H.out.trans h4⟩ : SortV w xs (.returned (.slice av xs.length cv)) w2)
 clear h3 h4
 go_wp2_with fail
 go_ret
 exact hR.out
theorem idxS_any {S : Nat → Prop} (a : Option Addr) (c : Nat) (l : List ByteArray) (x : ByteArray) (w : World) (h : Sl strE S w a c l) :
  Calls Tryz.prog 163 #[.slice a l.length c, .string x] w fun e w' => (∃ i : Int, e = .returned (.int .i64 i) ∧ inRange i ∧ decide (0 ≤ i) = memB l x) ∧ w = w' := by
 have m := h.le
 have hH := Lib.hid h
 clear h
 go_enter Tryz.func163, Tryz.ntmps163
 go_wp2_with fail
 go_loopw [8] (fun i wr => ∃ k : Nat, i = .int .i64 k ∧ k ≤ l.length ∧ memB (l.take k) x = false ∧ w = wr) (fun i _ => l.length - (intOf i).toNat)
 case atStart => exact ⟨0, rfl, Nat.zero_le _, rfl, rfl⟩
 case round =>
  obtain ⟨k, rfl, hk, hn, rfl⟩ := hrel
  by_cases hlt : k < l.length
  ·obtain ⟨b, o, rfl, -, q, -⟩ := hH.out.str k hlt
   have ht := memB_take (x := x) hlt
   rw [hn, Bool.false_or] at ht
   obtain ⟨y, hy⟩ : ∃ y, l[k] = y := ⟨_, rfl⟩
   have hmem : y = x → memB l x = true := fun e => memB_iff.2 (by rw [← e, ← hy]; exact List.getElem_mem hlt)
   rw [hy] at q ht
   have htH := Lib.hid ht
   have hmH := Lib.hid hmem
   clear ht hmem hn hy
   by_cases he : y = x
   ·have hq := str_eq he.symm
    have hR := Lib.hid (hmH.out he)
    clear he
    go_wp2_with fail
    go_ret
    exact ⟨⟨(k : Int), rfl, by have := hlt; unfold inRange; omega, by rw [hR.out]; simp⟩, rfl⟩
   ·have hq := str_neq (fun e : x = y => he e.symm)
    have hR := Lib.hid (show memB (l.take (k + 1)) x = false by rw [htH.out]; exact decide_eq_false he)
    clear he
    go_wp2_with fail
    go_roundw
    case rel => first | exact ⟨k + 1, by go_num, hlt, hR.out, rfl⟩ | exact ⟨k + 1, by go_num, hlt, hR.out, trivial⟩
    case measure => simp [intOf]; omega
  ·have hkl : ((k : Int) < (l.length : Int)) = False := eq_false (by omega)
   rw [List.take_of_length_le (by omega)] at hn
   have hR := Lib.hid hn
   have hltH := Lib.hid hlt
   clear hn hlt
   go_wp2_with fail
   go_ret
   exact ⟨⟨-1, rfl, by unfold inRange; omega, by rw [hR.out]; rfl⟩, rfl⟩
theorem contS_any {S : Nat → Prop} (a : Option Addr) (c : Nat) (l : List ByteArray) (x : ByteArray) (w : World) (h : Sl strE S w a c l) :
  Calls Tryz.prog 117 #[.slice a l.length c, .string x] w fun e w' => e = .returned (.bool (memB l x)) ∧ w = w' := by
 have c1 := Lib.hid (idxS_any a c l x w h)
 clear h
 go_enter Tryz.func117, Tryz.ntmps117
 go_wp2_with fail
 refine c1.out.mono ?_
 rintro e w' ⟨⟨i, rfl, hi, hm⟩, rfl⟩
 have hmH := Lib.hid hm
 clear hm
 go_wp2_with fail
 go_ret
 exact ⟨ret_bool hmH.out, rfl⟩
end Go.Proofs.YtpmnnoopoblpgaaGreat

/- Walks: what is free on the way along a circle. -/
namespace Go.Proofs.YtpmnnoopoblpgaaGreat
open Go Go.RowKit Go.Maps Go.Shelf

theorem gt_of_ne {x y : ByteArray} (h : x ≠ y) : ltB y x = !Op.bytesLess x.toList y.toList := by
 rw [bytesLess_ltB, Bool.eq_iff_iff, Bool.not_eq_true', ltB_iff]
 constructor
 ·intro h1
  cases h2 : ltB x y with
  | false => rfl
  | true => exact (ltN_irr _ (ltN_tr _ _ _ h1 (ltB_iff.1 h2))).elim
 ·intro h1
  rcases ltN_tri x y with e | e | e
  ·rw [ltB_iff.2 e] at h1; cases h1
  ·exact (h e).elim
  ·exact e
theorem circ2_fn {B b1 b2 : Nat} {w : World} {first : ByteArray} {out : List ByteArray} {S : Nat → Prop} {a : Option Addr} {c : Nat} (h1 : b1 < B) (c1 : w.cell? ⟨b1, 0, none⟩ = some (.string first)) (h2 : b2 < B) (c2 : w.cell? ⟨b2, 0, none⟩ = some (.slice a out.length c)) (ho : Sl strE S w a c out) (hS : ∀ b, S b → b < B) :
  MayFn 160 #[.pointer (some ⟨b1, 0, none⟩), .pointer (some ⟨b2, 0, none⟩)] (freeB first out) B w := by
 refine ⟨enters_of Tryz.func160 (by kernel_rfl) rfl, fun x hx W hB => ?_⟩
 have q1 := (hB.cell (p := ⟨b1, 0, none⟩) h1).trans c1
 have q2 := (hB.cell (p := ⟨b2, 0, none⟩) h2).trans c2
 have hW : Sl strE S W a c out := ho.same (.of_below hB (fun b hb _ => hS b hb))
 have cc := contS_any a c out x W hW
 have hg : freeB first out x = (decide (x = first) || (ltB first x && !memB out x)) := rfl
 have hgH := Lib.hid hg
 have ccH := Lib.hid cc
 have hzz := hW.le
 clear c1 c2 hB hg cc hW ho hS
 by_cases he : x = first
 ·have hq := str_eq he
  have hR := Lib.hid (show freeB first out x = true by rw [hgH.out, he]; simp)
  clear he
  go_enter Tryz.func160, Tryz.ntmps160
  go_wp2_with fail
  go_ret
  exact ⟨ret_bool hR.out.symm, .refl _ _⟩
 ·have hq := str_neq he
  have hd : decide (x = first) = false := decide_eq_false he
  have hgt := gt_of_ne he
  clear he
  cases hl : Op.bytesLess x.toList first.toList with
  | true =>
   have hR := Lib.hid (show freeB first out x = false by rw [hgH.out, hd, hgt, hl]; rfl)
   clear hd hgt
   go_enter Tryz.func160, Tryz.ntmps160
   go_wp2_with fail
   go_ret
   exact ⟨ret_bool hR.out.symm, .refl _ _⟩
  | false =>
   have hR := Lib.hid (show freeB first out x = !memB out x by rw [hgH.out, hd, hgt, hl]; rfl)
   clear hd hgt
   go_enter Tryz.func160, Tryz.ntmps160
   go_wp2_with fail
   refine ccH.out.mono ?_
   rintro e w' ⟨rfl, rfl⟩
   go_wp2_with fail
   go_ret
   exact ⟨ret_bool hR.out.symm, .refl _ _⟩
theorem circ31_fn {B b1 b2 g : Nat} {cb : Array Value} {w : World} {name first : ByteArray} {out : List ByteArray} (h1 : b1 < B) (c1 : w.cell? ⟨b1, 0, none⟩ = some (.string name)) (h2 : b2 < B) (c2 : w.cell? ⟨b2, 0, none⟩ = some (.func (.func g) #[] cb)) (hf : MayFn g cb (freeB first out) B w) :
  MayFn 162 #[.pointer (some ⟨b1, 0, none⟩), .pointer (some ⟨b2, 0, none⟩)] (wioB first out name) B w := by
 refine ⟨enters_of Tryz.func162 (by kernel_rfl) rfl, fun x hx W hB => ?_⟩
 have q1 := (hB.cell (p := ⟨b1, 0, none⟩) h1).trans c1
 have q2 := (hB.cell (p := ⟨b2, 0, none⟩) h2).trans c2
 have cc := Lib.hid (hf.2 x hx W hB)
 have eg := hf.1
 have hg : wioB first out name x = (!decide (x = name) && freeB first out x) := rfl
 have hgH := Lib.hid hg
 clear c1 c2 hB hg hf
 by_cases he : x = name
 ·have hq := str_eq he
  have hR := Lib.hid (show wioB first out name x = false by rw [hgH.out, he]; simp)
  clear he
  go_enter Tryz.func162, Tryz.ntmps162
  go_wp2_with fail
  go_ret
  exact ⟨ret_bool hR.out.symm, .refl _ _⟩
 ·have hq := str_neq he
  have hR := Lib.hid (show wioB first out name x = freeB first out x by rw [hgH.out]; simp [he])
  clear he
  go_enter Tryz.func162, Tryz.ntmps162
  go_wp2_with (first | (go_at_fn g; refine cc.out.mono ?_; rintro e w2 ⟨rfl, hb⟩) | go_in)
  go_ret
  exact ⟨ret_bool hR.out.symm, hb⟩
end Go.Proofs.YtpmnnoopoblpgaaGreat

/- Walks: where one can go on along a circle. -/
namespace Go.Proofs.YtpmnnoopoblpgaaGreat
open Go Go.RowKit Go.Maps Go.Shelf

set_option maxRecDepth 100000 in
set_option maxHeartbeats 4000000 in
theorem circ3_fn {B bf b1 bx xb g : Nat} {cb : Array Value} {w : World} {s : Sg} {l : List Ent} {first : ByteArray} {out : List ByteArray} (hD : DLib B w xb s l) (hz : first.size ≤ big) (h1 : b1 < B) (c1 : w.cell? ⟨b1, 0, none⟩ = some (.string first))
  (h2 : bf < B) (c2 : w.cell? ⟨bf, 0, none⟩ = some (.func (.func g) #[] cb)) (h3 : bx < B) (c3 : w.cell? ⟨bx, 0, none⟩ = some (.pointer (some ⟨xb, 0, none⟩))) (hf : MayFn g cb (freeB first out) B w) :
  MayFn 161 #[.pointer (some ⟨bf, 0, none⟩), .pointer (some ⟨b1, 0, none⟩), .pointer (some ⟨bx, 0, none⟩)] (candB l first out) B w := by
 refine ⟨enters_of Tryz.func161 (by kernel_rfl) rfl, fun x hx W hB => ?_⟩
 obtain ⟨W1, hW1⟩ : ∃ W1, W.alloc (.cells #[.string x] 9) = W1 := ⟨_, rfl⟩
 have hB1 : Below W.heap.size W W1 := by rw [← hW1]; exact below1 W _
 have hle : B ≤ W.heap.size := Nat.le_trans hD.1 hB.size
 have hBW : Below B w W1 := hB.trans (hB1.mono hle)
 have hs1 : W1.heap.size = W.heap.size + 1 := by rw [← hW1]; simp
 have q0 : W1.cell? ⟨W.heap.size, 0, none⟩ = some (.string x) := by rw [← hW1]; clear hW1; go_simp
 have q1 := (hBW.cell (p := ⟨b1, 0, none⟩) h1).trans c1
 have q2 := (hBW.cell (p := ⟨bf, 0, none⟩) h2).trans c2
 have q3 := (hBW.cell (p := ⟨bx, 0, none⟩) h3).trans c3
 have hDW := hD.below hBW
 have eg := hf.1
 have vf : ∀ Wc, Below W1.heap.size W1 Wc → Calls Tryz.prog g (#[.string x] ++ cb) Wc fun e w' => e = .returned (.bool (freeB first out x)) ∧ Below Wc.heap.size Wc w' := fun Wc hc => hf.2 x hx Wc (hBW.trans (hc.mono (by omega)))
 have vr : ∀ Wc, Below W1.heap.size W1 Wc → Calls Tryz.prog 152 #[.pointer (some ⟨xb, 0, none⟩), .string x, .func (.func 162) #[] #[.pointer (some ⟨W.heap.size, 0, none⟩), .pointer (some ⟨bf, 0, none⟩)]] Wc fun e w' => ∃ ob, e = .returned (.map (some ob)) ∧ (∀ W', Below w'.heap.size w' W' → (Instr.lookup 88 (.map (some ob)) (.string first) false).run Tryz.prog W' = .ok (.bool (rchB l (wioB first out x) x first)) W') ∧ Below Wc.heap.size Wc w' := fun Wc hc => by
  have hsz := hc.size
  have hDc := hDW.below (hc.mono (by omega))
  refine (reached_any (hDc.mono hDc.1 (Nat.le_refl _)) (circ31_fn (g := g) (cb := cb) (b1 := W.heap.size) (b2 := bf) (name := x) (first := first) (out := out) (by omega) (cell_later hc q0) (by omega) (cell_later hc q2) ⟨eg, fun y hy W' hb' => hf.2 y hy W' (hBW.trans ((hc.mono (by omega)).trans (hb'.mono (by omega))))⟩) x hx).mono ?_
  rintro e w' ⟨ob, m, rfl, h1, h2, h3, h4⟩
  refine ⟨ob, rfl, fun W' hb' => ?_, h4⟩
  exact (h3.below hb' h3.lt).look (tm := 88) Tryz.underlying88 Tryz.underlying9 Tryz.underlying4 (zBool W') first (big_max hz)
 have hg : candB l first out x = (!decide (x = first) && (freeB first out x && rchB l (wioB first out x) x first)) := rfl
 have hbd : Below W1.heap.size W1 W1.drew := Below.drew (.refl W1.heap.size _)
 have hS0 : W1.drew.cell? ⟨W.heap.size, 0, none⟩ = some (.string x) ∧ W1.drew.cell? ⟨b1, 0, none⟩ = some (.string first) ∧ W1.drew.cell? ⟨bf, 0, none⟩ = some (.func (.func g) #[] cb) ∧ W1.drew.cell? ⟨bx, 0, none⟩ = some (.pointer (some ⟨xb, 0, none⟩)) :=
  ⟨cell_later hbd q0, cell_later hbd q1, cell_later hbd q2, cell_later hbd q3⟩
 have hgH := Lib.hid hg
 have vfH := Lib.hid vf
 have vrH := Lib.hid vr
 have hB1H := Lib.hid hB1
 have hWH := Lib.hid hW1
 clear vf vr hg hD hB hBW hDW hf hB1 hle hs1 c1 c2 c3 hW1
 by_cases he : x = first
 ·have hq := str_eq he
  have hR := Lib.hid (show candB l first out x = false by rw [hgH.out, he]; simp)
  clear he
  go_enter Tryz.func161, Tryz.ntmps161
  go_wp2_with fail
  rw [hWH.out]
  refine wp_region_held_drew (S := fun w' => w'.cell? ⟨W.heap.size, 0, none⟩ = some (.string x) ∧ w'.cell? ⟨b1, 0, none⟩ = some (.string first) ∧ w'.cell? ⟨bf, 0, none⟩ = some (.func (.func g) #[] cb) ∧ w'.cell? ⟨bx, 0, none⟩ = some (.pointer (some ⟨xb, 0, none⟩))) (by kernel_rfl) hS0 (fun hS => ?_)
  refine rtk 0 8 (v := ?_) hS ?_ ?_; rotate_left; · (intro w9 hS9; obtain ⟨z0, z1, z2, z3⟩ := hS9; go_simp; try (with_reducible rfl))
  refine rtk 1 9 (v := ?_) hS ?_ ?_; rotate_left; · (intro w9 hS9; obtain ⟨z0, z1, z2, z3⟩ := hS9; go_simp; try (with_reducible rfl))
  refine rtk 2 10 (v := ?_) hS ?_ ?_; rotate_left; · (intro w9 hS9; obtain ⟨z0, z1, z2, z3⟩ := hS9; go_simp; try (with_reducible rfl))
  refine rtk 3 11 (v := ?_) hS ?_ ?_; rotate_left; · (intro w9 hS9; obtain ⟨z0, z1, z2, z3⟩ := hS9; go_simp; try (with_reducible rfl))
  refine rsk 4 12 hS ?_
  refine rsk 5 13 hS ?_
  refine rsk 6 14 hS ?_
  refine rtk 7 15 (v := ?_) hS ?_ ?_; rotate_left; · (intro w9 hS9; obtain ⟨z0, z1, z2, z3⟩ := hS9; go_simp; try (with_reducible rfl))
  refine rtk 8 16 (v := ?_) hS ?_ ?_; rotate_left; · (intro w9 hS9; obtain ⟨z0, z1, z2, z3⟩ := hS9; go_simp; try (with_reducible rfl))
  refine rsk 9 17 hS ?_
  refine rsk 10 18 hS ?_
  refine rsk 11 19 hS ?_
  refine rsk 12 20 hS ?_
  refine rsk 13 21 hS ?_
  refine rsk 14 22 hS ?_
  refine rtk 15 23 (v := ?_) hS ?_ ?_; rotate_left; · (intro w9 hS9; obtain ⟨z0, z1, z2, z3⟩ := hS9; go_simp; try (with_reducible rfl))
  refine rtk 16 5 (v := ?_) hS ?_ ?_; rotate_left; · (intro w9 hS9; obtain ⟨z0, z1, z2, z3⟩ := hS9; go_simp; try (with_reducible rfl))
  refine wpAnyH_done (by kernel_rfl) ?_ _
  clear hS
  have hB4 := Lib.hid (bcall hB1H.out hbd)
  go_wp2_with fail
  go_ret
  exact ⟨ret_bool hR.out.symm, hB4.out⟩
 ·have hq := str_neq he
  have hd : decide (x = first) = false := decide_eq_false he
  clear he
  cases hfr : freeB first out x with
  | false =>
   have hR := Lib.hid (show candB l first out x = false by rw [hgH.out, hd, hfr]; rfl)
   rw [hfr] at vfH
   clear hd hfr
   go_enter Tryz.func161, Tryz.ntmps161
   go_wp2_with fail
   rw [hWH.out]
   refine wp_region_held_drew (S := fun w' => w'.cell? ⟨W.heap.size, 0, none⟩ = some (.string x) ∧ w'.cell? ⟨b1, 0, none⟩ = some (.string first) ∧ w'.cell? ⟨bf, 0, none⟩ = some (.func (.func g) #[] cb) ∧ w'.cell? ⟨bx, 0, none⟩ = some (.pointer (some ⟨xb, 0, none⟩))) (by kernel_rfl) hS0 (fun hS => ?_)
   refine rtk 0 8 (v := ?_) hS ?_ ?_; rotate_left; · (intro w9 hS9; obtain ⟨z0, z1, z2, z3⟩ := hS9; go_simp; try (with_reducible rfl))
   refine rtk 1 9 (v := ?_) hS ?_ ?_; rotate_left; · (intro w9 hS9; obtain ⟨z0, z1, z2, z3⟩ := hS9; go_simp; try (with_reducible rfl))
   refine rtk 2 10 (v := ?_) hS ?_ ?_; rotate_left; · (intro w9 hS9; obtain ⟨z0, z1, z2, z3⟩ := hS9; go_simp; try (with_reducible rfl))
   refine rtk 3 11 (v := ?_) hS ?_ ?_; rotate_left; · (intro w9 hS9; obtain ⟨z0, z1, z2, z3⟩ := hS9; go_simp; try (with_reducible rfl))
   refine rtk 4 12 (v := ?_) hS ?_ ?_; rotate_left; · (intro w9 hS9; obtain ⟨z0, z1, z2, z3⟩ := hS9; go_simp; try (with_reducible rfl))
   refine rtk 5 13 (v := ?_) hS ?_ ?_; rotate_left; · (intro w9 hS9; obtain ⟨z0, z1, z2, z3⟩ := hS9; go_simp; try (with_reducible rfl))
   refine region_call 6 rfl (by kernel_rfl) (fun K hK => ?_)
   go_simp
   (with_reducible refine (vfH.out _ hbd).mono ?_)
   rintro e w4 ⟨rfl, hb4⟩
   go_simp
   refine hK.out _ _ ⟨cell_later hb4 hS.1, cell_later hb4 hS.2.1, cell_later hb4 hS.2.2.1, cell_later hb4 hS.2.2.2⟩ ?_
   clear hK hS K
   intro hS
   try simp only [Act.put, List.setIfInBounds_toArray, List.set_cons_zero, List.set_cons_succ]
   have hb4H := Lib.hid (bcall hbd hb4)
   clear hb4
   refine rtk 7 15 (v := ?_) hS ?_ ?_; rotate_left; · (intro w9 hS9; obtain ⟨z0, z1, z2, z3⟩ := hS9; go_simp; try (with_reducible rfl))
   refine rtk 8 16 (v := ?_) hS ?_ ?_; rotate_left; · (intro w9 hS9; obtain ⟨z0, z1, z2, z3⟩ := hS9; go_simp; try (with_reducible rfl))
   refine rsk 9 17 hS ?_
   refine rsk 10 18 hS ?_
   refine rsk 11 19 hS ?_
   refine rsk 12 20 hS ?_
   refine rsk 13 21 hS ?_
   refine rsk 14 22 hS ?_
   refine rtk 15 23 (v := ?_) hS ?_ ?_; rotate_left; · (intro w9 hS9; obtain ⟨z0, z1, z2, z3⟩ := hS9; go_simp; try (with_reducible rfl))
   refine rtk 16 5 (v := ?_) hS ?_ ?_; rotate_left; · (intro w9 hS9; obtain ⟨z0, z1, z2, z3⟩ := hS9; go_simp; try (with_reducible rfl))
   refine wpAnyH_done (by kernel_rfl) ?_ _
   clear hS
   have hB4 := Lib.hid (bcall hB1H.out hb4H.out)
   go_wp2_with fail
   go_ret
   exact ⟨ret_bool hR.out.symm, hB4.out⟩
  | true =>
   have hR := Lib.hid (show candB l first out x = rchB l (wioB first out x) x first by rw [hgH.out, hd, hfr]; rfl)
   rw [hfr] at vfH
   clear hd hfr
   obtain ⟨rr, hrr⟩ : ∃ rr, rchB l (wioB first out x) x first = rr := ⟨_, rfl⟩
   rw [hrr] at vrH hR
   clear hrr
   go_enter Tryz.func161, Tryz.ntmps161
   go_wp2_with fail
   rw [hWH.out]
   refine wp_region_held_drew (S := fun w' => w'.cell? ⟨W.heap.size, 0, none⟩ = some (.string x) ∧ w'.cell? ⟨b1, 0, none⟩ = some (.string first) ∧ w'.cell? ⟨bf, 0, none⟩ = some (.func (.func g) #[] cb) ∧ w'.cell? ⟨bx, 0, none⟩ = some (.pointer (some ⟨xb, 0, none⟩))) (by kernel_rfl) hS0 (fun hS => ?_)
   refine rtk 0 8 (v := ?_) hS ?_ ?_; rotate_left; · (intro w9 hS9; obtain ⟨z0, z1, z2, z3⟩ := hS9; go_simp; try (with_reducible rfl))
   refine rtk 1 9 (v := ?_) hS ?_ ?_; rotate_left; · (intro w9 hS9; obtain ⟨z0, z1, z2, z3⟩ := hS9; go_simp; try (with_reducible rfl))
   refine rtk 2 10 (v := ?_) hS ?_ ?_; rotate_left; · (intro w9 hS9; obtain ⟨z0, z1, z2, z3⟩ := hS9; go_simp; try (with_reducible rfl))
   refine rtk 3 11 (v := ?_) hS ?_ ?_; rotate_left; · (intro w9 hS9; obtain ⟨z0, z1, z2, z3⟩ := hS9; go_simp; try (with_reducible rfl))
   refine rtk 4 12 (v := ?_) hS ?_ ?_; rotate_left; · (intro w9 hS9; obtain ⟨z0, z1, z2, z3⟩ := hS9; go_simp; try (with_reducible rfl))
   refine rtk 5 13 (v := ?_) hS ?_ ?_; rotate_left; · (intro w9 hS9; obtain ⟨z0, z1, z2, z3⟩ := hS9; go_simp; try (with_reducible rfl))
   refine region_call 6 rfl (by kernel_rfl) (fun K hK => ?_)
   go_simp
   (with_reducible refine (vfH.out _ hbd).mono ?_)
   rintro e w4 ⟨rfl, hb4⟩
   go_simp
   refine hK.out _ _ ⟨cell_later hb4 hS.1, cell_later hb4 hS.2.1, cell_later hb4 hS.2.2.1, cell_later hb4 hS.2.2.2⟩ ?_
   clear hK hS K
   intro hS
   try simp only [Act.put, List.setIfInBounds_toArray, List.set_cons_zero, List.set_cons_succ]
   have hb4H := Lib.hid (bcall hbd hb4)
   clear hb4
   refine rtk 7 15 (v := ?_) hS ?_ ?_; rotate_left; · (intro w9 hS9; obtain ⟨z0, z1, z2, z3⟩ := hS9; go_simp; try (with_reducible rfl))
   refine rtk 8 16 (v := ?_) hS ?_ ?_; rotate_left; · (intro w9 hS9; obtain ⟨z0, z1, z2, z3⟩ := hS9; go_simp; try (with_reducible rfl))
   refine rtk 9 17 (v := ?_) hS ?_ ?_; rotate_left; · (intro w9 hS9; obtain ⟨z0, z1, z2, z3⟩ := hS9; go_simp; try (with_reducible rfl))
   refine rtk 10 18 (v := ?_) hS ?_ ?_; rotate_left; · (intro w9 hS9; obtain ⟨z0, z1, z2, z3⟩ := hS9; go_simp; try (with_reducible rfl))
   refine rtk 11 19 (v := ?_) hS ?_ ?_; rotate_left; · (intro w9 hS9; obtain ⟨z0, z1, z2, z3⟩ := hS9; go_simp; try (with_reducible rfl))
   refine rtk 13 21 (v := ?_) hS ?_ ?_; rotate_left; · (intro w9 hS9; obtain ⟨z0, z1, z2, z3⟩ := hS9; go_simp; try (with_reducible rfl))
   refine region_call 12 rfl (by kernel_rfl) (fun K hK => ?_)
   go_simp
   (with_reducible refine (vrH.out _ hb4H.out).mono ?_)
   rintro e w5 ⟨ob, rfl, hlkF, hb5⟩
   have hlk := Lib.hid hlkF
   clear hlkF
   go_simp
   refine hK.out _ _ ⟨cell_later hb5 hS.1, cell_later hb5 hS.2.1, cell_later hb5 hS.2.2.1, cell_later hb5 hS.2.2.2⟩ ?_
   clear hK hS K
   intro hS
   try simp only [Act.put, List.setIfInBounds_toArray, List.set_cons_zero, List.set_cons_succ]
   have hb5H := Lib.hid (bcall hb4H.out hb5)
   have hlk9 := hlk.out w5 (.refl _ _)
   clear hb5
   refine region_call 14 rfl (by kernel_rfl) (fun K hK => ?_)
   go_simp
   refine hK.out _ _ hS ?_
   clear hK hS K
   intro hS
   try simp only [Act.put, List.setIfInBounds_toArray, List.set_cons_zero, List.set_cons_succ]
   refine rtk 15 23 (v := ?_) hS ?_ ?_; rotate_left; · (intro w9 hS9; obtain ⟨z0, z1, z2, z3⟩ := hS9; go_simp; try (with_reducible rfl))
   refine rtk 16 5 (v := ?_) hS ?_ ?_; rotate_left; · (intro w9 hS9; obtain ⟨z0, z1, z2, z3⟩ := hS9; go_simp; try (with_reducible rfl))
   refine wpAnyH_done (by kernel_rfl) ?_ _
   clear hS
   have hB4 := Lib.hid (bcall hB1H.out hb5H.out)
   go_wp2_with fail
   go_ret
   exact ⟨ret_bool hR.out.symm, hB4.out⟩
end Go.Proofs.YtpmnnoopoblpgaaGreat

/- The circle's list in its box; which of the next ones is taken. -/
namespace Go.Proofs.YtpmnnoopoblpgaaGreat
open Go Go.RowKit Go.Maps Go.Shelf

theorem ownS_one (w : World) (x : ByteArray) (hx : x.size ≤ big) : OwnS (w.alloc (.cells #[.string x] 9)) w.heap.size (.slice (some ⟨w.heap.size, 0, none⟩) 1 1) [x] :=
 ⟨[[.string x]], ⟨by simp [strE], .inr ⟨w.heap.size, 1, #[.string x], rfl, Nat.le_refl _, heap_alloc_new w _, Nat.le_refl _, by decide, rfl, by simp [strE]⟩⟩, rfl, fun i h1 h2 => by
  have : i = 0 := by simp at h1; omega
  subst this
  exact ⟨rfl, hx⟩⟩
theorem pushC {W W1 : World} {B0 base : Nat} {v : Value} {l : List ByteArray} (hv : Boxed W B0 29 v) (ho : OwnS W base v l) (hbs : base ≤ B0) (hb1 : Below W.heap.size W W1) {x : ByteArray} (hx : x.size ≤ big) (hm : l.length ≤ 1000) :
  ∃ a' cap W2, (Builtin.append_ #[29, 29] 29 #[v, .slice (some ⟨W1.heap.size, 0, none⟩) 1 1]).run Tryz.prog (W1.alloc (.cells #[.string x] 9)) = .ok (.slice a' (l.length + 1) cap) W2 ∧
   W2.cell? ⟨B0, 0, none⟩ = some v ∧ W2.frozen? ⟨B0, 0, none⟩ = false ∧
   Boxed (W2.setCell ⟨B0, 0, none⟩ (.slice a' (l.length + 1) cap)) B0 29 (.slice a' (l.length + 1) cap) ∧ OwnS (W2.setCell ⟨B0, 0, none⟩ (.slice a' (l.length + 1) cap)) base (.slice a' (l.length + 1) cap) (l ++ [x]) ∧
   Below base W (W2.setCell ⟨B0, 0, none⟩ (.slice a' (l.length + 1) cap)) := by
 have hlt := hv.lt
 have ho1 := ho.call hb1
 have hv1 : Boxed W1 B0 29 v := (hb1.block B0 hv.lt).trans hv
 have hsz := hb1.size
 obtain ⟨v', W2, hrun, ho2, hg, hat⟩ := ho1.push (P := Tryz.prog) (t := 29) (ty := 29) (x := x) (vs := [.string x]) Tryz.underlying29 infoStr rfl ⟨rfl, hx⟩ (by omega) (by unfold big; omega) (by omega)
 obtain ⟨a', cap, rfl, -⟩ := ho2.sl
 rw [List.length_append, List.length_singleton] at hrun ho2 hat
 have hv2 : Boxed W2 B0 29 v := hv1.kept hg (fun e => ho1.notBox hv1 (by decide) e.symm)
 have hg3 : W2.grownBy (W2.setCell ⟨B0, 0, none⟩ (.slice a' (l.length + 1) cap)) (some B0) := grownBy_setCell' _ _ _
 have ho3 := ho2.grown hg3 (fun k hk e => by cases e; exact ho2.notBox hv2 (by decide) hk) (fun b hb _ e => hb.elim)
 have hsz2 : W1.heap.size ≤ W2.heap.size := hg.size
 refine ⟨a', cap, W2, hrun, hv2.cell, hv2.frozen, hv2.set _, ho3, ?_⟩
 exact ((hb1.mono (by omega)).grown hg (by omega) (fun k e => (ho1.lt k e).1)).grown hg3 (by omega) (fun k e => by cases e; exact hbs)
theorem idx_asc {L : List ByteArray} {p : ByteArray → Bool} (hA : AscN L) (h : ∃ u ∈ L, p u = true) : ∃ i, ∃ hi : i < L.length, idxE L p = (i : Int) ∧ p L[i] = true ∧ ∀ u ∈ L, p u = true → u = L[i] ∨ ltN L[i] u := by
 cases hf : L.findIdx? p with
 | none =>
  rw [List.findIdx?_eq_none_iff] at hf
  obtain ⟨u, hu, hp⟩ := h
  rw [hf u hu] at hp; cases hp
 | some i =>
  have hf' := hf
  rw [List.findIdx?_eq_some_iff_getElem] at hf
  obtain ⟨hi, h1, h2⟩ := hf
  refine ⟨i, hi, by unfold idxE; rw [hf'], h1, fun u hu hp => ?_⟩
  obtain ⟨j, hj, rfl⟩ := List.getElem_of_mem hu
  rcases Nat.lt_trichotomy j i with e | e | e
  ·exact (h2 j e hp).elim
  ·subst e; exact .inl rfl
  ·exact .inr (List.pairwise_iff_getElem.1 hA i j hi hj e)
theorem at_size {s : Sg} {l : List Ent} (hok : okLib s l = true) {x : ByteArray} (h : (atN l x).isSome = true) : x.size ≤ big := by
 cases hat : atN l x with
 | none => rw [hat] at h; cases h
 | some k =>
  obtain ⟨hk, e⟩ := atN_some hat
  have h1 := (okLib_parts hok).2.2.1 l[k] (List.getElem_mem hk)
  unfold okEnt at h1
  simp only [Bool.and_eq_true] at h1
  have := (nameB_size h1.1.1).2
  rw [← e]; unfold big; omega
theorem uses_le {s : Sg} {l : List Ent} (hok : okLib s l = true) (x : ByteArray) : (usesN l x).length ≤ 12 ∧ (usesN l x).Nodup ∧ ∀ u ∈ usesN l x, u.size ≤ big := by
 unfold usesN
 cases hat : atN l x with
 | none => exact ⟨by simp, by simp, by simp⟩
 | some k =>
  obtain ⟨hk, -⟩ := atN_some hat
  have h1 := (okLib_parts hok).2.2.1 l[k] (List.getElem_mem hk)
  have e : l.getD k default = l[k] := by rw [List.getD_eq_getElem?_getD, List.getElem?_eq_getElem hk]; rfl
  simp only [e]
  unfold okEnt at h1
  simp only [Bool.and_eq_true, decide_eq_true_eq, List.all_eq_true] at h1
  exact ⟨h1.2.1.1, h1.2.1.2.1, fun u hu => by have := (nameB_size (h1.2.1.2.2 u hu)).2; unfold big; omega⟩
def CircOut (l : List Ent) (w : World) (e : Ending) (w' : World) : Prop := ∃ C, CircR l C ∧ (match C with | none => e = .returned (.slice none 0 0) | some L => ∃ v, e = .returned v ∧ L.length ≠ 0 ∧ OwnS w' w.heap.size v L) ∧ Below w.heap.size w w'
def ciIn (l : List Ent) (first : ByteArray) (d : Nat) (W : World) (i : Value) (wr : World) : Prop := ∃ now out v, i = .string now ∧ (atN l now).isSome = true ∧ CiOn l first now out ∧ Boxed wr (d + 1) 29 v ∧ OwnS wr d v out ∧ Below d W wr
def lenC (d : Nat) (W : World) : Nat := match W.cell? ⟨d + 1, 0, none⟩ with | some (.slice _ n _) => n | _ => 0
theorem lenC_eq {d : Nat} {W : World} {v : Value} {out : List ByteArray} {base : Nat} (hv : Boxed W (d + 1) 29 v) (ho : OwnS W base v out) : lenC d W = out.length := by
 obtain ⟨a, c, rfl, -⟩ := OwnS.strs ho
 unfold lenC; rw [hv.cell]
end Go.Proofs.YtpmnnoopoblpgaaGreat

/- Walks: the least circle. -/
namespace Go.Proofs.YtpmnnoopoblpgaaGreat
open Go Go.RowKit Go.Maps Go.Shelf

theorem mem_at {l : List Ent} {x : ByteArray} : x ∈ l.map eNm ↔ (atN l x).isSome = true := by
 rw [List.mem_map]
 constructor
 ·rintro ⟨y, hy, rfl⟩
  cases hat : atN l (eNm y) with
  | none => exact (atN_none hat y hy rfl).elim
  | some k => rfl
 ·intro h
  cases hat : atN l x with
  | none => rw [hat] at h; cases h
  | some k =>
   obtain ⟨hk, e⟩ := atN_some hat
   exact ⟨l[k], List.getElem_mem hk, e⟩
def ciOut (l : List Ent) (w1 : World) (L : List ByteArray) (i : Value) (wr : World) : Prop := ∃ k : Nat, i = .int .i64 k ∧ k ≤ L.length ∧ (∀ j (hj : j < k) (hl : j < L.length), loopB l L[j] = false) ∧ Below w1.heap.size w1 wr
set_option maxRecDepth 100000 in
set_option maxHeartbeats 8000000 in
theorem circle_any {B xb : Nat} {w : World} {s : Sg} {l : List Ent} (h : DLib B w xb s l) : Calls Tryz.prog 114 #[.pointer (some ⟨xb, 0, none⟩)] w (CircOut l w) := by
 obtain ⟨W, hW⟩ : ∃ W, w.alloc (.cells #[.pointer (some ⟨xb, 0, none⟩)] 61) = W := ⟨_, rfl⟩
 have hBW : Below w.heap.size w W := by rw [← hW]; exact below1 w _
 have hWs : w.heap.size < W.heap.size := by rw [← hW]; simp
 have q0 : W.cell? ⟨w.heap.size, 0, none⟩ = some (.pointer (some ⟨xb, 0, none⟩)) := by rw [← hW]; clear hW; go_simp
 have hDW := h.call hBW
 obtain ⟨sa, sc, la, lc, bm, hO⟩ := hDW.op
 have q2 := hO.q2
 have hok := hO.ok
 have c1 := keysI_call (some bm) W
 have c2 := keysI_sorted hO
 have c1H := Lib.hid c1
 have c2H := Lib.hid c2
 have hDH := Lib.hid hDW
 have hokH := Lib.hid hok
 have hBWH := Lib.hid hBW
 have hll := (okLib_parts hok).2.1
 clear c1 c2 hO hDW h hok
 go_enter Tryz.func114, Tryz.ntmps114
 go_wp2_with fail
 try rw [hW]
 refine c1H.out.mono ?_
 rintro e w1 ⟨rfl, rfl⟩
 go_wp2_with fail
 refine c2H.out.mono ?_
 rintro e w2 ⟨v, L, rfl, hL, hAL, hmem, hb2⟩
 obtain ⟨aL, cL, rfl, hLs⟩ := OwnS.strs hL
 have mL := hLs.le
 have hLH := Lib.hid hLs
 have hmH := Lib.hid hmem
 have hALH := Lib.hid hAL
 have hb2H := Lib.hid hb2
 have p0 := cell_later hb2 q0
 have hw2 : W.heap.size ≤ w2.heap.size := hb2.size
 clear hL hmem hb2 hLs q0 q2 hBW hAL
 clear hW
 go_wp2_with fail
 go_loopw [18] (fun i wo => ciOut l w2 L i wo) (fun i _ => L.length - (intOf i).toNat)
 case atStart => exact ⟨0, rfl, Nat.zero_le _, fun j hj => by omega, .refl _ _⟩
 case round =>
  obtain ⟨wo, hwo⟩ : ∃ wo, wo = wr := ⟨_, rfl⟩
  subst hwo
  obtain ⟨k, rfl, hk, hno, hB⟩ := hrel
  by_cases hlt : k < L.length
  ·obtain ⟨bL, oL, rfl, -, qL, hz⟩ := (hLH.out.below hB).str k hlt
   have hin := (hmH.out _).1 (List.getElem_mem hlt)
   have hleast : ∀ x ∈ l.map eNm, ltN x L[k] → loopB l x = false := fun x hx hxl => by
    obtain ⟨j, hj, rfl⟩ := List.getElem_of_mem ((hmH.out x).2 (mem_at.1 hx))
    rcases Nat.lt_trichotomy j k with e | e | e
    ·exact hno j e hj
    ·subst e; exact (ltN_irr _ hxl).elim
    ·exact (ltN_irr _ (ltN_tr _ _ _ hxl (List.pairwise_iff_getElem.1 hALH.out k j hlt hj e))).elim
   have hnext : loopB l L[k] = false → ∀ j (hj : j < k + 1) (hl : j < L.length), loopB l L[j] = false := fun h0 j hj hl => by
    by_cases e : j = k
    ·subst e; exact h0
    ·exact hno j (by omega) hl
   obtain ⟨first, hfst⟩ : ∃ first, L[k] = first := ⟨_, rfl⟩
   rw [hfst] at qL hz hin hleast hnext
   obtain ⟨W3, hW3⟩ : ∃ W3, wo.alloc (.cells #[.string first] 9) = W3 := ⟨_, rfl⟩
   have hB3 : Below wo.heap.size wo W3 := by rw [← hW3]; exact below1 wo _
   have r4 : W3.cell? ⟨wo.heap.size, 0, none⟩ = some (.string first) := by rw [← hW3]; clear hW3; go_simp
   have r1 := cell_later hB3 (cell_later hB p0)
   have hBall := bcall hB hB3
   have hwr : wo.heap.size < W3.heap.size := by rw [← hW3]; simp
   have hwr2 : w2.heap.size ≤ wo.heap.size := hB.size
   have hDr := hDH.out.call (hb2H.out.trans (hBall.mono hb2H.out.size))
   have hbd : Below W3.heap.size W3 W3.drew := Below.drew (.refl W3.heap.size _)
   have vr : ∀ Wc, Below W3.heap.size W3 Wc → Calls Tryz.prog 152 #[.pointer (some ⟨xb, 0, none⟩), .string first, .func (.func 158) #[] #[.pointer (some ⟨wo.heap.size, 0, none⟩)]] Wc fun e w' => ∃ ob, e = .returned (.map (some ob)) ∧ (∀ W', Below w'.heap.size w' W' → (Instr.lookup 88 (.map (some ob)) (.string first) false).run Tryz.prog W' = .ok (.bool (loopB l first)) W') ∧ Below Wc.heap.size Wc w' := fun Wc hc => by
    refine (reached_any (hDr.call hc) (circ1_fn (by have := hc.size; omega) (cell_later hc r4)) first hz).mono ?_
    rintro e w' ⟨ob, m, rfl, h1, h2, h3, h4⟩
    refine ⟨ob, rfl, fun W' hb' => ?_, h4⟩
    exact (h3.below hb' h3.lt).look (tm := 88) Tryz.underlying88 Tryz.underlying9 Tryz.underlying4 (zBool W') first (big_max hz)
   have hk0 : Below W3.heap.size W3 W3.drew ∧ W3.drew.cell? ⟨w.heap.size, 0, none⟩ = some (.pointer (some ⟨xb, 0, none⟩)) ∧ W3.drew.cell? ⟨wo.heap.size, 0, none⟩ = some (.string first) := ⟨hbd, cell_later hbd r1, cell_later hbd r4⟩
   have hBaH := Lib.hid hBall
   have hWH := Lib.hid hW3
   have hnxH := Lib.hid hnext
   have hleH := Lib.hid hleast
   have hDrH := Lib.hid hDr
   cases hlo : loopB l first with
   | false =>
    rw [hlo] at vr
    have vrH := Lib.hid vr
    have hn2 := Lib.hid (hnext hlo)
    clear vr hBall hDr hbd hB hB3 hlo hfst hwr r1 r4 hW3 hnext hleast hin hno
    go_wp2_with fail
    rw [hWH.out]
    go_region_held3 (fun w' => Below W3.heap.size W3 w' ∧ w'.cell? ⟨w.heap.size, 0, none⟩ = some (.pointer (some ⟨xb, 0, none⟩)) ∧ w'.cell? ⟨wo.heap.size, 0, none⟩ = some (.string first))
     ((first | exact hk0 | exact keepS2 ‹_› hb4 rfl))
     ((go_at_call 152; (with_reducible refine (vrH.out _ ?_).mono ?_); exact (And.left ‹_›); rintro e w4 ⟨ob, rfl, hlkF, hb4⟩; have hlk := hlkF w4 (.refl _ _)))
    have hB4 := And.left (‹Below W3.heap.size W3 w4 ∧ _›)
    have hfin := Lib.hid (show ciOut l w2 L (.int .i64 ((k : Int) + 1)) w4 from ⟨k + 1, by simp, hlt, hn2.out, bcall hBaH.out hB4⟩)
    clear hB4
    go_wp2_with fail
    go_roundw
    case rel => exact hfin.out
    case measure => simp [intOf]; omega
   | true =>
    rw [hlo] at vr
    have vrH := Lib.hid vr
    have hci0 := Lib.hid (CiOn.start hlo hin)
    have hinH := Lib.hid hin
    have hloH := Lib.hid hlo
    clear vr hBall hDr hbd hB hB3 hlo hfst r1 r4 hW3 hnext hleast hin hno
    go_wp2_with fail
    rw [hWH.out]
    go_region_held3 (fun w' => Below W3.heap.size W3 w' ∧ w'.cell? ⟨w.heap.size, 0, none⟩ = some (.pointer (some ⟨xb, 0, none⟩)) ∧ w'.cell? ⟨wo.heap.size, 0, none⟩ = some (.string first))
     ((first | exact hk0 | exact keepS2 ‹_› hb4 rfl))
     ((go_at_call 152; (with_reducible refine (vrH.out _ ?_).mono ?_); exact (And.left ‹_›); rintro e w4 ⟨ob, rfl, hlkF, hb4⟩; have hlk := hlkF w4 (.refl _ _)))
    have hK4 := ‹Below W3.heap.size W3 w4 ∧ _›
    have s1 := hK4.2.1
    have s4 := hK4.2.2
    have hb34 := hK4.1
    have hDr4 := hDrH.out.call hb34
    obtain ⟨W5, hW5⟩ : ∃ W5, (w4.alloc (.cells #[.string first] 9)).alloc (.cells #[.slice (some ⟨w4.heap.size, 0, none⟩) 1 1] 29) = W5 := ⟨_, rfl⟩
    have hb5 : Below w4.heap.size w4 W5 := by rw [← hW5]; exact bcall (below1 w4 _) (below1 _ _)
    have hv5 : Boxed W5 (w4.heap.size + 1) 29 (.slice (some ⟨w4.heap.size, 0, none⟩) 1 1) := by rw [← hW5]; have := Boxed.new (w4.alloc (.cells #[.string first] 9)) 29 (.slice (some ⟨w4.heap.size, 0, none⟩) 1 1); rw [World.size_alloc] at this; exact this
    have ho5 : OwnS W5 w4.heap.size (.slice (some ⟨w4.heap.size, 0, none⟩) 1 1) [first] := by rw [← hW5]; exact (ownS_one w4 first hz).call (below1 _ _)
    have hw34 : W3.heap.size ≤ w4.heap.size := hb34.size
    have hin0 := Lib.hid (⟨first, [first], _, rfl, hinH.out, hci0.out, hv5, ho5, hb5⟩ : ciIn l first w4.heap.size w4 (.string first) W5)
    have hb34H := Lib.hid (bcall hBaH.out hb34)
    have hDr4H := Lib.hid hDr4
    have z4 := cell_later hb5 s4
    rw [← hW5] at z4
    have hlt4 : wo.heap.size < w4.heap.size := by omega
    have hW5H := Lib.hid hW5
    clear hK4 hb34 hDr4 hb5 hv5 ho5 hW5
    go_wp2_with fail
    try rw [hW5H.out]
    go_loopw [7] (fun i wr => ciIn l first w4.heap.size w4 i wr) (fun _ wr => l.length + 1 - lenC w4.heap.size wr)
    case atStart => exact hin0.out
    case round =>
     obtain ⟨now, out, v, rfl, hat, hCi, hv, ho, hB⟩ := hrel
     have hoz := hCi.size
     obtain ⟨av, cv, rfl, hSo⟩ := OwnS.strs ho
     have hbox := hv.cell
     have t1 := (hB.cell (p := ⟨w.heap.size, 0, none⟩) (by show w.heap.size < w4.heap.size; omega)).trans s1
     have t4 := (hB.cell (p := ⟨wo.heap.size, 0, none⟩) (by show wo.heap.size < w4.heap.size; omega)).trans s4
     have hw4 : w4.heap.size ≤ wr.heap.size := hB.size
     have hvl := hv.lt
     have hDw := hDr4H.out.call hB
     have hbd2 : Below wr.heap.size wr wr.drew := Below.drew (.refl wr.heap.size _)
     obtain ⟨aU, cU, hU, vu⟩ := uses_any (hDw.mono hDw.1 (Nat.le_refl _)) now (at_size hokH.out hat)
     have hu12 := uses_le hokH.out now
     have mU := hU.le
     have vc := contS_any aU cU (usesN l now) first wr.drew (hU.below hbd2)
     have vuH := Lib.hid vu
     have vcH := Lib.hid vc
     have hlenC := Lib.hid (lenC_eq hv ho)
     by_cases hmb : memB (usesN l now) first = true
     ·rw [hmb] at vcH
      have hne : out.length ≠ 0 := fun e => by have := hCi.fo; rw [List.length_eq_zero_iff.1 e] at this; cases this
      have hfin := Lib.hid (⟨some out, ⟨first, mem_at.2 hinH.out, hloH.out, hleH.out, hCi.acc out (.stop (memB_iff.1 hmb))⟩, ⟨_, rfl, hne, OwnL.baseMono (ho.call hbd2) (by omega)⟩, hBWH.out.trans ((hb2H.out.trans ((hb34H.out.trans ((hB.trans (hbd2.mono (by omega))).mono (by omega))).mono (by omega))).mono (by omega))⟩ : CircOut l w (.returned (.slice av out.length cv)) wr.drew)
      have r6 := cell_later hbd2 hbox
      clear hCi hv ho hB hSo hDw hU vu vc hmb
      go_wp2_with fail
      refine wp_region_held_drew (S := fun w' => w'.cell? ⟨w.heap.size, 0, none⟩ = some (.pointer (some ⟨xb, 0, none⟩)) ∧ w'.cell? ⟨wo.heap.size, 0, none⟩ = some (.string first)) (by kernel_rfl) ⟨cell_later hbd2 t1, cell_later hbd2 t4⟩ (fun hS => ?_)
      refine rtk 0 33 (v := ?_) hS ?_ ?_; rotate_left; · (intro w9 hS9; obtain ⟨z0, z1⟩ := hS9; go_simp; try (with_reducible rfl))
      refine rtk 1 34 (v := ?_) hS ?_ ?_; rotate_left; · (intro w9 hS9; obtain ⟨z0, z1⟩ := hS9; go_simp; try (with_reducible rfl))
      refine rtk 3 36 (v := ?_) hS ?_ ?_; rotate_left; · (intro w9 hS9; obtain ⟨z0, z1⟩ := hS9; go_simp; try (with_reducible rfl))
      refine region_call 2 rfl (by kernel_rfl) (fun K hK => ?_)
      go_simp
      (with_reducible refine (vuH.out _ hbd2).mono ?_)
      rintro e w6 ⟨rfl, rfl⟩
      go_simp
      refine hK.out _ _ hS ?_
      clear hK hS K
      intro hS
      try simp only [Act.put, List.setIfInBounds_toArray, List.set_cons_zero, List.set_cons_succ]
      refine region_call 4 rfl (by kernel_rfl) (fun K hK => ?_)
      go_simp
      (with_reducible refine vcH.out.mono ?_)
      rintro e w6 ⟨rfl, rfl⟩
      go_simp
      refine hK.out _ _ hS ?_
      clear hK hS K
      intro hS
      try simp only [Act.put, List.setIfInBounds_toArray, List.set_cons_zero, List.set_cons_succ]
      refine rtk 5 38 (v := ?_) hS ?_ ?_; rotate_left; · (intro w9 hS9; obtain ⟨z0, z1⟩ := hS9; go_simp; try (with_reducible rfl))
      refine wpAnyH_done (by kernel_rfl) ?_ _
      clear hS
      go_wp2_with fail
      go_ret
      exact hfin.out
     ·have hmf : memB (usesN l now) first = false := by simpa using hmb
      rw [hmf] at vcH
      have hno2 : first ∉ usesN l now := fun e => hmb (memB_iff.2 e)
      obtain ⟨u0, hu0, hp0⟩ := cand_ex hCi.rch hno2
      obtain ⟨WA, hWA⟩ : ∃ WA, wr.drew = WA := ⟨_, rfl⟩
      rw [hWA] at hbd2
      have hvA : Boxed WA (w4.heap.size + 1) 29 (.slice av out.length cv) := (hbd2.block _ hv.lt).trans hv
      have hoA := ho.call hbd2
      have hUA := hU.below hbd2
      have hDA := hDw.call hbd2
      have e1 := cell_later hbd2 t1
      have e4 := cell_later hbd2 t4
      have hAs : wr.heap.size ≤ WA.heap.size := hbd2.size
      have hBA := hB.trans (hbd2.mono hw4)
      have vV := valS_call aU (usesN l now).length cU WA
      obtain ⟨WB, hWB⟩ : ∃ WB, WA.alloc (.cells #[.slice aU (usesN l now).length cU] 29) = WB := ⟨_, rfl⟩
      have hBB : Below WA.heap.size WA WB := by rw [← hWB]; exact below1 _ _
      have hBs : WB.heap.size = WA.heap.size + 1 := by rw [← hWB]; simp
      have vS := sortedV_any WB (by have := hu12.1; omega) hu12.2.1 WA.heap.size (by omega) (hUA.below hBB) (fun b hb => by have := hDr4H.out.1; omega) (by rw [← hWB]; clear hWB; go_simp)
      rw [hWB] at vV
      have vuA := Lib.hid (vu WA (hbd2.mono (by omega)))
      have vVH := Lib.hid vV
      have vSH := Lib.hid vS
      have hvAH := Lib.hid hvA
      have hoAH := Lib.hid hoA
      have hDAH := Lib.hid hDA
      have hBAH := Lib.hid hBA
      have hBBH := Lib.hid hBB
      have hCiH := Lib.hid hCi
      have hno2H := Lib.hid hno2
      have hu0H := Lib.hid (⟨u0, hu0, hp0⟩ : ∃ u ∈ usesN l now, candB l first out u = true)
      have huH := Lib.hid hu12
      have hWAH := Lib.hid hWA
      have hbd2 : Below wr.heap.size wr wr.drew := Below.drew (.refl wr.heap.size _)
      clear hCi hv ho hB hSo hDw hU vu vc hmb hmf hno2 hu0 hp0 hvA hoA hUA hDA vV vS hWB hBB hBA hu12 hWA
      go_wp2_with fail
      refine wp_region_held_drew (S := fun w' => w'.cell? ⟨w.heap.size, 0, none⟩ = some (.pointer (some ⟨xb, 0, none⟩)) ∧ w'.cell? ⟨wo.heap.size, 0, none⟩ = some (.string first)) (by kernel_rfl) ⟨cell_later hbd2 t1, cell_later hbd2 t4⟩ (fun hS => ?_)
      refine rtk 0 33 (v := ?_) hS ?_ ?_; rotate_left; · (intro w9 hS9; obtain ⟨z0, z1⟩ := hS9; go_simp; try (with_reducible rfl))
      refine rtk 1 34 (v := ?_) hS ?_ ?_; rotate_left; · (intro w9 hS9; obtain ⟨z0, z1⟩ := hS9; go_simp; try (with_reducible rfl))
      refine rtk 3 36 (v := ?_) hS ?_ ?_; rotate_left; · (intro w9 hS9; obtain ⟨z0, z1⟩ := hS9; go_simp; try (with_reducible rfl))
      refine region_call 2 rfl (by kernel_rfl) (fun K hK => ?_)
      go_simp
      (with_reducible refine (vuH.out _ hbd2).mono ?_)
      rintro e w6 ⟨rfl, rfl⟩
      go_simp
      refine hK.out _ _ hS ?_
      clear hK hS K
      intro hS
      try simp only [Act.put, List.setIfInBounds_toArray, List.set_cons_zero, List.set_cons_succ]
      refine region_call 4 rfl (by kernel_rfl) (fun K hK => ?_)
      go_simp
      (with_reducible refine vcH.out.mono ?_)
      rintro e w6 ⟨rfl, rfl⟩
      go_simp
      refine hK.out _ _ hS ?_
      clear hK hS K
      intro hS
      try simp only [Act.put, List.setIfInBounds_toArray, List.set_cons_zero, List.set_cons_succ]
      refine rtk 5 38 (v := ?_) hS ?_ ?_; rotate_left; · (intro w9 hS9; obtain ⟨z0, z1⟩ := hS9; go_simp; try (with_reducible rfl))
      refine wpAnyH_done (by kernel_rfl) ?_ _
      clear hS
      clear hbd2 vuH vcH
      go_wp2_with fail
      rw [hWAH.out]
      refine vuA.out.mono ?_
      rintro e w6 ⟨rfl, rfl⟩
      go_wp2_with fail
      refine vVH.out.mono ?_
      rintro e w6 ⟨rfl, rfl⟩
      go_wp2_with fail
      refine vSH.out.mono ?_
      rintro e w7 ⟨v7, L7, rfl, hL7, hA7, hm7, hb7⟩
      obtain ⟨a7, c7, rfl, hS7⟩ := OwnS.strs hL7
      have m7 := hS7.le
      have hb7A : Below WA.heap.size WA w7 := hBBH.out.trans (hb7.mono hBBH.out.size)
      have hv7 : Boxed w7 (w4.heap.size + 1) 29 (.slice av out.length cv) := (hb7A.block _ hvAH.out.lt).trans hvAH.out
      have ho7 := hoAH.out.call hb7A
      have hD7 := hDAH.out.call hb7A
      have g1 := cell_later hb7A e1
      have g4 := cell_later hb7A e4
      have hw7 : WA.heap.size ≤ w7.heap.size := hb7A.size
      obtain ⟨W8, hW8⟩ : ∃ W8, w7.alloc (.cells #[.func (.func 160) #[] #[.pointer (some ⟨wo.heap.size, 0, none⟩), .pointer (some ⟨w4.heap.size + 1, 0, none⟩)]] 44) = W8 := ⟨_, rfl⟩
      have hb8 : Below w7.heap.size w7 W8 := by rw [← hW8]; exact below1 _ _
      have hs8 : W8.heap.size = w7.heap.size + 1 := by rw [← hW8]; simp
      have f8 : W8.cell? ⟨w7.heap.size, 0, none⟩ = some (.func (.func 160) #[] #[.pointer (some ⟨wo.heap.size, 0, none⟩), .pointer (some ⟨w4.heap.size + 1, 0, none⟩)]) := by rw [← hW8]; clear hW8; go_simp
      obtain ⟨a9, c9, e9, hS8⟩ := OwnS.strs (ho7.call hb8)
      injection e9 with i1 i2 i3
      subst i1 i3
      clear i2
      have hD8 := hD7.call hb8
      have f2 := circ2_fn (B := W8.heap.size) (b1 := wo.heap.size) (b2 := w4.heap.size + 1) (w := W8) (first := first) (out := out) (by omega) (cell_later hb8 g4) (by omega) (cell_later hb8 hv7.cell) hS8.lt (fun b hb => hb.2)
      have f3 := circ3_fn (bf := w7.heap.size) (b1 := wo.heap.size) (bx := w.heap.size) (hD8.mono hD8.1 (Nat.le_refl _)) hz (by omega) (cell_later hb8 g4) (by omega) f8 (by omega) (cell_later hb8 g1) f2
      obtain ⟨i, hi, hix, hpi, hli⟩ := idx_asc (p := candB l first out) hA7 (by obtain ⟨u, hu, hp⟩ := hu0H.out; exact ⟨u, (hm7 u).2 hu, hp⟩)
      have vI := IndexS_any a7 c7 L7 _ _ f3.1 (candB l first out) W8 (hS7.below hb8) (fun j hj W' hb => f3.2 L7[j] (huH.out.2.2 _ ((hm7 _).1 (List.getElem_mem hj))) W' hb)
      rw [hix] at vI
      obtain ⟨b7, o7, rfl, -, q7, hz7⟩ := hS7.str i hi
      have hnu := (hm7 _).1 (List.getElem_mem hi)
      obtain ⟨nx, hnx⟩ : ∃ nx, L7[i] = nx := ⟨_, rfl⟩
      rw [hnx] at q7 hz7 hpi hli hnu
      have hCn := hCiH.out.step hno2H.out hnu hpi (fun u hu hc => hli u ((hm7 u).2 hu) hc)
      have hcin := cand_in hpi
      have vIH := Lib.hid vI
      have hW8H := Lib.hid hW8
      have hb8H := Lib.hid hb8
      have hv7H := Lib.hid hv7
      have ho7H := Lib.hid ho7
      have hb7H := Lib.hid hb7A
      have hCnH := Lib.hid hCn
      have hcinH := Lib.hid hcin
      clear hL7 hA7 hm7 hb7 hS7 hb7A hv7 ho7 hD7 hW8 hb8 hs8 f8 hS8 hD8 f2 f3 hix hpi hli vI hnu hnx hCn hcin
      go_wp2_with fail
      rw [hW8H.out]
      refine vIH.out.mono ?_
      rintro e w9 ⟨rfl, hb9⟩
      have hb79 : Below w7.heap.size w7 w9 := bcall hb8H.out hb9
      have q9 := cell_later hb79 q7
      have hv9 : Boxed w9 (w4.heap.size + 1) 29 (.slice av out.length cv) := (hb79.block _ hv7H.out.lt).trans hv7H.out
      have ho9 := ho7H.out.call hb79
      obtain ⟨a10, c10, W10, r10, k10, f10, hv10, ho10, hb10⟩ := pushC hv9 ho9 (by omega) (.refl _ _) hz7 (by omega)
      have bx9 := hv9.cell
      have hfin := Lib.hid (show ciIn l first w4.heap.size w4 (.string nx) (W10.setCell ⟨w4.heap.size + 1, 0, none⟩ (.slice a10 (out.length + 1) c10)) from ⟨nx, out ++ [nx], _, rfl, hcinH.out, hCnH.out, hv10, ho10, hBAH.out.trans (((hb7H.out.mono (by omega)).trans (hb79.mono (by omega))).trans hb10)⟩)
      have hms := Lib.hid (show l.length + 1 - lenC w4.heap.size (W10.setCell ⟨w4.heap.size + 1, 0, none⟩ (.slice a10 (out.length + 1) c10)) < l.length + 1 - lenC w4.heap.size wr by
       have := hCnH.out.size
       rw [lenC_eq hv10 ho10, hlenC.out]
       rw [List.length_append, List.length_singleton] at this ⊢
       omega)
      clear hb79 hv9 ho9 hv10 ho10 hb10 hb9 q7
      go_wp2_with (at_builtin; refine wpList_append_run rfl _ _ _ rfl rfl rfl r10 ?_)
      go_roundw
      case rel => exact hfin.out
      case measure => exact hms.out
  ·have hkk : ((k : Int) < (L.length : Int)) = False := eq_false (by omega)
   have hnone : CircR l none := fun x hx => by
    obtain ⟨j, hj, rfl⟩ := List.getElem_of_mem ((hmH.out x).2 (mem_at.1 hx))
    exact hno j (by omega) hj
   have hfin := Lib.hid (show CircOut l w (.returned (.slice none 0 0)) wo from ⟨none, hnone, rfl, hBWH.out.trans (hb2H.out.trans (hB.mono hb2H.out.size) |>.mono hBWH.out.size)⟩)
   clear hB hlt hk hno hnone
   go_wp2_with fail
   go_ret
   exact hfin.out
end Go.Proofs.YtpmnnoopoblpgaaGreat

/- Walks: deps.Holds, deps.Strongest; Sound in general. -/
namespace Go.Proofs.YtpmnnoopoblpgaaGreat
open Go Go.RowKit Go.Maps

noncomputable def noCirc (l : List Ent) : Bool := @decide (CircR l none) (Classical.propDecidable _)
theorem noCirc_none {l : List Ent} (h : CircR l none) : noCirc l = true := by unfold noCirc; exact @decide_eq_true _ (Classical.propDecidable _) h
theorem noCirc_some {l : List Ent} {C : List ByteArray} (h : CircR l (some C)) : noCirc l = false := by
 unfold noCirc
 exact @decide_eq_false _ (Classical.propDecidable _) fun k => by have := h.det k; cases this
theorem circNil_gen {B xb : Nat} {w : World} {s : Sg} {l : List Ent} (h : DLib B w xb s l) : CircNil xb (noCirc l) w := fun W hb => by
 refine (circle_any (h.call hb)).mono ?_
 rintro e w' ⟨C, hC, hv, hb2⟩
 cases C with
 | none => obtain rfl := hv; exact ⟨none, 0, 0, rfl, (noCirc_none hC).symm, hb2⟩
 | some L =>
  obtain ⟨v, rfl, hne, ho⟩ := hv
  obtain ⟨a, c, rfl, hS⟩ := OwnS.strs ho
  refine ⟨a, _, _, rfl, ?_, hb2⟩
  rw [noCirc_some hC]
  cases a with
  | none => exact (hne (by rw [(hS.nil rfl).1]; rfl)).elim
  | some ad => rfl
noncomputable def strgE (s : Sg) (l : List Ent) (n : ByteArray) : List Int × Int :=
 if okLib s l = true then (match atN l n with | some i => (match strX s l i with | some t => (t, 0) | none => ([], 11)) | none => ([], 5)) else ([], 1)
def StgRet (r : List Int × Int) (w : World) (e : Ending) (w' : World) : Prop := ∃ a c, e = .returned (.tuple #[.slice a r.1.length c, .int .i64 r.2]) ∧ Ints (fun _ => True) w' a c r.1 ∧ Below w.heap.size w w'
theorem StgRet.nil {w w' : World} {er : Int} (hb : Below w.heap.size w w') : StgRet ([], er) w (.returned (.tuple #[.slice none 0 0, .int .i64 er])) w' := ⟨none, 0, rfl, Sl.empty, hb⟩
end Go.Proofs.YtpmnnoopoblpgaaGreat

/- Walks: circle of the reference. -/
namespace Go.Proofs.YtpmnnoopoblpgaaGreat
open Go Go.RowKit Go.Maps

end Go.Proofs.YtpmnnoopoblpgaaGreat

/- Walks: Holds, Shaken, Sound, Strongest, SameTerm of the reference. -/
namespace Go.Proofs.YtpmnnoopoblpgaaGreat
open Go Go.RowKit Go.Maps

set_option maxHeartbeats 400000 in
theorem SameTermD_any {S1 S2 : Nat → Prop} (a1 a2 : Option Addr) (c1 c2 : Nat) (l1 l2 : List Int) (w : World) (h1 : Ints S1 w a1 c1 l1) (h2 : Ints S2 w a2 c2 l2) :
  Calls Tryz.prog 38 #[.slice a1 l1.length c1, .slice a2 l2.length c2] w fun e w' => e = .returned (.bool (decide (l1 = l2))) ∧ Drew w w' := by
 have m1 := h1.le
 have m2 := h2.le
 by_cases hl : l1.length = l2.length
 ·have hlH := Lib.hid hl
  go_enter Tryz.func38, Tryz.ntmps38
  go_wp2
  clear hl
  go_loopw [5] (fun i wr => ∃ k : Nat, k ≤ l1.length ∧ i = .int .i64 k ∧ l1.take k = l2.take k ∧ Drew w wr) (fun i _ => l1.length - (intOf i).toNat)
  case atStart => exact ⟨0, by omega, rfl, rfl, .refl _⟩
  case round =>
   obtain ⟨k, hk, rfl, ht, n, rfl⟩ := hrel
   have htH := Lib.hid ht
   clear ht
   have hle := hlH.out
   by_cases hlt : k < l1.length
   ·have hlt2 : k < l2.length := by omega
    obtain ⟨b1, o1, rfl, -, q1, -⟩ := h1.int k hlt
    obtain ⟨b2, o2, rfl, -, q2, -⟩ := h2.int k hlt2
    clear h1 h2 hle
    go_wp2
    go_quiet (fail)
    all_goals go_wp2
    ·go_ret
     exact ⟨ret_bool (decide_eq_false (take_ne hlt hlt2 (by assumption))).symm, .mk2 _ _ _⟩
    ·exact ⟨⟨k + 1, by omega, by go_num, take_succ_eq hlt hlt2 htH.out (by assumption), .mk _ _⟩, by simp [intOf]; omega⟩
   ·clear hle
    have hk2 : ¬ k < l2.length := by have := hlH.out; omega
    go_wp2
    go_ret
    exact ⟨ret_bool (decide_eq_true (take_all_eq hlH.out hk2 htH.out)).symm, .mk _ _⟩
 ·go_enter Tryz.func38, Tryz.ntmps38
  have hb := int_ne hl
  go_wp2
  go_ret
  exact ⟨ret_bool (decide_eq_false (fun e => hl (by rw [e]))).symm, .refl _⟩
end Go.Proofs.YtpmnnoopoblpgaaGreat
