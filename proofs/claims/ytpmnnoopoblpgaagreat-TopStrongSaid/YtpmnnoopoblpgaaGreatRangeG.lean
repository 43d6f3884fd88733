/- A range over a function whose iterator keeps and changes lists of its own. No program is named. -/
import Derived.Test.YtpmnnoopoblpgaaGreatRange
namespace Go.Proofs.YtpmnnoopoblpgaaGreat
open Go Go.RowKit

/-- what stands whatever blocks of the kind Rw, or that hold no cells, turn from B on -/
def OwnRows {β : Type} (Rw : World → Nat → Obj → Prop) (B : Nat) (I : β → World → Prop) : Prop :=
  ∀ s W W' row, I s W → W.grownBy W' row → (∀ r, row = some r → B ≤ r ∧ ∃ o : Obj, W.heap[r]? = some o ∧ (o.isCells = false ∨ Rw W r o)) → I s W'
theorem OwnRows.from {β : Type} {Rw : World → Nat → Obj → Prop} {B : Nat} {I : β → World → Prop} (h : OwnRows Rw B I) : OwnFrom B I := fun s W W' row hs hg hr =>
  h s W W' row hs hg (fun r e => by obtain ⟨g1, o, g2, g3⟩ := hr r e; exact ⟨g1, o, g2, .inl g3⟩)
/-- what stands whatever the iterator turns: blocks of the kind Rw, or marks of walks over maps, from B on -/
def AbidesRows {β : Type} (Rw : World → Nat → Obj → Prop) (B : Nat) (J : β → World → Prop) : Prop :=
  ∀ s W W' row, J s W → W.grownBy W' row → (∀ r, row = some r → B ≤ r ∧ ∃ o : Obj, W.heap[r]? = some o ∧ (o.isWalk = true ∨ Rw W r o)) → J s W'
theorem OwnRows.and {β : Type} {Rw : World → Nat → Obj → Prop} {B : Nat} {I I' : β → World → Prop} (h : OwnRows Rw B I) (h' : OwnRows Rw B I') : OwnRows Rw B (fun s W => I s W ∧ I' s W) := fun s W W' row hs hg hr => ⟨h s W W' row hs.1 hg hr, h' s W W' row hs.2 hg hr⟩
def SeqRelG {α : Type} (F : Fence) (n : Nat) (P : Program) (g : Nat) (lb : Array Value) (encs : α → Array Value) (R : α → World → Prop) (Kp : World → World → Prop) (Rw : World → Nat → Obj → Prop) (S Sp : List α → Prop) (N : Nat) (w : World) : Prop :=
  ∀ (l : Nat) (J Jx : List α → World → Prop) (W : World), Below w.heap.size w W → AbidesRows Rw W.heap.size J → AbidesRows Rw W.heap.size Jx →
    (∀ pre x W1, J pre W1 → R x W1 → pre.length < N → YieldAt F (n - 1) P l (encs x) W1 fun e W' =>
      (e = .returned (.bool true) ∧ J (pre ++ [x]) W' ∧ Kp W1 W') ∨ (e = .returned (.bool false) ∧ Jx (pre ++ [x]) W')) →
    J [] W → CallsIn F n P g (#[.func (.yield l) #[] #[]] ++ lb) W fun e W' => (∃ v, e = .returned v) ∧ ((∃ xs, S xs ∧ J xs W') ∨ (∃ pre, Sp pre ∧ Jx pre W'))
/-- how the body of a round may be left -/
def relPostG {α : Type} (B : Nat) (Kp : World → World → Prop) (I : List α → World → Prop) (Ix : Code → List α → World → Prop) (xs : List α) (W : World) (e : Exit) (_ : Act) (W' : World) : Prop :=
  KeepsFrom B W W' ∧ match e with
    | .normal => Kp W W' ∧ I xs W'
    | .ret => Ix .ret xs W'
    | .exit id => Ix (.exit id) xs W'
    | .goto t => Ix (.goto t) xs W'
    | .panic _ => False
    | .outgrown => False
section
variable {F : Fence} {n : Nat} {P : Program} {α : Type}
theorem Book.grownG {l d : Nat} {rec : Loop} {A B : World} {row : Option Nat} (h : Book l d rec A) (hg : A.grownBy B row) (hr : ∀ r, row = some r → ∃ o : Obj, A.heap[r]? = some o ∧ (o.isWalk = true ∨ o.isCells = true)) : Book l d rec B := by
  have k : ∀ {b : Nat} {o : Obj}, A.heap[b]? = some o → o.isWalk = false → o.isCells = false → B.heap[b]? = some o := fun hb h1 h2 => by
    refine (hg.block _ (Array.getElem?_eq_some_iff.1 hb).1 (fun e => ?_)).trans hb
    obtain ⟨o', g1, g2⟩ := hr _ e.symm
    rw [hb] at g1
    cases g1
    rcases g2 with g2 | g2
    · rw [h1] at g2; cases g2
    · rw [h2] at g2; cases g2
  exact ⟨k h.loop rfl rfl, k h.calls rfl rfl⟩
set_option maxHeartbeats 1000000 in
theorem range_relG {g : Operand} {ps : Array Tmp} {assign body : Code} {Q : Exit → Act → World → Prop} {a : Act} {w : World}
    (hro : F.round = none) (h1 : 1 ≤ n) {gf : Nat} {lb : Array Value} (hg : a.eval g = .func (.func gf) #[] lb) (hFg : F.fn gf) (eg : ∀ args w, (callFunc gf args).run P w = .ok (.enter gf args) w)
    {encs : α → Array Value} {R : α → World → Prop} {Kp : World → World → Prop} {Rw : World → Nat → Obj → Prop} {S Sp : List α → Prop} {N : Nat} {w0 : World} (hseq : SeqRelG F (n - 1) P gf lb encs R Kp Rw S Sp N w0) (hRw : ∀ W r o, Rw W r o → o.isCells = true)
    (hKt : ∀ {A B C : World}, Kp A B → Kp B C → Kp A C) (hKb : ∀ (W : World) (l : Nat) (o o' : Obj), w.heap.size ≤ l → W.heap[l]? = some o → o.isCells = false → o.isWalk = false → Kp W (W.putObj l o')) (hb0 : Below w0.heap.size w0 w) (hps : ∀ x, (encs x).size = ps.size)
    (I : List α → World → Prop) (Ix : Code → List α → World → Prop) (hI : OwnRows Rw w.heap.size I) (hIx : ∀ c, OwnRows Rw w.heap.size (Ix c)) (h0 : I [] w) (Ax : α → Act → World → Prop) (hAx : ∀ x a', OwnFrom w.heap.size (fun (_ : Unit) W => Ax x a' W))
    (hassign : ∀ (l : Nat) (pre : List α) (x : α) (W : World) (K : Act → World → Prop), I pre W → R x W → (∀ a' W', KeepsFrom w.heap.size W W' → Kp W W' → I pre W' → Ax x a' W' → K a' W') →
      assign.wpIn (F.inRound l) (n - 1 - 1) P (Exit.then K (fun _ _ _ => False)) { tmps := (ps.zip (encs x)).foldl (fun t (p, v) => t.setIfInBounds p v) a.tmps, defers := [] } W)
    (hbody : ∀ (l : Nat) (pre : List α) (x : α) (a' : Act) (W : World), w.heap.size ≤ l → (∃ r, W.heap[l]? = some (.loop r)) → I pre W → Ax x a' W → pre.length < N → body.wpIn (F.inRound l) (n - 1 - 1) P (relPostG w.heap.size Kp I Ix (pre ++ [x]) W) a' W)
    (hdone : ∀ (D : Nat) (xs : List α) (W : World), w.heap.size ≤ D → S xs → I xs W → W.heap[D]? = some (.deferred (some [])) → Q .normal { a with defers := { target := .collected D, args := #[] } :: a.defers } W)
    (hstop : ∀ (D : Nat) (c : Code) (pre : List α) (W : World), w.heap.size ≤ D → Sp pre → Ix c pre W → W.heap[D]? = some (.deferred (some [])) → c.wpIn F n P Q { a with defers := { target := .collected D, args := #[] } :: a.defers } W) :
    (Code.rangeFunc g ps assign body).wpIn F n P Q a w := by
  refine wpIn_rangeFunc fun fn hfn => ?_
  rw [hro]
  obtain ⟨d, hd⟩ : ∃ d, w.heap.size = d := ⟨_, rfl⟩
  rw [hd] at hKb hI hIx hAx hassign hbody hdone hstop
  obtain ⟨rec, hrec⟩ : ∃ rec : LoopState → Option Code → Loop, ∀ st pe, rec st pe = { state := st, pending := pe, fn, tmps := a.tmps, params := ps, assign, body, defers := d } := ⟨_, fun _ _ => rfl⟩
  have hz : (w.alloc (.deferred (some []))).heap.size = d + 1 := by simp [hd]
  have hB1 : Book (d + 1) d (rec .ready none) ((w.alloc (.deferred (some []))).alloc (.loop (rec .ready none))) := by
    refine ⟨by rw [← hz]; exact World.alloc_heap_new _ _, ?_⟩
    rw [Below.heap_alloc _ _ _ (by omega), ← hd]; exact World.alloc_heap_new w _
  have hIF := hI.from
  have hIxF := fun c => (hIx c).from
  have hI1 : I [] ((w.alloc (.deferred (some []))).alloc (.loop (rec .ready none))) := hIF.alloc _ (hIF.alloc _ h0)
  have hW1 : Below w0.heap.size w0 ((w.alloc (.deferred (some []))).alloc (.loop (rec .ready none))) := (hb0.alloc hb0.size _).alloc (by have := hb0.size; omega) _
  have hs1 : ((w.alloc (.deferred (some []))).alloc (.loop (rec .ready none))).heap.size = d + 2 := by rw [World.size_alloc, hz]
  have hen := run_enterLoop_outer (P := P) (w := w) fn a.tmps ps assign body
  rw [hd, ← hrec .ready none] at hen
  generalize (w.alloc (.deferred (some []))).alloc (.loop (rec .ready none)) = W1 at hB1 hI1 hW1 hs1 hen
  refine ⟨d + 1, [{ target := .collected d, args := #[] }], W1, { target := .fn (.func gf) lb, args := #[.func (.yield (d + 1)) #[] #[]] }, W1, gf, #[.func (.yield (d + 1)) #[] #[]] ++ lb, W1, hen, ?_, ?_, ?_, fun _ => h1, ?_⟩
  · simp only [resolve, hg]; simp [go_sem]
  · intro f' hf'
    simp [Target.leads] at hf'
    rw [← hf']; exact hFg
  · simp [invoke, go_sem, eg]
  have hcall := hseq (d + 1) (fun pre W => I pre W ∧ Book (d + 1) d (rec .ready none) W) (fun pre W => ∃ c, Ix c pre W ∧ Book (d + 1) d (rec .done (some c)) W) W1 hW1
    (fun s A B row hs hgr hr => ⟨hI s A B row hs.1 hgr (fun r e => by obtain ⟨g1, o, g2, g3⟩ := hr r e; exact ⟨by omega, o, g2, g3.imp Obj.not_cells_of_walk id⟩), hs.2.grownG hgr (fun r e => by obtain ⟨g1, o, g2, g3⟩ := hr r e; exact ⟨o, g2, g3.imp id (hRw _ _ _)⟩)⟩)
    (fun s A B row hs hgr hr => by obtain ⟨c, q1, q2⟩ := hs; exact ⟨c, hIx c s A B row q1 hgr (fun r e => by obtain ⟨g1, o, g2, g3⟩ := hr r e; exact ⟨by omega, o, g2, g3.imp Obj.not_cells_of_walk id⟩), q2.grownG hgr (fun r e => by obtain ⟨g1, o, g2, g3⟩ := hr r e; exact ⟨o, g2, g3.imp id (hRw _ _ _)⟩)⟩)
  refine (hcall ?_ ⟨hI1, hB1⟩).mono ?_
  · rintro pre x W ⟨hi, hb⟩ hR hlen
    have hy := run_yield (P := P) (args := encs x) hb.loop (by rw [hrec]; exact hps x)
    rw [hrec] at hy
    refine ⟨fn, _, assign, body, hy, roundIn_of_wpIn hfn (hassign (d + 1) pre x W _ hi hR fun a' Wa k1 k2 k3 k4 => ?_)⟩
    have hba := hb.keeps (by omega) (Nat.le_refl _) k1
    refine ⟨_, run_beginRound hba.loop (by rw [hrec]), ?_⟩
    have hb2 : Book (d + 1) d { rec .ready none with state := .busy } (Wa.putObj (d + 1) (.loop { rec .ready none with state := .busy })) := hba.turn (by omega)
    have hk2 : Kp Wa (Wa.putObj (d + 1) (.loop { rec .ready none with state := .busy })) := hKb _ _ _ _ (by omega) hba.loop rfl rfl
    have hi2 := hIF.putObj (.loop { rec .ready none with state := .busy }) k3 (by omega) hba.loop rfl
    have ha2 := (hAx x a').putObj (s := ()) (.loop { rec .ready none with state := .busy }) k4 (by omega) hba.loop rfl
    have hend : ∀ (jump : Option Code) (W3 : World), KeepsFrom d (Wa.putObj (d + 1) (.loop { rec .ready none with state := .busy })) W3 →
        (Instr.endRound (d + 1) jump).run P W3 = .ok (.bool jump.isNone) (W3.putObj (d + 1) (.loop (rec (if jump.isNone then .ready else .done) jump))) ∧
        W3.heap[d + 1]? = some (.loop { rec .ready none with state := .busy }) ∧ Book (d + 1) d (rec (if jump.isNone then .ready else .done) jump) (W3.putObj (d + 1) (.loop (rec (if jump.isNone then .ready else .done) jump))) := fun jump W3 k => by
      have hb3 := hb2.keeps (by omega) (Nat.le_refl _) k
      have hr := run_endRound (P := P) jump hb3.loop
      rw [hrec .ready none] at hr
      rw [hrec (if jump.isNone then .ready else .done) jump]
      exact ⟨hr, hb3.loop, hb3.turn (by omega)⟩
    refine wpIn_mono (hbody (d + 1) pre x a' _ (by omega) ⟨_, hb2.loop⟩ hi2 ha2 hlen) fun e a3 W3 hp => ?_
    obtain ⟨q1, q3⟩ := hp
    cases e with
    | normal =>
      obtain ⟨q2, q3⟩ := q3
      have hkk : ∀ o', Kp W (W3.putObj (d + 1) o') := fun o' => hKt k2 (hKt (hKt hk2 q2) (hKb _ _ _ _ (by omega) (hb2.keeps (by omega) (Nat.le_refl _) q1).loop rfl rfl))
      obtain ⟨r1, r2, r3⟩ := hend none W3 q1
      exact ⟨_, _, r1, .inl ⟨rfl, ⟨hIF.putObj _ q3 (by omega) r2 rfl, r3⟩, hkk _⟩⟩
    | ret =>
      obtain ⟨r1, r2, r3⟩ := hend (some .ret) W3 q1
      exact ⟨_, _, r1, .inr ⟨rfl, ⟨.ret, (hIxF _).putObj _ q3 (by omega) r2 rfl, r3⟩⟩⟩
    | exit id =>
      obtain ⟨r1, r2, r3⟩ := hend (some (.exit id)) W3 q1
      exact ⟨_, _, r1, .inr ⟨rfl, ⟨.exit id, (hIxF _).putObj _ q3 (by omega) r2 rfl, r3⟩⟩⟩
    | goto t =>
      obtain ⟨r1, r2, r3⟩ := hend (some (.goto t)) W3 q1
      exact ⟨_, _, r1, .inr ⟨rfl, ⟨.goto t, (hIxF _).putObj _ q3 (by omega) r2 rfl, r3⟩⟩⟩
    | panic ch => exact q3.elim
    | outgrown => exact q3.elim
  · rintro e W2 ⟨⟨v, rfl⟩, (⟨xs, hS, hi, hb⟩ | ⟨pre, hSp, c, hi, hb⟩)⟩
    · have hr := run_endLoop (P := P) hb.loop (by rw [hrec]; simp)
      rw [hrec] at hr
      exact ⟨none, _, hr, hdone d xs _ (Nat.le_refl _) hS (hIF.putObj _ hi (by omega) hb.loop rfl) ((World.putObj_heap_other (by omega)).trans hb.calls)⟩
    · have hr := run_endLoop (P := P) hb.loop (by rw [hrec]; simp)
      rw [hrec] at hr
      exact ⟨some c, _, hr, hstop d c pre _ (Nat.le_refl _) hSp ((hIxF c).putObj _ hi (by omega) hb.loop rfl) ((World.putObj_heap_other (by omega)).trans hb.calls)⟩
end
end Go.Proofs.YtpmnnoopoblpgaaGreat
