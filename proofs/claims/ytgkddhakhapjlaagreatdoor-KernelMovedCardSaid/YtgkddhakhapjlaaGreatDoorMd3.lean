/- The proof of one statement, its texts joined in build order, part 3 of 4. Each part below begins with its own remark. -/
import Derived.Test.YtgkddhakhapjlaaGreatDoorMd1
import Derived.RangeFuncBox
import Derived.RangeFuncNested
import Derived.RangeFuncBound
import Derived.RangeFuncCalls
import Derived.RangeFuncLeaves
import Derived.Test.YtgkddhakhapjlaaGreatDoorMd2
import Derived.DeepKeys4
import Derived.Lib.SlBytesRow
import Derived.Lib.BufferRead
import Derived.Deep.RegionLaw
import Derived.Shelf.Strconv.Atoi
import Derived.Shelf.Abstract
import Derived.Shelf.RegionOpen
import Derived.OwnWalkIn
import Derived.TacticsInMore
import Derived.LoopNIn
import Derived.LoopIn
import Derived.Maps.AppendAt
import Derived.OrdersIn
import Derived.TacticsIn
/- A range over a function whose elements are read in memory: the iterator says of each element what memory holds where it is handed over. No program is named. -/
namespace Go.Proofs.YtgkddhakhapjlaaGreatDoor
open Go Go.RowKit

/-- The iterator's contract: each round gets an element x of which R holds in the world where it is handed over. -/
def SeqRel {α : Type} (F : Fence) (n : Nat) (P : Program) (g : Nat) (lb : Array Value) (encs : α → Array Value) (R : α → World → Prop) (Kp : World → World → Prop) (S Sp : List α → Prop) (N : Nat) (w : World) : Prop :=
  ∀ (l : Nat) (J Jx : List α → World → Prop) (W : World), Below w.heap.size w W → AbidesFrom W.heap.size J → AbidesFrom W.heap.size Jx →
    (∀ pre x W1, J pre W1 → R x W1 → pre.length < N → YieldAt F (n - 1) P l (encs x) W1 fun e W' =>
      (e = .returned (.bool true) ∧ J (pre ++ [x]) W' ∧ Kp W1 W') ∨ (e = .returned (.bool false) ∧ Jx (pre ++ [x]) W' ∧ Kp W1 W')) →
    J [] W → CallsIn F n P g (#[.func (.yield l) #[] #[]] ++ lb) W fun e W' => (∃ v, e = .returned v) ∧ ((∃ xs, S xs ∧ J xs W') ∨ (∃ pre, Sp pre ∧ Jx pre W'))

/-- how the body of a round may be left -/
def relPost {α : Type} (B : Nat) (Kp : World → World → Prop) (I : List α → World → Prop) (Ix : Code → List α → World → Prop) (xs : List α) (W : World) (e : Exit) (_ : Act) (W' : World) : Prop :=
  (KeepsFrom B W W' ∧ Kp W W') ∧ match e with
    | .normal => I xs W'
    | .ret => Ix .ret xs W'
    | .exit id => Ix (.exit id) xs W'
    | .goto t => Ix (.goto t) xs W'
    | .panic _ => False
    | .outgrown => False

section
variable {F : Fence} {n : Nat} {P : Program} {α : Type}

/-- what two blocks hold that a loop lays for itself: its record, and the calls that its rounds put off -/
structure Book (l d : Nat) (rec : Loop) (W : World) : Prop where
  loop : W.heap[l]? = some (.loop rec)
  calls : W.heap[d]? = some (.deferred (some []))
theorem Book.keeps {l d B : Nat} {rec : Loop} {W W' : World} (h : Book l d rec W) (hl : B ≤ l) (hd : B ≤ d) (hk : KeepsFrom B W W') : Book l d rec W' :=
  ⟨hk.same _ _ hl h.loop rfl, hk.same _ _ hd h.calls rfl⟩
theorem Book.turn {l d : Nat} {rec rec' : Loop} {W : World} (h : Book l d rec W) (hne : d ≠ l) : Book l d rec' (W.putObj l (.loop rec')) :=
  ⟨World.putObj_heap_same (Array.getElem?_eq_some_iff.1 h.loop).1, (World.putObj_heap_other hne).trans h.calls⟩
theorem Book.grown {l d : Nat} {rec : Loop} {A B : World} {row : Option Nat} (h : Book l d rec A) (hg : A.grownBy B row) (hr : ∀ r, row = some r → ∃ o : Obj, A.heap[r]? = some o ∧ o.isWalk = true) : Book l d rec B :=
  ⟨(grownBy_keeps hg hr h.loop rfl).trans h.loop, (grownBy_keeps hg hr h.calls rfl).trans h.calls⟩

set_option maxHeartbeats 1000000 in
theorem range_rel {g : Operand} {ps : Array Tmp} {assign body : Code} {Q : Exit → Act → World → Prop} {a : Act} {w : World}
    (hro : F.round = none) (h1 : 1 ≤ n) {gf : Nat} {lb : Array Value} (hg : a.eval g = .func (.func gf) #[] lb) (hFg : F.fn gf) (eg : ∀ args w, (callFunc gf args).run P w = .ok (.enter gf args) w)
    {encs : α → Array Value} {R : α → World → Prop} {Kp : World → World → Prop} {S Sp : List α → Prop} {N : Nat} {w0 : World} (hseq : SeqRel F (n - 1) P gf lb encs R Kp S Sp N w0)
    (hKt : ∀ {A B C : World}, Kp A B → Kp B C → Kp A C) (hKb : ∀ (W : World) (l : Nat) (o o' : Obj), w.heap.size ≤ l → W.heap[l]? = some o → o.isCells = false → o.isWalk = false → Kp W (W.putObj l o')) (hb0 : Below w0.heap.size w0 w) (hps : ∀ x, (encs x).size = ps.size)
    (I : List α → World → Prop) (Ix : Code → List α → World → Prop) (hI : OwnFrom w.heap.size I) (hIx : ∀ c, OwnFrom w.heap.size (Ix c)) (h0 : I [] w) (Ax : α → Act → World → Prop) (hAx : ∀ x a', OwnFrom w.heap.size (fun (_ : Unit) W => Ax x a' W))
    (hassign : ∀ (l : Nat) (pre : List α) (x : α) (W : World) (K : Act → World → Prop), I pre W → R x W → (∀ a' W', KeepsFrom w.heap.size W W' → Kp W W' → I pre W' → Ax x a' W' → K a' W') →
      assign.wpIn (F.inRound l) (n - 1 - 1) P (Exit.then K (fun _ _ _ => False)) { tmps := (ps.zip (encs x)).foldl (fun t (p, v) => t.setIfInBounds p v) a.tmps, defers := [] } W)
    (hbody : ∀ (l : Nat) (pre : List α) (x : α) (a' : Act) (W : World), w.heap.size ≤ l → (∃ r, W.heap[l]? = some (.loop r)) → I pre W → Ax x a' W → pre.length < N → body.wpIn (F.inRound l) (n - 1 - 1) P (relPost w.heap.size Kp I Ix (pre ++ [x]) W) a' W)
    (hdone : ∀ (D : Nat) (xs : List α) (W : World), w.heap.size ≤ D → S xs → I xs W → W.heap[D]? = some (.deferred (some [])) → Q .normal { a with defers := { target := .collected D, args := #[] } :: a.defers } W)
    (hstop : ∀ (D : Nat) (c : Code) (pre : List α) (W : World), w.heap.size ≤ D → Sp pre → Ix c pre W → W.heap[D]? = some (.deferred (some [])) → c.wpIn F n P Q { a with defers := { target := .collected D, args := #[] } :: a.defers } W) :
    (Code.rangeFunc g ps assign body).wpIn F n P Q a w := by
  refine wpIn_rangeFunc fun fn hfn => ?_
  rw [hro]
  obtain ⟨d, hd⟩ : ∃ d, w.heap.size = d := ⟨_, rfl⟩
  rw [hd] at hKb hI hIx hAx hassign hbody hdone hstop
  obtain ⟨rec, hrec⟩ : ∃ rec : LoopState → Option Code → Loop, ∀ st pe, rec st pe = { state := st, pending := pe, fn, tmps := a.tmps, params := ps, assign, body, defers := d } := ⟨_, fun _ _ => rfl⟩
  have hz : (w.alloc (.deferred (some []))).heap.size = d + 1 := by simp [hd]
  have hB1 : Book (d + 1) d (rec .ready none) ((w.alloc (.deferred (some []))).alloc (.loop (rec .ready none))) := by
    refine ⟨by rw [← hz]; exact World.alloc_heap_new _ _, ?_⟩
    rw [Below.heap_alloc _ _ _ (by omega), ← hd]; exact World.alloc_heap_new w _
  have hI1 : I [] ((w.alloc (.deferred (some []))).alloc (.loop (rec .ready none))) := hI.alloc _ (hI.alloc _ h0)
  have hW1 : Below w0.heap.size w0 ((w.alloc (.deferred (some []))).alloc (.loop (rec .ready none))) := (hb0.alloc hb0.size _).alloc (by have := hb0.size; omega) _
  have hs1 : ((w.alloc (.deferred (some []))).alloc (.loop (rec .ready none))).heap.size = d + 2 := by rw [World.size_alloc, hz]
  have hen := run_enterLoop_outer (P := P) (w := w) fn a.tmps ps assign body
  rw [hd, ← hrec .ready none] at hen
  generalize (w.alloc (.deferred (some []))).alloc (.loop (rec .ready none)) = W1 at hB1 hI1 hW1 hs1 hen
  refine ⟨d + 1, [{ target := .collected d, args := #[] }], W1, { target := .fn (.func gf) lb, args := #[.func (.yield (d + 1)) #[] #[]] }, W1, gf, #[.func (.yield (d + 1)) #[] #[]] ++ lb, W1, hen, ?_, ?_, ?_, fun _ => h1, ?_⟩
  · simp only [resolve, hg]; simp [go_sem]
  · intro f' hf'
    simp [Target.leads] at hf'
    rw [← hf']; exact hFg
  · simp [invoke, go_sem, eg]
  have hrow : ∀ {A : World} {row : Option Nat}, (∀ r, row = some r → W1.heap.size ≤ r ∧ ∃ o : Obj, A.heap[r]? = some o ∧ o.isWalk = true) →
      (∀ r, row = some r → d ≤ r ∧ ∃ o : Obj, A.heap[r]? = some o ∧ o.isCells = false) ∧ (∀ r, row = some r → ∃ o : Obj, A.heap[r]? = some o ∧ o.isWalk = true) := fun hr =>
    ⟨fun r e => by obtain ⟨g1, o, g2, g3⟩ := hr r e; exact ⟨by omega, o, g2, Obj.not_cells_of_walk g3⟩, fun r e => (hr r e).2⟩
  have hcall := hseq (d + 1) (fun pre W => I pre W ∧ Book (d + 1) d (rec .ready none) W) (fun pre W => ∃ c, Ix c pre W ∧ Book (d + 1) d (rec .done (some c)) W) W1 hW1
    (fun s A B row hs hgr hr => ⟨hI s A B row hs.1 hgr (hrow hr).1, hs.2.grown hgr (hrow hr).2⟩)
    (fun s A B row hs hgr hr => by obtain ⟨c, q1, q2⟩ := hs; exact ⟨c, hIx c s A B row q1 hgr (hrow hr).1, q2.grown hgr (hrow hr).2⟩)
  refine (hcall ?_ ⟨hI1, hB1⟩).mono ?_
  · rintro pre x W ⟨hi, hb⟩ hR hlen
    have hy := run_yield (P := P) (args := encs x) hb.loop (by rw [hrec]; exact hps x)
    rw [hrec] at hy
    refine ⟨fn, _, assign, body, hy, roundIn_of_wpIn hfn (hassign (d + 1) pre x W _ hi hR fun a' Wa k1 k2 k3 k4 => ?_)⟩
    have hba := hb.keeps (by omega) (Nat.le_refl _) k1
    refine ⟨_, run_beginRound hba.loop (by rw [hrec]), ?_⟩
    have hb2 : Book (d + 1) d { rec .ready none with state := .busy } (Wa.putObj (d + 1) (.loop { rec .ready none with state := .busy })) := hba.turn (by omega)
    have hk2 : Kp Wa (Wa.putObj (d + 1) (.loop { rec .ready none with state := .busy })) := hKb _ _ _ _ (by omega) hba.loop rfl rfl
    have hi2 := hI.putObj (.loop { rec .ready none with state := .busy }) k3 (by omega) hba.loop rfl
    have ha2 := (hAx x a').putObj (s := ()) (.loop { rec .ready none with state := .busy }) k4 (by omega) hba.loop rfl
    have hend : ∀ (jump : Option Code) (W3 : World), KeepsFrom d (Wa.putObj (d + 1) (.loop { rec .ready none with state := .busy })) W3 →
        (Instr.endRound (d + 1) jump).run P W3 = .ok (.bool jump.isNone) (W3.putObj (d + 1) (.loop (rec (if jump.isNone then .ready else .done) jump))) ∧
        W3.heap[d + 1]? = some (.loop { rec .ready none with state := .busy }) ∧ Book (d + 1) d (rec (if jump.isNone then .ready else .done) jump) (W3.putObj (d + 1) (.loop (rec (if jump.isNone then .ready else .done) jump))) := fun jump W3 k => by
      have hb3 := hb2.keeps (by omega) (Nat.le_refl _) k
      have hr := run_endRound (P := P) jump hb3.loop
      rw [hrec .ready none] at hr
      rw [hrec (if jump.isNone then .ready else .done) jump]
      exact ⟨hr, hb3.loop, hb3.turn (by omega)⟩
    refine wpIn_mono (hbody (d + 1) pre x a' _ (by omega) ⟨_, hb2.loop⟩ hi2 ha2 hlen) fun e a3 W3 hp => ?_
    obtain ⟨⟨q1, q2⟩, q3⟩ := hp
    have hkk : ∀ o', Kp W (W3.putObj (d + 1) o') := fun o' => hKt k2 (hKt (hKt hk2 q2) (hKb _ _ _ _ (by omega) (hb2.keeps (by omega) (Nat.le_refl _) q1).loop rfl rfl))
    cases e with
    | normal =>
      obtain ⟨r1, r2, r3⟩ := hend none W3 q1
      exact ⟨_, _, r1, .inl ⟨rfl, ⟨hI.putObj _ q3 (by omega) r2 rfl, r3⟩, hkk _⟩⟩
    | ret =>
      obtain ⟨r1, r2, r3⟩ := hend (some .ret) W3 q1
      exact ⟨_, _, r1, .inr ⟨rfl, ⟨.ret, (hIx _).putObj _ q3 (by omega) r2 rfl, r3⟩, hkk _⟩⟩
    | exit id =>
      obtain ⟨r1, r2, r3⟩ := hend (some (.exit id)) W3 q1
      exact ⟨_, _, r1, .inr ⟨rfl, ⟨.exit id, (hIx _).putObj _ q3 (by omega) r2 rfl, r3⟩, hkk _⟩⟩
    | goto t =>
      obtain ⟨r1, r2, r3⟩ := hend (some (.goto t)) W3 q1
      exact ⟨_, _, r1, .inr ⟨rfl, ⟨.goto t, (hIx _).putObj _ q3 (by omega) r2 rfl, r3⟩, hkk _⟩⟩
    | panic ch => exact q3.elim
    | outgrown => exact q3.elim
  · rintro e W2 ⟨⟨v, rfl⟩, (⟨xs, hS, hi, hb⟩ | ⟨pre, hSp, c, hi, hb⟩)⟩
    · have hr := run_endLoop (P := P) hb.loop (by rw [hrec]; simp)
      rw [hrec] at hr
      exact ⟨none, _, hr, hdone d xs _ (Nat.le_refl _) hS (hI.putObj _ hi (by omega) hb.loop rfl) ((World.putObj_heap_other (by omega)).trans hb.calls)⟩
    · have hr := run_endLoop (P := P) hb.loop (by rw [hrec]; simp)
      rw [hrec] at hr
      exact ⟨some c, _, hr, hstop d c pre _ (Nat.le_refl _) hSp ((hIx c).putObj _ hi (by omega) hb.loop rfl) ((World.putObj_heap_other (by omega)).trans hb.calls)⟩
end

/-- a list of numbers does not lie in a block that holds no cells -/
theorem Ints.notIn {S : Nat → Prop} {w : World} {a : Option Addr} {c : Nat} {l : List Int} (h : Ints S w a c l) {k : Nat} {o : Obj} (hk : w.heap[k]? = some o) (ho : o.isCells = false) : Ints (fun b => S b ∧ b ≠ k) w a c l := by
  refine ⟨h.cap, h.max, h.nil, fun hne => ?_⟩
  obtain ⟨b, off, ha, hb, hl, hc⟩ := h.dat hne
  refine ⟨b, off, ha, ⟨hb, fun e => ?_⟩, hl, hc⟩
  subst e
  have h0 : 0 < l.length := List.length_pos_iff.2 hne
  obtain ⟨vs, h1, h2, _⟩ := hc 0 h0
  have h3 := h2 0 (by have := intE.pos; omega)
  unfold World.cell? at h3
  rw [hk] at h3
  cases o <;> simp_all [Obj.isCells]
/-- that a list of numbers reads abides whatever turns no cells -/
theorem ints_own {S : Nat → Prop} {a : Option Addr} {c : Nat} {l : List Int} (B : Nat) : OwnFrom B (fun (_ : Unit) W => Ints S W a c l) := by
  intro s A A' row hs hg hr
  cases row with
  | none => exact hs.same (.of_grown hg (fun b _ e => by cases e))
  | some r =>
    obtain ⟨-, o, ho, hc⟩ := hr r rfl
    exact (hs.notIn ho hc).mono (fun _ _ h => h.1) (.of_grown hg (fun b hb e => hb.2 (by cases e; rfl)))
end Go.Proofs.YtgkddhakhapjlaaGreatDoor

/- What a loop's body leaves alone that writes one box of its own and the list which that box holds. No program is named. -/
namespace Go.Proofs.YtgkddhakhapjlaaGreatDoor
open Go Go.RowKit

def CellsAt (w : World) (b : Nat) : Prop := ∃ o, w.heap[b]? = some o ∧ o.isCells = true
theorem CellsAt.of_cell {w : World} {b off : Nat} {v : Value} (h : w.cell? ⟨b, off, none⟩ = some v) : CellsAt w b := by
  have hl := World.block_lt_of_cell? w _ h
  refine ⟨w.heap[b], Array.getElem?_eq_getElem hl, ?_⟩
  unfold World.cell? at h
  simp only [Array.getElem?_eq_getElem hl] at h
  revert h
  generalize w.heap[b] = o
  intro h
  cases o <;> simp_all [Obj.isCells]
/-- that a slice's blocks hold cells may be added to what is known of them -/
theorem Sl.cellsAt {α : Type} {E : Enc α} (hE : ∀ S w vs x, E.R S w vs x → E.R (fun b => S b ∧ CellsAt w b) w vs x) {S : Nat → Prop} {w : World} {a : Option Addr} {c : Nat} {l : List α} (h : Sl E S w a c l) : Sl E (fun b => S b ∧ CellsAt w b) w a c l := by
  refine ⟨h.cap, h.max, h.nil, fun hne => ?_⟩
  obtain ⟨b, off, ha, hb, hl, hc⟩ := h.dat hne
  have h0 : 0 < l.length := List.length_pos_iff.2 hne
  obtain ⟨vs, g1, g2, _⟩ := hc 0 h0
  have hcell := CellsAt.of_cell (g2 0 (by have := E.pos; omega))
  exact ⟨b, off, ha, ⟨hb, hcell⟩, hl, fun i hi => by obtain ⟨vs, q1, q2, q3⟩ := hc i hi; exact ⟨vs, q1, q2, hE _ _ _ _ q3⟩⟩
theorem Ints.cellsAt {S : Nat → Prop} {w : World} {a : Option Addr} {c : Nat} {l : List Int} (h : Ints S w a c l) : Ints (fun b => S b ∧ CellsAt w b) w a c l := Sl.cellsAt (fun _ _ _ _ h => h) h
theorem Terms.cellsAt {S : Nat → Prop} {w : World} {a : Option Addr} {c : Nat} {l : List (List Int)} (h : Terms S w a c l) : Terms (fun b => S b ∧ CellsAt w b) w a c l :=
  Sl.cellsAt (fun _ _ _ _ h => by obtain ⟨a, c, h1, h2⟩ := h; exact ⟨a, c, h1, Ints.cellsAt h2⟩) h
theorem Sign.cellsAt {S : Nat → Prop} {w : World} {a : Option Addr} {c : Nat} {l : List (ByteArray × Int)} (h : Sign S w a c l) : Sign (fun b => S b ∧ CellsAt w b) w a c l :=
  Sl.cellsAt (fun _ _ _ _ h => by obtain ⟨us, ts, h1, h2, h3⟩ := h; exact ⟨us, ts, h1, h2, h3⟩) h

/-- the block of the list in the box -/
def rowOf (B0 : Nat) (W : World) : Option Nat := match W.cell? ⟨B0, 0, none⟩ with | some v => v.ownBlock | none => none
def RowLt (B0 : Nat) (W : World) : Prop := B0 < W.heap.size ∧ ∀ r, rowOf B0 W = some r → r < W.heap.size
def Safe (B0 : Nat) (W : World) (b : Nat) : Prop := b ≠ B0 ∧ some b ≠ rowOf B0 W ∧ CellsAt W b
structure Leaves (B0 : Nat) (W W' : World) : Prop where
  size : W.heap.size ≤ W'.heap.size
  same : ∀ b, Safe B0 W b → W'.heap[b]? = W.heap[b]?
  row : rowOf B0 W' = rowOf B0 W ∨ ∃ r, rowOf B0 W' = some r ∧ W.heap.size ≤ r
  lt : RowLt B0 W → RowLt B0 W'

section
variable {B0 : Nat} {W W' W2 : World}
theorem CellsAt.lt {b : Nat} (h : CellsAt W b) : b < W.heap.size := by obtain ⟨o, h, _⟩ := h; exact (Array.getElem?_eq_some_iff.1 h).1
theorem CellsAt.same {b : Nat} (h : CellsAt W b) (hs : W'.heap[b]? = W.heap[b]?) : CellsAt W' b := by obtain ⟨o, h, g⟩ := h; exact ⟨o, hs.trans h, g⟩
theorem Leaves.safe (h : Leaves B0 W W') {b : Nat} (hb : Safe B0 W b) : Safe B0 W' b := by
  refine ⟨hb.1, fun e => ?_, hb.2.2.same (h.same b hb)⟩
  rcases h.row with g | ⟨r, g, hr⟩
  · rw [g] at e; exact hb.2.1 e
  · rw [g] at e; cases e; have := hb.2.2.lt; omega
theorem Leaves.agree (h : Leaves B0 W W') : Agree (Safe B0 W) W W' := fun b hb _ => h.same b hb
theorem Leaves.sl {α : Type} {E : Enc α} {a : Option Addr} {c : Nat} {l : List α} (h : Leaves B0 W W') (hs : Sl E (Safe B0 W) W a c l) : Sl E (Safe B0 W') W' a c l :=
  hs.mono (fun _ _ hb => h.safe hb) h.agree
theorem Leaves.refl (B0 : Nat) (W : World) : Leaves B0 W W := ⟨Nat.le_refl _, fun _ _ => rfl, .inl rfl, fun h => h⟩
theorem Leaves.trans (h : Leaves B0 W W') (k : Leaves B0 W' W2) : Leaves B0 W W2 := by
  refine ⟨Nat.le_trans h.size k.size, fun b hb => (k.same b (h.safe hb)).trans (h.same b hb), ?_, fun g => k.lt (h.lt g)⟩
  rcases k.row with g | ⟨r, g, hr⟩
  · rw [g]; exact h.row
  · exact .inr ⟨r, g, Nat.le_trans h.size hr⟩
theorem rowOf_same (h : W'.heap[B0]? = W.heap[B0]?) : rowOf B0 W' = rowOf B0 W := by unfold rowOf; rw [World.cell?_of_block (w := W) h]
theorem Leaves.of_below (hr : B0 < W.heap.size) (h : Below W.heap.size W W') : Leaves B0 W W' := by
  have e := rowOf_same (h.block B0 hr)
  refine ⟨h.size, fun b hb => h.block b hb.2.2.lt, .inl e, fun g => ⟨Nat.lt_of_lt_of_le g.1 h.size, fun r hrr => ?_⟩⟩
  rw [e] at hrr; exact Nat.lt_of_lt_of_le (g.2 r hrr) h.size
/-- what is new is safe -/
theorem Safe.fresh (hr : RowLt B0 W) (h : Below W.heap.size W W') {b : Nat} (hb : W.heap.size ≤ b) (hc : CellsAt W' b) : Safe B0 W' b :=
  ⟨by have := hr.1; omega, fun e => by rw [rowOf_same (h.block B0 hr.1)] at e; have := hr.2 b e.symm; omega, hc⟩
theorem Below.grow {A B : World} (h : Below A.heap.size A B) : A.grownBy B none := ⟨h.os, h.tape, h.output, h.size, fun k hk _ => h.block k hk⟩
theorem Leaves.cell (h : Leaves B0 W W') {b off : Nat} {v : Value} (hb : Safe B0 W b) (hc : W.cell? ⟨b, off, none⟩ = some v) : W'.cell? ⟨b, off, none⟩ = some v := (World.cell?_of_block (w := W) (h.same b hb)).trans hc
/-- a turn of a block that holds no cells -/
theorem Leaves.putObj {l : Nat} {o o' : Obj} (hl : B0 < l) (h : W.heap[l]? = some o) (hc : o.isCells = false) : Leaves B0 W (W.putObj l o') := by
  have hne : B0 ≠ l := by omega
  have e : rowOf B0 (W.putObj l o') = rowOf B0 W := rowOf_same (World.putObj_heap_other hne)
  refine ⟨by simp [World.putObj], fun b hb => ?_, .inl e, fun g => ⟨by simpa [World.putObj] using g.1, fun r hrr => ?_⟩⟩
  · refine World.putObj_heap_other (fun eb => ?_)
    subst eb
    obtain ⟨o2, g1, g2⟩ := hb.2.2
    rw [h] at g1; cases g1; rw [hc] at g2; cases g2
  · rw [e] at hrr; simpa [World.putObj] using g.2 r hrr
end
end Go.Proofs.YtgkddhakhapjlaaGreatDoor

/- A list that a call makes itself and keeps in a box of its own, while a loop's body appends to it. No program is named. -/
namespace Go.Proofs.YtgkddhakhapjlaaGreatDoor
open Go Go.RowKit

/-- the encoding says nothing of blocks that hold no cells -/
def Celled {α : Type} (E : Enc α) : Prop := ∀ S w vs x, E.R S w vs x → E.R (fun b => S b ∧ CellsAt w b) w vs x
theorem celled_int : Celled intE := fun _ _ _ _ h => h
theorem celled_sl {α : Type} {E : Enc α} (h : Celled E) : Celled (slE E) := fun _ _ _ _ hr => by obtain ⟨a, c, h1, h2⟩ := hr; exact ⟨a, c, h1, Sl.cellsAt h h2⟩

def BoxL {α : Type} (E : Enc α) (B0 : Nat) (T : TypeId) (base : Nat) (e : TypeId) (l : List α) (W : World) : Prop := ∃ v, Boxed W B0 T v ∧ OwnL E (fun b => b ≠ B0) W base e v l

section
variable {α : Type} {E : Enc α} {B0 : Nat} {T e : TypeId} {base : Nat} {l : List α} {W : World}
theorem OwnL.rowCells {S : Nat → Prop} {v : Value} (h : OwnL E S W base e v l) : ∀ k, v.ownBlock = some k → ∃ cur, W.heap[k]? = some (.cells cur e (0, 0)) := by
  intro k hk
  obtain ⟨xs, ho, -⟩ := h
  rcases ho.2 with ⟨rfl, -⟩ | ⟨g, cap, cur, rfl, -, hg, -⟩
  · simp [Value.ownBlock] at hk
  · simp [Value.ownBlock] at hk; subst hk; exact ⟨cur, hg⟩
theorem OwnL.notBox {S : Nat → Prop} {v u : Value} (h : OwnL E S W base e v l) (hB : Boxed W B0 T u) (hT : T ≠ e) : v.ownBlock ≠ some B0 := by
  intro hk
  obtain ⟨cur, hc⟩ := h.rowCells B0 hk
  rw [show W.heap[B0]? = _ from hB] at hc
  simp only [Option.some.injEq, Obj.cells.injEq] at hc
  exact hT hc.2.1
theorem OwnL.celled {S : Nat → Prop} {v : Value} (hE : Celled E) (h : OwnL E S W base e v l) : OwnL E (fun b => S b ∧ CellsAt W b) W base e v l := by
  obtain ⟨xs, ho, hl, hx⟩ := h
  exact ⟨xs, ho, hl, fun i h1 h2 => E.mono (hE _ _ _ _ (hx i h1 h2)) (fun b _ hb => ⟨⟨hb.1.1, hb.2⟩, hb.1.2⟩) (.refl _ _)⟩
theorem boxL_own {β : Type} (hE : Celled E) (B : Nat) (f : β → List α) : OwnFrom B (fun s W => BoxL E B0 T base e (f s) W) := by
  rintro s A A' row ⟨v, hv, ho⟩ hg hr
  have hne : ∀ {k : Nat} {o : Obj}, A.heap[k]? = some o → o.isCells = true → row ≠ some k := by
    intro k o hk hc e
    obtain ⟨-, o', ho', hc'⟩ := hr k e
    rw [hk] at ho'; cases ho'; rw [hc] at hc'; cases hc'
  refine ⟨v, hv.kept hg (fun e => hne hv rfl e.symm), OwnL.weak ((OwnL.celled hE ho).grown hg (fun k hk => ?_) (fun b hb _ => ?_)) (fun b _ hb => hb.1)⟩
  · obtain ⟨cur, hc⟩ := ho.rowCells k hk; exact hne hc rfl
  · obtain ⟨o, h1, h2⟩ := hb.2; exact hne h1 h2
theorem OwnL.putObj {S : Nat → Prop} {v : Value} (h : OwnL E S W base e v l) {D : Nat} {o o' : Obj} (hD : W.heap[D]? = some o) (hc : o.isCells = false) (hE : Celled E) : OwnL E (fun _ => True) (W.putObj D o') base e v l := by
  have hne : ∀ {k : Nat} {q : Obj}, W.heap[k]? = some q → q.isCells = true → (some D : Option Nat) ≠ some k := by
    intro k q hk hq e
    cases e; rw [hD] at hk; cases hk; rw [hc] at hq; cases hq
  refine OwnL.weak ((OwnL.celled hE h).grown (grownBy_putObj' W D o') (fun k hk => ?_) (fun b hb _ => ?_)) (fun _ _ _ => trivial)
  · obtain ⟨cur, hcur⟩ := h.rowCells k hk; exact hne hcur rfl
  · obtain ⟨q, h1, h2⟩ := hb.2; exact hne h1 h2
theorem rowOf_boxed {v : Value} (h : Boxed W B0 T v) : rowOf B0 W = v.ownBlock := by unfold rowOf; rw [h.cell]
theorem BoxL.rowLt (h : BoxL E B0 T base e l W) : RowLt B0 W := by
  obtain ⟨v, hv, ho⟩ := h
  exact ⟨hv.lt, fun r hr => by rw [rowOf_boxed hv] at hr; exact (ho.lt r hr).2⟩
theorem BoxL.new (W : World) : BoxL E W.heap.size T base e [] (W.alloc (.cells #[.slice none 0 0] T)) := ⟨_, Boxed.new W T _, .nil _ _ _ _ _⟩
theorem BoxL.below {W' : World} (h : BoxL E B0 T base e l W) (hb : Below W.heap.size W W') : BoxL E B0 T base e l W' := by
  obtain ⟨v, hv, ho⟩ := h
  exact ⟨v, (hb.block B0 hv.lt).trans hv, ho.call hb⟩
/-- append of one element -/
theorem box_push {P : Program} {v : Value} {W1 : World} (hv : Boxed W B0 T v) (ho : OwnL E (fun b => b ≠ B0) W base e v l) (hT : T ≠ e) (hbs : base ≤ W.heap.size) (hb0 : base ≤ B0) (hb1 : Below W.heap.size W W1)
    {t ty : TypeId} {z : Value} {bytes : Nat} (ht : P.underlying t = some (.slice e)) (hinfo : (P.info? e).map (fun i => (i.zero, i.size, i.bytes)) = some (some z, E.size, bytes)) (hzs : z.cells.size = E.size)
    {vs : List Value} {x : α} (hR : E.R (Off (fun b => b ≠ B0) v) W1 vs x) (hlen : (l.length + 1) * bytes ≤ 140737488355328) (hmax : l.length + 1 ≤ big) :
    ∃ a' cap W2, RowKit.Hid ((Builtin.append_ #[t, t] ty #[v, .slice (some ⟨W1.heap.size, 0, none⟩) 1 1]).run P (W1.alloc (.cells vs.toArray e)) = .ok (.slice a' (l.length + 1) cap) W2) ∧
      RowKit.Hid (W2.cell? ⟨B0, 0, none⟩ = some v) ∧ RowKit.Hid (W2.frozen? ⟨B0, 0, none⟩ = false) ∧
      RowKit.Hid (BoxL E B0 T base e (l ++ [x]) (W2.setCell ⟨B0, 0, none⟩ (.slice a' (l.length + 1) cap))) ∧ RowKit.Hid (KeepsOthers W (W2.setCell ⟨B0, 0, none⟩ (.slice a' (l.length + 1) cap))) ∧
      RowKit.Hid (Leaves B0 W (W2.setCell ⟨B0, 0, none⟩ (.slice a' (l.length + 1) cap))) ∧ RowKit.Hid (Below base W (W2.setCell ⟨B0, 0, none⟩ (.slice a' (l.length + 1) cap))) := by
  have ho1 := ho.call hb1
  have hv1 : Boxed W1 B0 T v := (hb1.block B0 hv.lt).trans hv
  obtain ⟨v', W2, hrun, ho2, hg, hat⟩ := ho1.push (P := P) (t := t) (ty := ty) ht hinfo hzs hR hlen hmax (Nat.le_trans hbs hb1.size)
  obtain ⟨a', cap, rfl, -⟩ := ho2.sl
  rw [List.length_append, List.length_singleton] at hrun ho2 hat
  have hv2 : Boxed W2 B0 T v := hv1.kept hg (fun e => ho1.notBox hv1 hT e.symm)
  have hg3 : W2.grownBy (W2.setCell ⟨B0, 0, none⟩ (.slice a' (l.length + 1) cap)) (some B0) := grownBy_setCell' _ _ _
  have ho3 := ho2.grown hg3 (fun k hk e => by cases e; exact ho2.notBox hv2 hT hk) (fun b hb _ e => by cases e; exact hb rfl)
  have hv3 : Boxed (W2.setCell ⟨B0, 0, none⟩ (.slice a' (l.length + 1) cap)) B0 T (.slice a' (l.length + 1) cap) := hv2.set _
  have hsz : W.heap.size ≤ W2.heap.size := Nat.le_trans hb1.size hg.size
  refine ⟨a', cap, W2, Lib.hid hrun, Lib.hid hv2.cell, Lib.hid hv2.frozen, Lib.hid ⟨_, hv3, ho3⟩, Lib.hid ?_, Lib.hid ?_, Lib.hid ?_⟩
  · refine (KeepsOthers.of_grownBy (row := none) (Below.grow hb1) (fun j o e => by cases e)).trans ((KeepsOthers.of_grownBy hg (fun j o e ho => ?_)).trans (KeepsOthers.setCell _ _ _))
    obtain ⟨cur, hc⟩ := ho1.rowCells j e
    rw [hc] at ho; cases ho; rfl
  · have hrW := rowOf_boxed hv
    have hr3 := rowOf_boxed hv3
    refine ⟨Nat.le_trans hsz hg3.size, fun b hb => ?_, ?_, fun _ => BoxL.rowLt ⟨_, hv3, ho3⟩⟩
    · have hbl := hb.2.2.lt
      have hb2 := hb.2.1
      rw [hrW] at hb2
      exact (hg3.block b (Nat.lt_of_lt_of_le hbl hsz) (fun e => hb.1 (by cases e; rfl))).trans ((hg.block b (Nat.lt_of_lt_of_le hbl hb1.size) hb2).trans (hb1.block b hbl))
    · rw [hr3, hrW]
      rcases hat with h | ⟨k, h1, h2⟩
      · exact .inl h
      · exact .inr ⟨k, h1, Nat.le_trans hb1.size h2⟩
  · exact ((hb1.mono hbs).grown hg (Nat.le_trans hbs hb1.size) (fun k e => (ho1.lt k e).1)).grown hg3 (Nat.le_trans hbs hsz) (fun k e => by cases e; exact hb0)
end
end Go.Proofs.YtgkddhakhapjlaaGreatDoor

/- Walks of package unify: full, made, Meet. -/
namespace Go.Proofs.YtgkddhakhapjlaaGreatDoor
open Go Go.RowKit Go.Maps

/-- only what lies from K on, and the box B0, has turned -/
structure FB (K B0 : Nat) (w w' : World) : Prop where
  os : w'.os = w.os
  tape : w'.tape = w.tape
  output : w'.output = w.output
  size : w.heap.size ≤ w'.heap.size
  block : ∀ b, b < K → b ≠ B0 → w'.heap[b]? = w.heap[b]?
section
variable {K B0 : Nat} {w w1 w2 : World}
theorem FB.refl (K B0 : Nat) (w : World) : FB K B0 w w := ⟨rfl, rfl, rfl, Nat.le_refl _, fun _ _ _ => rfl⟩
theorem FB.trans (h : FB K B0 w w1) (k : FB K B0 w1 w2) : FB K B0 w w2 := ⟨k.os.trans h.os, k.tape.trans h.tape, k.output.trans h.output, Nat.le_trans h.size k.size, fun b hb hne => (k.block b hb hne).trans (h.block b hb hne)⟩
theorem FB.below (h : FB K B0 w w1) {C : Nat} (h1 : C ≤ K) (h2 : C ≤ B0) : Below C w w1 := ⟨h.os, h.tape, h.output, h.size, fun b hb => h.block b (by omega) (by omega)⟩
theorem FB.cell (h : FB K B0 w w1) {b off : Nat} {v : Value} (hb : b < K) (hne : b ≠ B0) (hc : w.cell? ⟨b, off, none⟩ = some v) : w1.cell? ⟨b, off, none⟩ = some v := (World.cell?_of_block (w := w) (h.block b hb hne)).trans hc
end
/-- what lies in memory while a term is made full -/
structure FulW (w0 w : World) (xb mb nb : Nat) (a1 : Option Addr) (c1 : Nat) (s : Sg) (B : Bd) (xx wb ob K : Nat) (o : List Int) : Prop where
  S : SolvW w0 w xb mb nb a1 c1 s B
  cx : w.cell? ⟨xx, 0, none⟩ = some (.pointer (some ⟨xb, 0, none⟩))
  cw : w.cell? ⟨wb, 0, none⟩ = some (.func (.func 190) #[] #[.pointer (some ⟨xx, 0, none⟩), .pointer (some ⟨wb, 0, none⟩), .pointer (some ⟨ob, 0, none⟩)])
  lts : xb < K ∧ mb < K ∧ xx < K ∧ wb < K ∧ ob < K
  nes : xb ≠ ob ∧ mb ≠ ob ∧ xx ≠ ob ∧ wb ≠ ob
  low : w0.heap.size ≤ ob
  box : ∃ v, Boxed w ob 34 v ∧ OwnI w K v o
  size : K ≤ w.heap.size
section
variable {w0 w w1 : World} {xb mb nb : Nat} {a1 : Option Addr} {c1 : Nat} {s : Sg} {B : Bd} {xx wb ob K : Nat} {o o' : List Int}
theorem FulW.turn (h : FulW w0 w xb mb nb a1 c1 s B xx wb ob K o) (hf : FB K ob w w1) (hb : ∃ v, Boxed w1 ob 34 v ∧ OwnI w1 K v o') : FulW w0 w1 xb mb nb a1 c1 s B xx wb ob K o' := by
  obtain ⟨l1, l2, l3, l4, l5⟩ := h.lts
  obtain ⟨n1, n2, n3, n4⟩ := h.nes
  have hS := h.S
  refine ⟨⟨hf.cell l1 n1 hS.k0, hf.cell l1 n1 hS.k1, ?_, hS.bx, hS.bm, hS.ne, hS.sg, hS.bel.trans (hf.below (Nat.le_trans h.low (Nat.le_of_lt l5)) h.low), hS.wf⟩, hf.cell l3 n3 h.cx, hf.cell l4 n4 h.cw, h.lts, h.nes, h.low, hb, Nat.le_trans h.size hf.size⟩
  obtain ⟨f, g1, g2, g3⟩ := hS.map
  exact ⟨f, g1.same (hf.block mb l2 n2), g2, g3⟩
/-- one number more -/
theorem FulW.push (h : FulW w0 w xb mb nb a1 c1 s B xx wb ob K o) (x : Int) (hx : inRange x) (hl : o.length ≤ 1000) :
    ∃ v w2 a' cap, RowKit.Hid (w.cell? ⟨ob, 0, none⟩ = some v) ∧ RowKit.Hid ((Builtin.append_ #[34, 34] 34 #[v, .slice (some ⟨w.heap.size, 0, none⟩) 1 1]).run Tryz.prog (w.alloc (.cells #[.int .i64 x] 3)) = .ok (.slice a' (o.length + 1) cap) w2) ∧
      RowKit.Hid (w2.cell? ⟨ob, 0, none⟩ = some v) ∧ RowKit.Hid (w2.frozen? ⟨ob, 0, none⟩ = false) ∧ RowKit.Hid (FB K ob w (w2.setCell ⟨ob, 0, none⟩ (.slice a' (o.length + 1) cap))) ∧
      RowKit.Hid (FulW w0 (w2.setCell ⟨ob, 0, none⟩ (.slice a' (o.length + 1) cap)) xb mb nb a1 c1 s B xx wb ob K (o ++ [x])) ∧ RowKit.Hid ((w2.setCell ⟨ob, 0, none⟩ (.slice a' (o.length + 1) cap)).cell? ⟨ob, 0, none⟩ = some (.slice a' (o.length + 1) cap)) := by
  obtain ⟨v, hv, ho⟩ := h.box
  obtain ⟨v', w2, hrun, ho2, hg, -⟩ := ho.push (P := Tryz.prog) (t := 34) (ty := 34) Tryz.underlying34 infoInt rfl (vs := [.int .i64 x]) (x := x) ⟨rfl, hx⟩ (by omega) (by unfold big; omega) h.size
  obtain ⟨a', cap, rfl, -⟩ := ho2.sl
  rw [List.length_append, List.length_singleton] at hrun ho2
  have l5 := h.lts.2.2.2.2
  have hne : ∀ {u : Value} {W : World} {l}, OwnI W K u l → u.ownBlock ≠ some ob := fun ho e => by have := (OwnL.lt ho _ e).1; omega
  have hv2 : Boxed w2 ob 34 v := hv.kept hg (fun e => hne ho e.symm)
  have hg3 : w2.grownBy (w2.setCell ⟨ob, 0, none⟩ (.slice a' (o.length + 1) cap)) (some ob) := grownBy_setCell' _ _ _
  have ho3 := OwnL.grown ho2 hg3 (fun k hk e => by cases e; exact hne ho2 hk) (fun b hb _ => hb.elim)
  have hv3 : Boxed (w2.setCell ⟨ob, 0, none⟩ (.slice a' (o.length + 1) cap)) ob 34 (.slice a' (o.length + 1) cap) := hv2.set _
  have hB2 : Below K w w2 := (Below.refl K w).grown hg h.size (fun k e => (OwnL.lt ho k e).1)
  have hF : FB K ob w (w2.setCell ⟨ob, 0, none⟩ (.slice a' (o.length + 1) cap)) :=
    ⟨hg3.os.trans hB2.os, hg3.tape.trans hB2.tape, hg3.output.trans hB2.output, Nat.le_trans hB2.size hg3.size, fun b hb hn => (hg3.block b (Nat.lt_of_lt_of_le hb (Nat.le_trans h.size hB2.size)) (fun e => hn (by cases e; rfl))).trans (hB2.block b hb)⟩
  exact ⟨v, w2, a', cap, Lib.hid hv.cell, Lib.hid hrun, Lib.hid hv2.cell, Lib.hid hv2.frozen, Lib.hid hF, Lib.hid (h.turn hF ⟨_, hv3, ho3⟩), Lib.hid hv3.cell⟩
end
def fullRet (w0 : World) (xb mb nb : Nat) (a1 : Option Addr) (c1 : Nat) (s : Sg) (B : Bd) (θ : Int → List Int) (xx wb ob K : Nat) (o t : List Int) (w : World) (e : Ending) (w' : World) : Prop :=
  ∃ r o', e = .returned (.bool r) ∧ FB K ob w w' ∧ FulW w0 w' xb mb nb a1 c1 s B xx wb ob K o' ∧ (r = true → o' = o ++ ap θ t ∧ o'.length ≤ 60) ∧ (r = false → 60 < (o ++ ap θ t).length)
def fullRel (w0 : World) (xb mb nb : Nat) (a1 : Option Addr) (c1 : Nat) (s : Sg) (B : Bd) (θ : Int → List Int) (xx wb ob K : Nat) (o t : List Int) (w : World) (jv : Value) (wr : World) : Prop :=
  ∃ (j : Nat), jv = .int .i64 j ∧ j ≤ t.length ∧ FB K ob w wr ∧ FulW w0 wr xb mb nb a1 c1 s B xx wb ob K (o ++ ap θ (t.take j)) ∧ (o ++ ap θ (t.take j)).length ≤ 60
theorem len_app (a b : List Int) : (a ++ b).length = a.length + b.length := List.length_append
theorem ap_cut {θ : Int → List Int} {t : List Int} {j : Nat} (h : j < t.length) : ap θ (t.take (j + 1)) = ap θ (t.take j) ++ ap θ [t[j]] ∧ (ap θ (t.take j) ++ ap θ [t[j]]).length ≤ (ap θ t).length := by
  have e : ap θ (t.take (j + 1)) = ap θ (t.take j) ++ ap θ [t[j]] := by rw [List.take_succ_eq_append_getElem h, ap_append]
  refine ⟨e, ?_⟩
  rw [← e]
  have : ap θ t = ap θ (t.take (j + 1)) ++ ap θ (t.drop (j + 1)) := by rw [← ap_append, List.take_append_drop]
  rw [this, List.length_append]; omega
set_option maxRecDepth 20000 in
set_option maxHeartbeats 8000000 in
theorem full1_any {w0 : World} {xb mb nb : Nat} {a1 : Option Addr} {c1 : Nat} {s : Sg} {B : Bd} {θ : Int → List Int} {ρ : Int → Nat} (hSl : Slv s B θ ρ) (xx wb ob KK : Nat) :
    ∀ (K : Nat) (t : List Int) (a : Option Addr) (c : Nat) (o : List Int) (w : World), (∀ m ∈ t, m < 0 → ρ m < K) → T0 w0 a c t → FulW w0 w xb mb nb a1 c1 s B xx wb ob KK o → o.length ≤ 60 →
      Calls Tryz.prog 190 #[.slice a t.length c, .pointer (some ⟨xx, 0, none⟩), .pointer (some ⟨wb, 0, none⟩), .pointer (some ⟨ob, 0, none⟩)] w (fullRet w0 xb mb nb a1 c1 s B θ xx wb ob KK o t w) := by
  intro K
  induction K using Nat.strongRecOn with
  | _ K ih =>
    intro t a c o w hK hT hF ho60
    have ihH := Lib.hid ih
    have hKH := Lib.hid hK
    have hTH := Lib.hid hT
    have hFH := Lib.hid hF
    have hoH := Lib.hid ho60
    have m2 := hT.le
    clear ih hK hT hF ho60
    go_enter Tryz.func190, Tryz.ntmps190
    go_wp2_with fail
    go_loopw [12] (fun jv wr => fullRel w0 xb mb nb a1 c1 s B θ xx wb ob KK o t w jv wr) (fun jv _ => t.length - (intOf jv).toNat)
    case atStart => exact ⟨0, rfl, Nat.zero_le _, .refl _ _ _, by rw [List.take_zero, ap_nil, List.append_nil]; exact hFH.out, by rw [List.take_zero, ap_nil, List.append_nil]; exact hoH.out⟩
    case round =>
      obtain ⟨j, rfl, hj, hf, hW, h60⟩ := hrel
      by_cases hlt : j < t.length
      · obtain ⟨b, off, rfl, -, q, hr⟩ := (hTH.out.below hW.S.bel).int j hlt
        obtain ⟨hcut, hcl⟩ := ap_cut (θ := θ) hlt
        have hKx := hKH.out t[j] (List.getElem_mem hlt)
        obtain ⟨x, hx⟩ : ∃ x, t[j] = x := ⟨_, rfl⟩
        rw [hx] at q hr hcut hcl hKx
        obtain ⟨oj, hoj⟩ : ∃ u, o ++ ap θ (t.take j) = u := ⟨_, rfl⟩
        have hcut2 : o ++ ap θ (t.take (j + 1)) = oj ++ ap θ [x] := by rw [hcut, ← List.append_assoc, hoj]
        have hcl2 : (oj ++ ap θ [x]).length ≤ (o ++ ap θ t).length := by rw [← hoj, List.append_assoc, len_app o, len_app o]; omega
        rw [hoj] at hW h60
        have k1 := hW.S.k1
        have cx := hW.cx
        have cw := hW.cw
        have hfH := Lib.hid hf
        have hWH := Lib.hid hW
        have hc2H := Lib.hid hcut2
        have hl2H := Lib.hid hcl2
        have h60H := Lib.hid h60
        clear hf hW hcut hcl hcut2 hcl2 hoj hx h60
        cases hB : B x with
        | some u =>
          have hwf := hSl.wf x u hB
          have hx0 := hwf.2
          obtain ⟨a3, c3, hlk, hI3⟩ := hWH.out.S.map.look_some x hr hB
          have cu := ihH.out (ρ x) (hKx hx0) u a3 c3 oj wr (fun m hm h0 => hSl.rk x u hB m hm h0) hI3 hWH.out h60H.out
          have hth : ap θ [x] = ap θ u := by rw [ap_one hx0, hSl.bnd x u hB]
          have hthH := Lib.hid hth
          have cuH := Lib.hid cu
          clear hth cu hI3 hwf hB hKx
          go_wp2_with fail
          (with_reducible refine cuH.out.mono ?_)
          rintro e w3 ⟨r, o', rfl, hf3, hW3, ht3, hn3⟩
          cases r with
          | true =>
            obtain ⟨e3, l3⟩ := ht3 rfl
            have heq : o' = o ++ ap θ (t.take (j + 1)) := by rw [hc2H.out, hthH.out]; exact e3
            rw [heq] at hW3 l3
            have hW3H := Lib.hid hW3
            have hf3H := Lib.hid (hfH.out.trans hf3)
            have l3H := Lib.hid l3
            clear hf3 hW3 ht3 hn3 heq e3 l3 cx cw k1
            go_wp2_with fail
            go_roundw
            case rel => exact ⟨j + 1, by go_num, by omega, hf3H.out, hW3H.out, l3H.out⟩
            case measure => simp [intOf]; omega
          | false =>
            have hn := hn3 rfl
            have hlong : 60 < (o ++ ap θ t).length := by have := hl2H.out; rw [hthH.out] at this; omega
            have hW3H := Lib.hid hW3
            have hf3H := Lib.hid (hfH.out.trans hf3)
            have hlH := Lib.hid hlong
            clear hf3 hW3 ht3 hn3 hn hlong cx cw k1
            go_wp2_with fail
            go_ret
            exact ⟨false, _, rfl, hf3H.out, hW3H.out, (fun h => by cases h), fun _ => hlH.out⟩
        | none =>
          have hlk := hWH.out.S.map.look_none x hr hB
          have hth : ap θ [x] = [x] := by
            by_cases h0 : x < 0
            · rw [ap_one h0, hSl.free x h0 hB]
            · rw [ap_pos h0, ap_nil]
          obtain ⟨v, w2, a', cap, cv, hrun, cv2, hfz, hF2, hW2, cv3⟩ := hWH.out.push x hr (by have := h60H.out; omega)
          have cvo := cv.out
          have hruno := hrun.out
          have cv2o := cv2.out
          have hfzo := hfz.out
          have cv3o := cv3.out
          have heq : oj ++ [x] = o ++ ap θ (t.take (j + 1)) := by rw [hc2H.out, hth]
          have hW2' := hW2.out
          rw [heq] at hW2'
          have hlen : oj.length + 1 = (o ++ ap θ (t.take (j + 1))).length := by rw [← heq, List.length_append, List.length_singleton]
          have hll := hl2H.out
          rw [hth, List.length_append, List.length_singleton] at hll
          have hW2H := Lib.hid hW2'
          have hF2H := Lib.hid (hfH.out.trans hF2.out)
          have hlenH := Lib.hid hlen
          have hllH := Lib.hid hll
          clear hth hB hKx hW2 hF2 heq hW2' hlen hll cv hrun cv2 hfz cv3 cw
          obtain ⟨L, hL⟩ : ∃ L, oj.length = L := ⟨_, rfl⟩
          rw [hL] at hruno cv3o
          have hLH := Lib.hid hL
          by_cases h61 : L + 1 ≤ 60
          · have hd : decide ((60 : Int) < ((L + 1 : Nat) : Int)) = false := by simp; omega
            have hres : fullRel w0 xb mb nb a1 c1 s B θ xx wb ob KK o t w (.int .i64 ((j + 1 : Nat) : Int)) (w2.setCell ⟨ob, 0, none⟩ (.slice a' (L + 1) cap)) := ⟨j + 1, rfl, by omega, by rw [← hL]; exact hF2H.out, by rw [← hL]; exact hW2H.out, by rw [← hlenH.out, hL]; exact h61⟩
            have hresH := Lib.hid hres
            clear hres hL
            go_wp2_with (at_builtin; refine wpList_append_run rfl _ _ _ rfl rfl rfl hruno ?_)
            all_goals
              go_roundw
              case rel => exact hresH.out
              case measure => simp [intOf]; omega
          · have hd : decide ((60 : Int) < ((L + 1 : Nat) : Int)) = true := by simp; omega
            have hW2K := Lib.hid (show FulW w0 (w2.setCell ⟨ob, 0, none⟩ (.slice a' (L + 1) cap)) xb mb nb a1 c1 s B xx wb ob KK (o ++ ap θ (t.take (j + 1))) by rw [← hL]; exact hW2H.out)
            have hF2K := Lib.hid (show FB KK ob w (w2.setCell ⟨ob, 0, none⟩ (.slice a' (L + 1) cap)) by rw [← hL]; exact hF2H.out)
            have hlK := Lib.hid (show 60 < (o ++ ap θ t).length by have := hllH.out; omega)
            clear hL
            go_wp2_with (at_builtin; refine wpList_append_run rfl _ _ _ rfl rfl rfl hruno ?_)
            all_goals
              go_ret
              exact ⟨false, _, rfl, hF2K.out, hW2K.out, (fun h => by cases h), fun _ => hlK.out⟩
      · obtain rfl : j = t.length := by omega
        rw [List.take_length] at hW h60
        have hWH := Lib.hid hW
        have h60H := Lib.hid h60
        have hfH := Lib.hid hf
        clear hW h60 hf
        go_wp2_with fail
        go_ret
        exact ⟨true, _, rfl, hfH.out, hWH.out, fun _ => ⟨rfl, h60H.out⟩, fun h => by cases h⟩
end Go.Proofs.YtgkddhakhapjlaaGreatDoor

/- Walks of package unify: full, made, Meet. -/
namespace Go.Proofs.YtgkddhakhapjlaaGreatDoor
open Go Go.RowKit Go.Maps

theorem fulW_made {w0 w W : World} {xb mb nb : Nat} {a1 : Option Addr} {c1 : Nat} {s : Sg} {B : Bd} (hS : SolvW w0 w xb mb nb a1 c1 s B) (t1 t3 : TypeId)
    (hW : ((w.alloc (.cells #[.pointer (some ⟨xb, 0, none⟩)] t1)).alloc (.cells #[.slice none 0 0] 34)).alloc (.cells #[.func (.func 190) #[] #[.pointer (some ⟨w.heap.size, 0, none⟩), .pointer (some ⟨w.heap.size + 1 + 1, 0, none⟩), .pointer (some ⟨w.heap.size + 1, 0, none⟩)]] t3) = W) :
    FulW w0 W xb mb nb a1 c1 s B w.heap.size (w.heap.size + 1 + 1) (w.heap.size + 1) (w.heap.size + 1 + 1 + 1) [] ∧ Below w.heap.size w W := by
  have hb : Below w.heap.size w W := by rw [← hW]; exact below3 _ _ _ _
  have e1 : W.cell? ⟨w.heap.size, 0, none⟩ = some (.pointer (some ⟨xb, 0, none⟩)) := by rw [← hW]; clear hW; go_simp
  have e2 : W.cell? ⟨w.heap.size + 1 + 1, 0, none⟩ = some (.func (.func 190) #[] #[.pointer (some ⟨w.heap.size, 0, none⟩), .pointer (some ⟨w.heap.size + 1 + 1, 0, none⟩), .pointer (some ⟨w.heap.size + 1, 0, none⟩)]) := by rw [← hW]; clear hW; go_simp
  have hv : Boxed W (w.heap.size + 1) 34 (.slice none 0 0) := by
    rw [← hW]
    have := (Boxed.new (w.alloc (.cells #[.pointer (some ⟨xb, 0, none⟩)] t1)) 34 (.slice none 0 0)).alloc (.cells #[.func (.func 190) #[] #[.pointer (some ⟨w.heap.size, 0, none⟩), .pointer (some ⟨w.heap.size + 1 + 1, 0, none⟩), .pointer (some ⟨w.heap.size + 1, 0, none⟩)]] t3)
    rw [World.size_alloc] at this
    exact this
  have hx := hS.lt
  have hm := hS.map.lt
  have hz := hS.bel.size
  have hsz : W.heap.size = w.heap.size + 1 + 1 + 1 := by rw [← hW]; simp
  exact ⟨⟨hS.below hb, e1, e2, ⟨by omega, by omega, by omega, by omega, by omega⟩, ⟨by omega, by omega, by omega, by omega⟩, by omega, ⟨_, hv, .nil _ _ _ _ _⟩, by omega⟩, hb⟩
set_option maxRecDepth 20000 in
set_option maxHeartbeats 4000000 in
theorem full_any {w0 w : World} {xb mb nb : Nat} {a1 : Option Addr} {c1 : Nat} {s : Sg} {B : Bd} {θ : Int → List Int} {ρ : Int → Nat} (hS : SolvW w0 w xb mb nb a1 c1 s B) (hSl : Slv s B θ ρ) {a : Option Addr} {c : Nat} {t : List Int} (ht : T0 w0 a c t) :
    Calls Tryz.prog 152 #[.pointer (some ⟨xb, 0, none⟩), .slice a t.length c] w fun e w' => ∃ v r o', e = .returned (.tuple #[v, .bool r]) ∧ OwnI w' w.heap.size v o' ∧ Below w.heap.size w w' ∧ (r = true → o' = ap θ t ∧ o'.length ≤ 60) ∧ (r = false → 60 < (ap θ t).length) := by
  obtain ⟨K, hK⟩ := rank_bound ρ t
  have hSH := Lib.hid hS
  have m2 := ht.le
  have key := fun xx wb ob KK W => full1_any (w0 := w0) (xb := xb) (mb := mb) (nb := nb) (a1 := a1) (c1 := c1) hSl xx wb ob KK K t a c [] W hK ht
  have keyH := Lib.hid key
  clear key hS
  go_enter Tryz.func152, Tryz.ntmps152
  go_wp2_with fail
  obtain ⟨hF, hB⟩ := fulW_made hSH.out _ _ rfl
  (with_reducible refine (keyH.out _ _ _ _ _ hF (by decide)).mono ?_)
  rintro e w3 ⟨r, o', rfl, hf3, hW3, ht3, hn3⟩
  rw [List.nil_append] at hn3
  simp only [List.nil_append] at ht3
  obtain ⟨v, hv, ho⟩ := hW3.box
  have hcv := hv.cell
  have hoH := Lib.hid (OwnL.baseMono (base' := w.heap.size) ho (by omega))
  have hBH := Lib.hid (hB.trans (hf3.below (C := w.heap.size) (by omega) (by omega)))
  have htH := Lib.hid ht3
  have hnH := Lib.hid hn3
  clear hF hB hf3 hW3 ht3 hn3 hv ho
  go_wp2_with fail
  go_ret2
  exact ⟨v, r, o', rfl, hoH.out, hBH.out, htH.out, hnH.out⟩
set_option maxHeartbeats 2000000 in
theorem made_any {w0 w : World} {xb mb nb : Nat} {a1 : Option Addr} {c1 : Nat} {s : Sg} {B : Bd} {θ : Int → List Int} {ρ : Int → Nat} (hS : SolvW w0 w xb mb nb a1 c1 s B) (hSl : Slv s B θ ρ) {a : Option Addr} {c : Nat} {t : List Int} (ht : T0 w0 a c t) :
    Calls Tryz.prog 115 #[.pointer (some ⟨xb, 0, none⟩), .slice a t.length c] w (retE (madeE θ t) w) := by
  have m2 := ht.le
  have cf := full_any hS hSl ht
  have cfH := Lib.hid cf
  clear cf hS hSl ht
  go_enter Tryz.func115, Tryz.ntmps115
  go_wp2_with fail
  refine cfH.out.mono ?_
  rintro e w1 ⟨v, r, o, rfl, ho, hb1, ht, hn⟩
  clear cfH
  cases r with
  | false =>
    have hl := hn rfl
    have hm : madeE θ t = ([], 4) := by unfold madeE; exact if_neg (fun h => by omega)
    have hmH := Lib.hid hm
    clear ht hn ho hl hm
    go_wp2_with fail
    go_ret2
    exact ⟨_, by rw [hmH.out]; rfl, by rw [hmH.out]; exact .nil _ _ _ _ _, hb1⟩
  | true =>
    obtain ⟨he, h60⟩ := ht rfl
    obtain ⟨a4, c4, rfl, hI⟩ := OwnI.ints ho
    have cn := named_any a4 c4 _ _ hI (by unfold lim; omega)
    have cnH := Lib.hid cn
    have hm : madeE θ t = if (varsC o).length ≤ 12 then (canon o, 0) else ([], 4) := by
      unfold madeE
      rw [← he]
      by_cases h12 : (varsC o).length ≤ 12
      · rw [if_pos h12, if_pos ⟨h60, h12⟩]
      · rw [if_neg h12, if_neg (fun h => h12 h.2)]
    have hml := hI.le
    clear ht hn ho h60 hI cn he
    by_cases h12 : (varsC o).length ≤ 12
    · rw [if_pos h12] at hm
      have hmH := Lib.hid hm
      clear hm
      have hd : decide ((varsC o).length ≤ 12) = true := by simpa using h12
      rw [hd] at cnH
      clear hd h12
      go_wp2_with fail
      refine cnH.out.mono ?_
      rintro e w2 ⟨v, rfl, ho, hb2⟩
      obtain ⟨a5, c5, rfl, hI5⟩ := OwnI.ints ho
      have hoH := Lib.hid (OwnL.baseMono (base' := w.heap.size) ho hb1.size)
      clear ho hI5 cnH
      go_wp2_with fail
      go_ret2
      exact ⟨_, by rw [hmH.out]; rfl, by rw [hmH.out]; exact hoH.out, bcall hb1 hb2⟩
    · rw [if_neg h12] at hm
      have hmH := Lib.hid hm
      clear hm
      have hd : decide ((varsC o).length ≤ 12) = false := by simpa using h12
      rw [hd] at cnH
      clear hd h12
      go_wp2_with fail
      refine cnH.out.mono ?_
      rintro e w2 ⟨v, rfl, ho, hb2⟩
      clear ho cnH
      go_wp2_with fail
      go_ret2
      exact ⟨_, by rw [hmH.out]; rfl, by rw [hmH.out]; exact .nil _ _ _ _ _, bcall hb1 hb2⟩
theorem retE.below {r : List Int × Int} {w w1 : World} {e : Ending} {w' : World} (h : retE r w1 e w') (hb : Below w.heap.size w w1) : retE r w e w' := by
  obtain ⟨v, h1, h2, h3⟩ := h
  exact ⟨v, h1, OwnL.baseMono h2 hb.size, bcall hb h3⟩
end Go.Proofs.YtgkddhakhapjlaaGreatDoor

/- Walks of package kernel: steps in memory; right, valid, ValidGivens, asked. -/
namespace Go.Proofs.YtgkddhakhapjlaaGreatDoor
open Go Go.RowKit Go.Maps

/-- struct { Kind, A, B int } -/
def stpE : Enc Stp := pairE intE (pairE intE intE)
abbrev Steps := Sl stpE
abbrev stpV (x : Stp) : Value := .agg #[.int .i64 x.1, .int .i64 x.2.1, .int .i64 x.2.2]
def stpR (x : Stp) : Prop := inRange x.1 ∧ inRange x.2.1 ∧ inRange x.2.2
theorem Sl.stp {S : Nat → Prop} {w : World} {a : Option Addr} {c : Nat} {l : List Stp} (h : Steps S w a c l) (i : Nat) (hi : i < l.length) :
    ∃ b off, a = some ⟨b, off, none⟩ ∧ S b ∧ w.cell? ⟨b, off + i * 3, none⟩ = some (.int .i64 l[i].1) ∧ w.cell? ⟨b, off + i * 3 + 1, none⟩ = some (.int .i64 l[i].2.1) ∧ w.cell? ⟨b, off + i * 3 + 2, none⟩ = some (.int .i64 l[i].2.2) ∧ stpR l[i] := by
  obtain ⟨b, off, ha, hb, _, vs, _, hv, hr⟩ := h.at1 i hi
  obtain ⟨us, ts, rfl, ⟨rfl, h1⟩, us', ts', rfl, ⟨rfl, h2⟩, ⟨rfl, h3⟩⟩ := hr
  have h0 := hv 0 (by simp)
  have h4 := hv 1 (by simp)
  have h5 := hv 2 (by simp)
  simp [stpE, pairE, intE] at h0 h4 h5
  exact ⟨b, off, ha, hb, h0, h4, h5, h1, h2, h3⟩

theorem kwithin_any (n lo hi : Int) (w : World) :
    Calls Tryz.prog 70 #[.int .i64 n, .int .i64 lo, .int .i64 hi] w fun e w' => e = .returned (.bool (decide (lo ≤ n) && decide (n ≤ hi))) ∧ w = w' := by
  go_enter Tryz.func70, Tryz.ntmps70
  go_wp2
  all_goals go_ret
  all_goals exact ⟨ret_bool (by simp; omega), rfl⟩

set_option maxHeartbeats 1000000 in
theorem right_any (G : Int) (n : Nat) (x : Stp) (w : World) (h0 : 0 ≤ G) (h1 : G ≤ 1000000) (hn : n ≤ 9223372036854775807) :
    Calls Tryz.prog 90 #[.int .i64 G, .int .i64 n, stpV x] w fun e w' => e = .returned (.bool (rightB G n x)) ∧ Below w.heap.size w w' := by
  obtain ⟨k, A, B⟩ := x
  have e1 : IntKind.i64.wrap (G - 1) = G - 1 := IntWalk.i64_in _ (by omega)
  have e2 : IntKind.i64.wrap ((n : Int) - 1) = (n : Int) - 1 := IntWalk.i64_in _ (by omega)
  have hb := below1 w (.cells #[.int .i64 k, .int .i64 A, .int .i64 B] 86)
  have c1 := fun W => kwithin_any A 0 (G - 1) W
  have c2 := fun W => kwithin_any A 0 ((n : Int) - 1) W
  have c3 := fun W => kwithin_any B 0 ((n : Int) - 1) W
  by_cases hk1 : k = 1
  · subst hk1
    have hR : rightB G n (1, A, B) = ((decide (0 ≤ A) && decide (A ≤ G - 1)) && decide (B = 0)) := by simp [rightB]
    obtain ⟨y, hy⟩ : ∃ y, (decide (0 ≤ A) && decide (A ≤ G - 1)) = y := ⟨_, rfl⟩
    rw [hy] at c1 hR
    have c1H := Lib.hid c1
    have hRH := Lib.hid hR
    clear c1 c2 c3 hR hy
    cases y with
    | false =>
      go_enter Tryz.func90, Tryz.ntmps90
      go_wp2_with (go_at_call 70; refine (c1H.out _).mono ?_; rintro e w1 ⟨rfl, rfl⟩)
      go_ret
      exact ⟨by rw [hRH.out]; rfl, hb⟩
    | true =>
      by_cases hB : B = 0
      · subst hB
        go_enter Tryz.func90, Tryz.ntmps90
        go_wp2_with (go_at_call 70; refine (c1H.out _).mono ?_; rintro e w1 ⟨rfl, rfl⟩)
        go_ret
        exact ⟨by rw [hRH.out]; rfl, hb⟩
      · have hBb : (B == 0) = false := by simpa using hB
        go_enter Tryz.func90, Tryz.ntmps90
        go_wp2_with (go_at_call 70; refine (c1H.out _).mono ?_; rintro e w1 ⟨rfl, rfl⟩)
        go_ret
        exact ⟨by rw [hRH.out, decide_eq_false hB]; rfl, hb⟩
  · have hk1b : (k == 1) = false := by simpa using hk1
    by_cases hk2 : k = 2
    · subst hk2
      have hR : rightB G n (2, A, B) = ((decide (0 ≤ A) && decide (A ≤ (n : Int) - 1)) && (decide (0 ≤ B) && decide (B ≤ (n : Int) - 1))) := by simp [rightB]
      obtain ⟨y, hy⟩ : ∃ y, (decide (0 ≤ A) && decide (A ≤ (n : Int) - 1)) = y := ⟨_, rfl⟩
      obtain ⟨z, hz⟩ : ∃ y, (decide (0 ≤ B) && decide (B ≤ (n : Int) - 1)) = y := ⟨_, rfl⟩
      rw [hy] at c2 hR
      rw [hz] at c3 hR
      have c2H := Lib.hid c2
      have c3H := Lib.hid c3
      have hRH := Lib.hid hR
      clear c1 c2 c3 hR hy hz hk1b
      cases y with
      | false =>
        go_enter Tryz.func90, Tryz.ntmps90
        go_wp2_with fail
        refine (c2H.out _).mono ?_
        rintro e w1 ⟨rfl, rfl⟩
        go_wp2_with fail
        go_ret
        exact ⟨by rw [hRH.out]; rfl, hb⟩
      | true =>
        go_enter Tryz.func90, Tryz.ntmps90
        go_wp2_with fail
        refine (c2H.out _).mono ?_
        rintro e w1 ⟨rfl, rfl⟩
        go_wp2_with fail
        refine (c3H.out _).mono ?_
        rintro e w1 ⟨rfl, rfl⟩
        go_wp2_with fail
        go_ret
        exact ⟨by rw [hRH.out]; rfl, hb⟩
    · have hk2b : (k == 2) = false := by simpa using hk2
      have hR : rightB G n (k, A, B) = false := by simp [rightB, hk1, hk2]
      go_enter Tryz.func90, Tryz.ntmps90
      go_wp2_with fail
      go_ret
      exact ⟨by rw [hR]; rfl, hb⟩
theorem okSteps_snoc {G : Int} : ∀ (p : List Stp) (n : Nat) (x : Stp), okSteps G n (p ++ [x]) = (okSteps G n p && rightB G (n + p.length) x)
  | [], n, x => by simp [okSteps]
  | y :: p, n, x => by
    rw [List.cons_append, okSteps, okSteps, okSteps_snoc p (n + 1) x, Bool.and_assoc, List.length_cons, show n + 1 + p.length = n + (p.length + 1) by omega]
theorem okSteps_take {G : Int} : ∀ (p : List Stp) (n k : Nat), okSteps G n p = true → okSteps G n (p.take k) = true
  | [], _, _, _ => by simp [okSteps]
  | x :: p, n, 0, _ => rfl
  | x :: p, n, k + 1, h => by
    simp only [okSteps, Bool.and_eq_true] at h
    rw [List.take_succ_cons, okSteps, Bool.and_eq_true]
    exact ⟨h.1, okSteps_take p (n + 1) k h.2⟩
set_option maxHeartbeats 1000000 in
theorem kvalid_any {S : Nat → Prop} (G : Int) (a : Option Addr) (c : Nat) (p : List Stp) (w : World) (h : Steps S w a c p) (h0 : 0 ≤ G) (h1 : G ≤ 1000000) :
    Calls Tryz.prog 95 #[.int .i64 G, .slice a p.length c] w fun e w' => e = .returned (.bool (validP G p)) ∧ Below w.heap.size w w' := by
  have m := h.le
  go_enter Tryz.func95, Tryz.ntmps95
  go_wp2_with fail
  go_loopw [9] (fun i wr => ∃ k : Nat, k ≤ p.length ∧ i = .int .i64 k ∧ okSteps G 0 (p.take k) = true ∧ Below w.heap.size w wr) (fun i _ => p.length - (intOf i).toNat)
  case atStart => exact ⟨0, Nat.zero_le _, rfl, rfl, .refl _ _⟩
  case round =>
    obtain ⟨k, hk, rfl, hall, hB⟩ := hrel
    by_cases hlt : k < p.length
    · obtain ⟨b, o, rfl, -, q0, q1, q2, hr⟩ := (h.below hB).stp k hlt
      have hstep := okSteps_snoc (G := G) (p.take k) 0 p[k]
      rw [List.length_take, Nat.min_eq_left (by omega), Nat.zero_add, ← List.take_succ_eq_append_getElem hlt, hall, Bool.true_and] at hstep
      have cr := fun W => right_any G k p[k] W h0 h1 (by omega)
      obtain ⟨x, hx⟩ : ∃ x, p[k] = x := ⟨_, rfl⟩
      obtain ⟨y, hy⟩ : ∃ y, rightB G k p[k] = y := ⟨_, rfl⟩
      rw [hy] at hstep cr
      rw [hx] at cr q0 q1 q2
      obtain ⟨x1, x2, x3⟩ := x
      simp only at q0 q1 q2
      have hb2 := fun W => below1 W (.cells #[.int .i64 x1, .int .i64 x2, .int .i64 x3] 86)
      have crH := Lib.hid cr
      have hstH := Lib.hid hstep
      have hBH := Lib.hid hB
      clear cr hstep hB hall hx hy h
      cases y with
      | true =>
        go_wp2_with (go_at_call 90; refine (crH.out _).mono ?_; rintro e w1 ⟨rfl, hb⟩)
        go_roundw
        case rel => exact ⟨k + 1, by omega, by go_num, hstH.out, bcall hBH.out (bcall (hb2 _) hb)⟩
        case measure => simp [intOf]; omega
      | false =>
        go_wp2_with (go_at_call 90; refine (crH.out _).mono ?_; rintro e w1 ⟨rfl, hb⟩)
        go_ret
        have hf : validP G p = false := by
          unfold validP
          cases ho : okSteps G 0 p with
          | false => rfl
          | true => have := okSteps_take p 0 (k + 1) ho; rw [hstH.out] at this; cases this
        exact ⟨ret_bool hf.symm, bcall hBH.out (bcall (hb2 _) hb)⟩
    · rw [List.take_of_length_le (by omega)] at hall
      have cw := fun W => kwithin_any (p.length : Int) 1 60 W
      have hf : (decide ((1 : Int) ≤ p.length) && decide ((p.length : Int) ≤ 60)) = validP G p := by
        unfold validP
        rw [hall, Bool.true_and, Bool.eq_iff_iff]
        simp only [Bool.and_eq_true, decide_eq_true_eq]
        omega
      rw [hf] at cw
      have cwH := Lib.hid cw
      clear hall cw hf
      go_wp2_with (go_at_call 70; refine (cwH.out _).mono ?_; rintro e w1 ⟨rfl, rfl⟩)
      go_ret
      exact ⟨rfl, hB⟩

set_option maxHeartbeats 1000000 in
theorem IndexVG_any {S1 S2 : Nat → Prop} (a1 a2 : Option Addr) (c1 c2 : Nat) (s : Sg) (L : List (List Int)) (bx : Nat) (w : World) (h1 : Sign S1 w a1 c1 s) (h2 : Terms S2 w a2 c2 L) (hq : w.cell? ⟨bx, 0, none⟩ = some (.slice a1 s.length c1)) :
    Calls Tryz.prog 108 #[.slice a2 L.length c2, .func (.func 59) #[] #[.pointer (some ⟨bx, 0, none⟩)]] w (idxTPost s L w) := by
  have m2 := h2.le
  have hbx : bx < w.heap.size := World.block_lt_of_cell? w _ hq
  go_enter Tryz.func108, Tryz.ntmps108
  go_wp2_with fail
  go_loopw [8] (fun i wr => ∃ k : Nat, k ≤ L.length ∧ i = .int .i64 k ∧ (L.take k).all (okT s) = true ∧ Below w.heap.size w wr) (fun i _ => L.length - (intOf i).toNat)
  case atStart => exact ⟨0, Nat.zero_le _, rfl, rfl, .refl _ _⟩
  case round =>
    obtain ⟨k, hk, rfl, hall, hB⟩ := hrel
    by_cases hlt : k < L.length
    · obtain ⟨b, o, a', c', rfl, -, q, hI⟩ := h2.sub k hlt
      have q' := (hB.cell (p := ⟨b, o + k, none⟩) (World.block_lt_of_cell? _ _ q)).trans q
      have hq' := (hB.cell (p := ⟨bx, 0, none⟩) hbx).trans hq
      have v1 := Valid_any a1 a' c1 c' s L[k] wr (h1.below hB) (hI.below hB)
      obtain ⟨x, hx⟩ : ∃ x, okT s L[k] = x := ⟨_, rfl⟩
      rw [hx] at v1
      have cf : Calls Tryz.prog 59 #[.slice a' L[k].length c', .pointer (some ⟨bx, 0, none⟩)] wr fun e w' => e = .returned (.bool (!x)) ∧ Below wr.heap.size wr w' := by
        have v1H := Lib.hid v1
        clear v1 hI h1 h2 hx hB hall q hq
        go_enter Tryz.func59, Tryz.ntmps59
        go_wp2_with (go_at_call 60; refine v1H.out.mono ?_; rintro e w1 ⟨rfl, hb⟩)
        go_ret
        exact ⟨rfl, hb⟩
      have cfH := Lib.hid cf
      have hallH := Lib.hid hall
      have hxH := Lib.hid hx
      have hBH := Lib.hid hB
      clear v1 cf hall hI h1 h2 hx hB q hq
      cases x with
      | true =>
        go_wp2_with (go_at_call 59; refine cfH.out.mono ?_; rintro e w1 ⟨rfl, hb⟩)
        go_roundw
        case rel => exact ⟨k + 1, by omega, by go_num, by rw [List.take_succ_eq_append_getElem hlt, List.all_append, hallH.out]; simp [hxH.out], hBH.out.trans (hb.mono hBH.out.size)⟩
        case measure => simp [intOf]; omega
      | false =>
        go_wp2_with (go_at_call 59; refine cfH.out.mono ?_; rintro e w1 ⟨rfl, hb⟩)
        go_ret
        have hf : L.all (okT s) = false := by rw [List.all_eq_false]; exact ⟨L[k], List.getElem_mem hlt, by rw [hxH.out]; simp⟩
        exact ⟨k, rfl, by omega, by rw [hf]; simp, hBH.out.trans (hb.mono hBH.out.size)⟩
    · rw [List.take_of_length_le (by omega)] at hall
      have hallH := Lib.hid hall
      clear hall
      go_wp2_with fail
      go_ret
      exact ⟨-1, rfl, by omega, by rw [hallH.out]; rfl, hB⟩
set_option maxHeartbeats 1000000 in
theorem ContainsVG_any {S1 S2 : Nat → Prop} (a1 a2 : Option Addr) (c1 c2 : Nat) (s : Sg) (L : List (List Int)) (bx : Nat) (w : World) (h1 : Sign S1 w a1 c1 s) (h2 : Terms S2 w a2 c2 L) (hq : w.cell? ⟨bx, 0, none⟩ = some (.slice a1 s.length c1)) :
    Calls Tryz.prog 58 #[.slice a2 L.length c2, .func (.func 59) #[] #[.pointer (some ⟨bx, 0, none⟩)]] w fun e w' => e = .returned (.bool (!(L.all (okT s)))) ∧ Below w.heap.size w w' := by
  have ci := IndexVG_any a1 a2 c1 c2 s L bx w h1 h2 hq
  have ciH := Lib.hid ci
  clear ci h1 h2 hq
  go_enter Tryz.func58, Tryz.ntmps58
  go_wp2_with (go_at_call 108; refine ciH.out.mono ?_; rintro e w' ⟨n, rfl, hn, hn2, hb⟩; have hn2H := Lib.hid hn2; clear hn2)
  go_ret
  exact ⟨ret_bool hn2H.out, hb⟩
set_option maxHeartbeats 1000000 in
theorem ValidGivens_any {S1 S2 : Nat → Prop} (a1 a2 : Option Addr) (c1 c2 : Nat) (s : Sg) (L : List (List Int)) (w : World) (h1 : Sign S1 w a1 c1 s) (h2 : Terms S2 w a2 c2 L) :
    Calls Tryz.prog 17 #[.slice a1 s.length c1, .slice a2 L.length c2] w fun e w' => e = .returned (.bool (givensB s L)) ∧ Below w.heap.size w w' := by
  have m2 := h2.le
  have hb0 := below1 w (.cells #[.slice a1 s.length c1] 23)
  have q0 : (w.alloc (.cells #[.slice a1 s.length c1] 23)).cell? ⟨w.heap.size, 0, none⟩ = some (.slice a1 s.length c1) := by go_simp
  have v1 := ValidSign_any a1 c1 s (w.alloc (.cells #[.slice a1 s.length c1] 23)) (h1.below hb0)
  have v2 := fun W (hb : Below w.heap.size w W) hq => ContainsVG_any a1 a2 c1 c2 s L w.heap.size W (h1.below hb) (h2.below hb) hq
  have hg : givensB s L = (okSign s && decide (L.length ≤ 60) && L.all (okT s)) := rfl
  obtain ⟨x, hx⟩ : ∃ x, okSign s = x := ⟨_, rfl⟩
  obtain ⟨y, hy⟩ : ∃ x, L.all (okT s) = x := ⟨_, rfl⟩
  rw [hx] at v1 hg
  rw [hy] at v2 hg
  have v1H := Lib.hid v1
  have v2H := Lib.hid v2
  have hgH := Lib.hid hg
  have hb0H := Lib.hid hb0
  clear v1 v2 h1 h2 hx hy hg hb0
  cases x with
  | false =>
    go_enter Tryz.func17, Tryz.ntmps17
    go_wp2_with fail
    refine v1H.out.mono ?_
    rintro e w1 ⟨rfl, hb1⟩
    go_wp2_with fail
    go_ret
    exact ⟨by rw [hgH.out]; rfl, bcall hb0H.out hb1⟩
  | true =>
    by_cases h60 : L.length ≤ 60
    · have hd : decide ((L.length : Int) ≤ 60) = true := by simp; omega
      go_enter Tryz.func17, Tryz.ntmps17
      go_wp2_with fail
      refine v1H.out.mono ?_
      rintro e w1 ⟨rfl, hb1⟩
      have q1 := cell_later hb1 q0
      have hb1 := bcall hb0H.out hb1
      go_wp2_with fail
      refine (v2H.out _ hb1 q1).mono ?_
      rintro e w2 ⟨rfl, hb2⟩
      go_wp2_with fail
      go_ret
      exact ⟨by rw [hgH.out, decide_eq_true h60]; simp, bcall hb1 hb2⟩
    · have hd : decide ((L.length : Int) ≤ 60) = false := by simp; omega
      go_enter Tryz.func17, Tryz.ntmps17
      go_wp2_with fail
      refine v1H.out.mono ?_
      rintro e w1 ⟨rfl, hb1⟩
      go_wp2_with fail
      go_ret
      exact ⟨by rw [hgH.out, decide_eq_false h60]; rfl, bcall hb0H.out hb1⟩
set_option maxHeartbeats 1000000 in
theorem asked_any {S1 S2 S3 : Nat → Prop} (a1 a2 a3 : Option Addr) (c1 c2 c3 : Nat) (s : Sg) (L : List (List Int)) (p : List Stp) (w : World) (h1 : Sign S1 w a1 c1 s) (h2 : Terms S2 w a2 c2 L) (h3 : Steps S3 w a3 c3 p) :
    Calls Tryz.prog 53 #[.slice a1 s.length c1, .slice a2 L.length c2, .slice a3 p.length c3] w fun e w' => e = .returned (.bool (askedB s L p)) ∧ Below w.heap.size w w' := by
  have m2 := h2.le
  have m3 := h3.le
  have v1 := ValidGivens_any a1 a2 c1 c2 s L w h1 h2
  have v2 : L.length ≤ 60 → ∀ W, Below w.heap.size w W → _ := fun hl W hb => kvalid_any (L.length : Int) a3 c3 p W (h3.below hb) (by omega) (by omega)
  have hg : askedB s L p = (givensB s L && validP L.length p) := rfl
  have hl : givensB s L = true → L.length ≤ 60 := fun h => (givensB_parts h).2.1
  obtain ⟨x, hx⟩ : ∃ x, givensB s L = x := ⟨_, rfl⟩
  rw [hx] at v1 hg hl
  have v1H := Lib.hid v1
  have v2H := Lib.hid v2
  have hgH := Lib.hid hg
  have hlH := Lib.hid hl
  clear v1 v2 h1 h2 h3 hx hg hl
  cases x with
  | false =>
    go_enter Tryz.func53, Tryz.ntmps53
    go_wp2_with fail
    refine v1H.out.mono ?_
    rintro e w1 ⟨rfl, hb1⟩
    go_wp2_with fail
    go_ret
    exact ⟨by rw [hgH.out]; rfl, hb1⟩
  | true =>
    go_enter Tryz.func53, Tryz.ntmps53
    go_wp2_with fail
    refine v1H.out.mono ?_
    rintro e w1 ⟨rfl, hb1⟩
    go_wp2_with fail
    refine (v2H.out (hlH.out trivial) _ hb1).mono ?_
    rintro e w2 ⟨rfl, hb2⟩
    go_wp2_with fail
    go_ret
    exact ⟨by rw [hgH.out]; simp, bcall hb1 hb2⟩
end Go.Proofs.YtgkddhakhapjlaaGreatDoor

/- Walks: ValidProof (both), SameSteps. -/
namespace Go.Proofs.YtgkddhakhapjlaaGreatDoor
open Go Go.RowKit Go.Maps

theorem r4within_any (n lo hi : Int) (w : World) :
    Calls Tryz.prog 97 #[.int .i64 n, .int .i64 lo, .int .i64 hi] w fun e w' => e = .returned (.bool (decide (lo ≤ n) && decide (n ≤ hi))) ∧ w = w' := by
  go_enter Tryz.func97, Tryz.ntmps97
  go_wp2
  all_goals go_ret
  all_goals exact ⟨ret_bool (by simp; omega), rfl⟩
theorem isCount_any (n : Int) (w : World) :
    Calls Tryz.prog 62 #[.int .i64 n] w fun e w' => e = .returned (.bool (decide (0 ≤ n) && decide (n ≤ 60))) ∧ w = w' := by
  have h := Lib.hid (r4within_any n 0 60 w)
  go_enter Tryz.func62, Tryz.ntmps62
  go_wp2_with fail
  refine h.out.mono ?_
  rintro e w1 ⟨rfl, rfl⟩
  go_wp2_with fail
  go_ret
  exact ⟨rfl, rfl⟩
set_option maxHeartbeats 1000000 in
theorem stepRight_any (G : Int) (n : Nat) (x : Stp) (w : World) (h0 : 0 ≤ G) (h1 : G ≤ 1000000) (hn : n ≤ 9223372036854775807) :
    Calls Tryz.prog 94 #[.int .i64 G, stpV x, .int .i64 n] w fun e w' => e = .returned (.bool (rightB G n x)) ∧ Below w.heap.size w w' := by
  obtain ⟨k, A, B⟩ := x
  have e1 : IntKind.i64.wrap (G - 1) = G - 1 := IntWalk.i64_in _ (by omega)
  have e2 : IntKind.i64.wrap ((n : Int) - 1) = (n : Int) - 1 := IntWalk.i64_in _ (by omega)
  have hb := below1 w (.cells #[.int .i64 k, .int .i64 A, .int .i64 B] 86)
  have c1 := fun W => r4within_any A 0 (G - 1) W
  have c2 := fun W => r4within_any A 0 ((n : Int) - 1) W
  have c3 := fun W => r4within_any B 0 ((n : Int) - 1) W
  by_cases hk1 : k = 1
  · subst hk1
    have hR : rightB G n (1, A, B) = ((decide (0 ≤ A) && decide (A ≤ G - 1)) && decide (B = 0)) := by simp [rightB]
    obtain ⟨y, hy⟩ : ∃ y, (decide (0 ≤ A) && decide (A ≤ G - 1)) = y := ⟨_, rfl⟩
    rw [hy] at c1 hR
    have c1H := Lib.hid c1
    have hRH := Lib.hid hR
    clear c1 c2 c3 hR hy
    cases y with
    | false =>
      go_enter Tryz.func94, Tryz.ntmps94
      go_wp2_with (go_at_call 97; refine (c1H.out _).mono ?_; rintro e w1 ⟨rfl, rfl⟩)
      go_ret
      exact ⟨by rw [hRH.out]; rfl, hb⟩
    | true =>
      by_cases hB : B = 0
      · subst hB
        go_enter Tryz.func94, Tryz.ntmps94
        go_wp2_with (go_at_call 97; refine (c1H.out _).mono ?_; rintro e w1 ⟨rfl, rfl⟩)
        go_ret
        exact ⟨by rw [hRH.out]; rfl, hb⟩
      · have hBb : (B == 0) = false := by simpa using hB
        go_enter Tryz.func94, Tryz.ntmps94
        go_wp2_with (go_at_call 97; refine (c1H.out _).mono ?_; rintro e w1 ⟨rfl, rfl⟩)
        go_ret
        exact ⟨by rw [hRH.out, decide_eq_false hB]; rfl, hb⟩
  · have hk1b : (k == 1) = false := by simpa using hk1
    by_cases hk2 : k = 2
    · subst hk2
      have hR : rightB G n (2, A, B) = ((decide (0 ≤ A) && decide (A ≤ (n : Int) - 1)) && (decide (0 ≤ B) && decide (B ≤ (n : Int) - 1))) := by simp [rightB]
      obtain ⟨y, hy⟩ : ∃ y, (decide (0 ≤ A) && decide (A ≤ (n : Int) - 1)) = y := ⟨_, rfl⟩
      obtain ⟨z, hz⟩ : ∃ y, (decide (0 ≤ B) && decide (B ≤ (n : Int) - 1)) = y := ⟨_, rfl⟩
      rw [hy] at c2 hR
      rw [hz] at c3 hR
      have c2H := Lib.hid c2
      have c3H := Lib.hid c3
      have hRH := Lib.hid hR
      clear c1 c2 c3 hR hy hz hk1b
      cases y with
      | false =>
        go_enter Tryz.func94, Tryz.ntmps94
        go_wp2_with fail
        refine (c2H.out _).mono ?_
        rintro e w1 ⟨rfl, rfl⟩
        go_wp2_with fail
        go_ret
        exact ⟨by rw [hRH.out]; rfl, hb⟩
      | true =>
        go_enter Tryz.func94, Tryz.ntmps94
        go_wp2_with fail
        refine (c2H.out _).mono ?_
        rintro e w1 ⟨rfl, rfl⟩
        go_wp2_with fail
        refine (c3H.out _).mono ?_
        rintro e w1 ⟨rfl, rfl⟩
        go_wp2_with fail
        go_ret
        exact ⟨by rw [hRH.out]; rfl, hb⟩
    · have hk2b : (k == 2) = false := by simpa using hk2
      have hR : rightB G n (k, A, B) = false := by simp [rightB, hk1, hk2]
      go_enter Tryz.func94, Tryz.ntmps94
      go_wp2_with fail
      go_ret
      exact ⟨by rw [hR]; rfl, hb⟩
set_option maxHeartbeats 1000000 in
theorem ValidProof_any {S : Nat → Prop} (G : Int) (a : Option Addr) (c : Nat) (p : List Stp) (w : World) (h : Steps S w a c p) :
    Calls Tryz.prog 43 #[.int .i64 G, .slice a p.length c] w fun e w' => e = .returned (.bool (proofB G p)) ∧ Below w.heap.size w w' := by
  have m := h.le
  have v1 := kwithin_any G 0 60 w
  cases hx : (decide (0 ≤ G) && decide (G ≤ 60)) with
  | false =>
    rw [hx] at v1
    have hr : proofB G p = false := by unfold proofB; rw [hx]; rfl
    have v1H := Lib.hid v1
    clear v1 h hx
    go_enter Tryz.func43, Tryz.ntmps43
    go_wp2_with fail
    refine v1H.out.mono ?_
    rintro e w1 ⟨rfl, rfl⟩
    go_wp2_with fail
    go_ret
    exact ⟨by rw [hr]; rfl, .refl _ _⟩
  | true =>
    rw [hx] at v1
    have hr : proofB G p = validP G p := by unfold proofB; rw [hx]; rfl
    simp only [Bool.and_eq_true, decide_eq_true_eq] at hx
    have v2 := kvalid_any G a c p w h hx.1 (by omega)
    have v1H := Lib.hid v1
    have v2H := Lib.hid v2
    clear v1 v2 h hx
    go_enter Tryz.func43, Tryz.ntmps43
    go_wp2_with fail
    refine v1H.out.mono ?_
    rintro e w1 ⟨rfl, rfl⟩
    go_wp2_with fail
    refine v2H.out.mono ?_
    rintro e w1 ⟨rfl, hb⟩
    go_wp2_with fail
    go_ret
    exact ⟨by rw [hr]; rfl, hb⟩
set_option maxHeartbeats 1000000 in
theorem rValidProof_any {S : Nat → Prop} (G : Int) (a : Option Addr) (c : Nat) (p : List Stp) (w : World) (h : Steps S w a c p) :
    Calls Tryz.prog 44 #[.int .i64 G, .slice a p.length c] w fun e w' => e = .returned (.bool (proofB G p)) ∧ Below w.heap.size w w' := by
  have m := h.le
  have v1 := isCount_any G w
  have v2 := r4within_any (p.length : Int) 1 60 w
  cases hx : (decide (0 ≤ G) && decide (G ≤ 60)) with
  | false =>
    rw [hx] at v1
    have hr : proofB G p = false := by unfold proofB; rw [hx]; rfl
    have v1H := Lib.hid v1
    clear v1 v2 h hx
    go_enter Tryz.func44, Tryz.ntmps44
    go_wp2_with fail
    refine v1H.out.mono ?_
    rintro e w1 ⟨rfl, rfl⟩
    go_wp2_with fail
    go_ret
    exact ⟨by rw [hr]; rfl, .refl _ _⟩
  | true =>
    cases hy : (decide ((1 : Int) ≤ p.length) && decide ((p.length : Int) ≤ 60)) with
    | false =>
      rw [hx] at v1
      rw [hy] at v2
      have hr : proofB G p = false := by
        unfold proofB validP
        have : (decide (1 ≤ p.length) && decide (p.length ≤ 60)) = false := by
          rw [← hy, Bool.eq_iff_iff]; simp only [Bool.and_eq_true, decide_eq_true_eq]; omega
        rw [this, Bool.and_false, Bool.and_false]
      have v1H := Lib.hid v1
      have v2H := Lib.hid v2
      clear v1 v2 h hx hy
      go_enter Tryz.func44, Tryz.ntmps44
      go_wp2_with fail
      refine v1H.out.mono ?_
      rintro e w1 ⟨rfl, rfl⟩
      go_wp2_with fail
      refine v2H.out.mono ?_
      rintro e w1 ⟨rfl, rfl⟩
      go_wp2_with fail
      go_ret
      exact ⟨by rw [hr]; rfl, .refl _ _⟩
    | true =>
      rw [hx] at v1
      rw [hy] at v2
      have hr : proofB G p = okSteps G 0 p := by
        unfold proofB validP
        have : (decide (1 ≤ p.length) && decide (p.length ≤ 60)) = true := by
          rw [← hy, Bool.eq_iff_iff]; simp only [Bool.and_eq_true, decide_eq_true_eq]; omega
        rw [this, hx, Bool.and_true, Bool.true_and]
      simp only [Bool.and_eq_true, decide_eq_true_eq] at hx
      obtain ⟨h0, h1⟩ := hx
      have v1H := Lib.hid v1
      have v2H := Lib.hid v2
      clear v1 v2 hy
      go_enter Tryz.func44, Tryz.ntmps44
      go_wp2_with fail
      refine v1H.out.mono ?_
      rintro e w1 ⟨rfl, rfl⟩
      go_wp2_with fail
      refine v2H.out.mono ?_
      rintro e w1 ⟨rfl, rfl⟩
      go_wp2_with fail
      clear v1H v2H
      go_loopw [5] (fun i wr => ∃ k : Nat, k ≤ p.length ∧ i = .int .i64 k ∧ okSteps G 0 (p.take k) = true ∧ Below w.heap.size w wr) (fun i _ => p.length - (intOf i).toNat)
      case atStart => exact ⟨0, Nat.zero_le _, rfl, rfl, .refl _ _⟩
      case round =>
        obtain ⟨k, hk, rfl, hall, hB⟩ := hrel
        by_cases hlt : k < p.length
        · obtain ⟨b, o, rfl, -, q0, q1, q2, -⟩ := (h.below hB).stp k hlt
          have hstep := okSteps_snoc (G := G) (p.take k) 0 p[k]
          rw [List.length_take, Nat.min_eq_left (by omega), Nat.zero_add, ← List.take_succ_eq_append_getElem hlt, hall, Bool.true_and] at hstep
          have cr := fun W => stepRight_any G k p[k] W h0 (by omega) (by omega)
          obtain ⟨x, hx⟩ : ∃ x, p[k] = x := ⟨_, rfl⟩
          obtain ⟨y, hy⟩ : ∃ y, rightB G k p[k] = y := ⟨_, rfl⟩
          rw [hy] at hstep cr
          rw [hx] at cr q0 q1 q2
          obtain ⟨x1, x2, x3⟩ := x
          simp only at q0 q1 q2
          have crH := Lib.hid cr
          have hstH := Lib.hid hstep
          have hBH := Lib.hid hB
          clear cr hstep hB hall hx hy h
          cases y with
          | true =>
            go_wp2_with (go_at_call 94; refine (crH.out _).mono ?_; rintro e w1 ⟨rfl, hb⟩)
            go_roundw
            case rel => exact ⟨k + 1, by omega, by go_num, hstH.out, bcall hBH.out hb⟩
            case measure => simp [intOf]; omega
          | false =>
            go_wp2_with (go_at_call 94; refine (crH.out _).mono ?_; rintro e w1 ⟨rfl, hb⟩)
            go_ret
            have hf : okSteps G 0 p = false := by
              cases ho : okSteps G 0 p with
              | false => rfl
              | true => have := okSteps_take p 0 (k + 1) ho; rw [hstH.out] at this; cases this
            exact ⟨by rw [hr, hf]; rfl, bcall hBH.out hb⟩
        · rw [List.take_of_length_le (by omega)] at hall
          rw [hall] at hr
          clear hall
          go_wp2_with fail
          go_ret
          exact ⟨by rw [hr]; rfl, hB⟩
end Go.Proofs.YtgkddhakhapjlaaGreatDoor

/- Walks: a copy of a list of steps. -/
namespace Go.Proofs.YtgkddhakhapjlaaGreatDoor
open Go Go.RowKit Go.Maps

abbrev OwnSt (w : World) (base : Nat) (v : Value) (l : List Stp) : Prop := OwnL stpE (fun _ => False) w base 86 v l
def retSt (w : World) (l : List Stp) (e : Ending) (w' : World) : Prop := ∃ v, e = .returned v ∧ OwnSt w' w.heap.size v l ∧ Below w.heap.size w w'
def retStE (r : List Stp × Int) (w : World) (e : Ending) (w' : World) : Prop := ∃ v, e = .returned (.tuple #[v, .int .i64 r.2]) ∧ OwnSt w' w.heap.size v r.1 ∧ Below w.heap.size w w'
theorem infoStp : (Tryz.prog.info? 86).map (fun i => (i.zero, i.size, i.bytes)) = some (some (.agg #[.int .i64 0, .int .i64 0, .int .i64 0]), 3, 24) := by kernel_rfl
theorem OwnSt.steps {w : World} {base : Nat} {v : Value} {l : List Stp} (h : OwnSt w base v l) : ∃ a c, v = .slice a l.length c ∧ Steps (fun b => base ≤ b) w a c l := h.slB (fun _ h => h.elim)
set_option maxHeartbeats 400000 in
theorem CloneS_any {S : Nat → Prop} (a : Option Addr) (c : Nat) (l : List Stp) (w : World) (h : Steps S w a c l) (hl : l.length ≤ lim) :
    Calls Tryz.prog 73 #[.slice a l.length c] w (retSt w l) := by
  cases a with
  | none =>
    obtain ⟨rfl, rfl⟩ := h.nil rfl
    have hnl := fun W => Lib.run_eql_slice_nil (P := Tryz.prog) W 25 86 none 0 0 0 0 Tryz.underlying25
    go_enter Tryz.func73, Tryz.ntmps73
    go_wp2_with fail
    go_ret
    exact ⟨_, rfl, .nil _ _ _ _ _, .refl _ _⟩
  | some a =>
    have hnl := fun W => Lib.run_eql_slice_nil (P := Tryz.prog) W 25 86 (some a) l.length c 0 0 Tryz.underlying25
    obtain ⟨v', w', hrun, ho, hg, -, -⟩ := (OwnL.made stpE (fun _ => False) w w.heap.size 86 (Nat.le_refl _)).append_run (P := Tryz.prog) (t := 25) (ty := 25) Tryz.underlying25 infoStp rfl (h.below (below1 w (.cells #[] 86))) (fun _ _ _ h => h) (by unfold lim at hl; simp; omega) (by unfold lim at hl; unfold big; simp; omega) (by simp)
    have hB : Below w.heap.size w w' := (below1 w (.cells #[] 86)).grown hg (by simp) (fun k e => by simp [Value.ownBlock] at e; omega)
    rw [List.nil_append] at ho
    clear hg
    have hrunH := Lib.hid hrun
    clear hrun
    go_enter Tryz.func73, Tryz.ntmps73
    go_wp2_with (at_builtin; refine wpList_append_run rfl _ _ _ rfl rfl rfl hrunH.out ?_)
    go_ret
    exact ⟨_, rfl, ho, hB⟩
end Go.Proofs.YtgkddhakhapjlaaGreatDoor

/- Walks: kernel.Joined. -/
namespace Go.Proofs.YtgkddhakhapjlaaGreatDoor
open Go Go.RowKit Go.Maps

theorem stp_R {S : Nat → Prop} {w : World} {y : Stp} (h : stpR y) : stpE.R S w [.int .i64 y.1, .int .i64 y.2.1, .int .i64 y.2.2] y := ⟨[_], [_, _], rfl, ⟨rfl, h.1⟩, [_], [_], rfl, ⟨rfl, h.2.1⟩, rfl, h.2.2⟩
theorem okSteps_at {G : Int} {q : List Stp} (h : okSteps G 0 q = true) (k : Nat) (hk : k < q.length) : rightB G k q[k] = true := by
  have h1 := okSteps_take q 0 (k + 1) h
  rw [List.take_succ_eq_append_getElem hk, okSteps_snoc, Bool.and_eq_true, List.length_take, Nat.min_eq_left (by omega), Nat.zero_add] at h1
  exact h1.2
def jrel (p q : List Stp) (w : World) (v i : Value) (wr : World) : Prop := ∃ k : Nat, k ≤ q.length ∧ i = .int .i64 k ∧ OwnSt wr w.heap.size v (p ++ (q.take k).map (shS p.length)) ∧ Below w.heap.size w wr
end Go.Proofs.YtgkddhakhapjlaaGreatDoor

/- Keys of maps that are structs of strings or of ints; lists of bytes that a call makes. No program is named. -/
namespace Go.Proofs.YtgkddhakhapjlaaGreatDoor
open Go Go.RowKit Go.Maps Go.WideMaps

theorem keyOf_strs {P : Program} {k : TypeId} {f0 f1 : Field} (hu : P.underlying k = some (.struct #[f0, f1])) (hk : P.keyType k = true) (hc : P.cellsOf k = 2) (hsz : ∃ m, P.types.size = m + 1)
    (o0 : f0.offset = 0) (o1 : f1.offset = 1) (c0 : P.cellsOf f0.type = 1) (c1 : P.cellsOf f1.type = 1) (n0 : (f0.name != "_") = true) (n1 : (f1.name != "_") = true) (u0 : P.underlying f0.type = some .string) (u1 : P.underlying f1.type = some .string)
    {a b : ByteArray} (wa : a.size ≤ maxLen) (wb : b.size ≤ maxLen) :
    keyOf P k (.agg #[.string a, .string b]) = some (.string (keyBytes [.string a.data.toList, .string b.data.toList])) := by
  obtain ⟨m, hm⟩ := hsz
  unfold keyOf
  simp only [hu]
  rw [if_pos (by simp [hk, Value.formed, hu, hc]), hm]
  unfold Program.keyLits
  simp only [hu, Value.cells]
  rw [if_pos ⟨by rw [hc]; rfl, by simp [n0, n1]⟩]
  simp [Program.keyLits, o0, o1, c0, c1, u0, u1, wa, wb]
theorem keyOf_ints3 {P : Program} {k : TypeId} {f0 f1 f2 : Field} (hu : P.underlying k = some (.struct #[f0, f1, f2])) (hk : P.keyType k = true) (hc : P.cellsOf k = 3) (hsz : ∃ m, P.types.size = m + 1)
    (o0 : f0.offset = 0) (o1 : f1.offset = 1) (o2 : f2.offset = 2) (c0 : P.cellsOf f0.type = 1) (c1 : P.cellsOf f1.type = 1) (c2 : P.cellsOf f2.type = 1) (n0 : (f0.name != "_") = true) (n1 : (f1.name != "_") = true) (n2 : (f2.name != "_") = true)
    (u0 : P.underlying f0.type = some (.int .i64)) (u1 : P.underlying f1.type = some (.int .i64)) (u2 : P.underlying f2.type = some (.int .i64))
    {a b c : Int} (wa : inRange a) (wb : inRange b) (wc : inRange c) :
    keyOf P k (.agg #[.int .i64 a, .int .i64 b, .int .i64 c]) = some (.string (keyBytes [.int .i64 a, .int .i64 b, .int .i64 c])) := by
  obtain ⟨m, hm⟩ := hsz
  unfold keyOf
  simp only [hu]
  rw [if_pos (by simp [hk, Value.formed, hu, hc]), hm]
  unfold Program.keyLits
  simp only [hu, Value.cells]
  rw [if_pos ⟨by rw [hc]; rfl, by simp [n0, n1, n2]⟩]
  simp [Program.keyLits, o0, o1, o2, c0, c1, c2, u0, u1, u2, wf_of_inRange wa, wf_of_inRange wb, wf_of_inRange wc]
/-- a kind of keys by their values: what the form reads them as need not be looked at -/
def keyK {κ : Type} {P : Program} {tk : TypeId} (hkd : Keyed P tk) (val : κ → Value) (lit : κ → Lit) (hkey : ∀ x, keyOf P tk (val x) = some (lit x)) (hinj : ∀ x y, val x = val y → x = y) : KeyK κ P tk where
  lit := lit
  val := val
  ok _ := True
  keyed := hkd
  key x _ := hkey x
  isKey x := hkd.key (hkey x)
  inj x y h := hinj x y (hkd.inj (hkey x) (by rw [h]; exact hkey y))

/-! ### bytes -/
def u8E : Enc UInt8 where
  size := 1
  pos := by decide
  R _ _ vs x := vs = [.int .u8 x.toNat]
  len h := by rw [h]; rfl
  one h := by rw [h]; simp [Value.oneCell']
  mono h _ _ := h
theorem u8_rows {S : Nat → Prop} {w : World} {xs : List (List Value)} {l : List UInt8} (hl : xs.length = l.length) (hx : ∀ i (h1 : i < xs.length) (h2 : i < l.length), u8E.R S w xs[i] l[i]) : xs = l.map (fun x => [Value.int .u8 x.toNat]) := by
  apply List.ext_getElem
  · simp [hl]
  · intro i h1 h2
    have := hx i h1 (by simpa using h2)
    rw [List.getElem_map]; exact this
theorem u8_flat (l : List UInt8) : (l.map (fun x => [Value.int .u8 x.toNat])).flatten = l.map (fun x => Value.int .u8 x.toNat) := by
  induction l with
  | nil => rfl
  | cons x r ih => simp [ih]
/-- bytes of a list that is not empty, as the library's laws read them -/
theorem OwnL.bytes {S : Nat → Prop} {w : World} {base : Nat} {e : TypeId} {g n cap : Nat} {l : List UInt8} (h : OwnL u8E S w base e (.slice (some ⟨g, 0, none⟩) n cap) l) (hn : n = l.length) : Lib.Bytes w g 0 ⟨l.toArray⟩ := by
  subst hn
  obtain ⟨xs, ho, hl, hx⟩ := h
  rw [u8_rows hl hx, u8_flat] at ho
  intro i hi
  have hi' : i < l.length := by simpa [ByteArray.size] using hi
  rw [Nat.zero_add, ho.cellAt i (by show i < l.length * 1; omega)]
  simp [hi', ByteArray.getElem_eq_getElem_data]
end Go.Proofs.YtgkddhakhapjlaaGreatDoor

/- Walks: the closure of kernel.Untree that puts a step where it stands. -/
namespace Go.Proofs.YtgkddhakhapjlaaGreatDoor
open Go Go.RowKit Go.Maps Go.WideMaps

/-- a list in a box gets one element more: what is left alone -/
theorem box_push2 {α : Type} {E : Enc α} {P : Program} {W : World} {B0 base B : Nat} {T e : TypeId} {v : Value} {l : List α} (hv : Boxed W B0 T v) (ho : OwnL E (fun _ => False) W base e v l) (hT : T ≠ e) (hbs : base ≤ W.heap.size) (hBb : B ≤ base) (hB0 : B ≤ B0)
    {t ty : TypeId} {z : Value} {bytes : Nat} (ht : P.underlying t = some (.slice e)) (hinfo : (P.info? e).map (fun i => (i.zero, i.size, i.bytes)) = some (some z, E.size, bytes)) (hzs : z.cells.size = E.size)
    {vs : List Value} {x : α} (hR : E.R (Off (fun _ => False) v) W vs x) (hlen : (l.length + 1) * bytes ≤ 140737488355328) (hmax : l.length + 1 ≤ big) :
    ∃ a' cap W2, RowKit.Hid ((Builtin.append_ #[t, t] ty #[v, .slice (some ⟨W.heap.size, 0, none⟩) 1 1]).run P (W.alloc (.cells vs.toArray e)) = .ok (.slice a' (l.length + 1) cap) W2) ∧
      RowKit.Hid (W2.cell? ⟨B0, 0, none⟩ = some v) ∧ RowKit.Hid (W2.frozen? ⟨B0, 0, none⟩ = false) ∧
      RowKit.Hid (Boxed (W2.setCell ⟨B0, 0, none⟩ (.slice a' (l.length + 1) cap)) B0 T (.slice a' (l.length + 1) cap)) ∧ RowKit.Hid (OwnL E (fun _ => False) (W2.setCell ⟨B0, 0, none⟩ (.slice a' (l.length + 1) cap)) base e (.slice a' (l.length + 1) cap) (l ++ [x])) ∧
      RowKit.Hid (∀ k, k < W.heap.size → k ≠ B0 → v.ownBlock ≠ some k → (W2.setCell ⟨B0, 0, none⟩ (.slice a' (l.length + 1) cap)).heap[k]? = W.heap[k]?) ∧ RowKit.Hid (Below B W (W2.setCell ⟨B0, 0, none⟩ (.slice a' (l.length + 1) cap))) ∧
      RowKit.Hid ((Value.slice a' (l.length + 1) cap).ownBlock = v.ownBlock ∨ ∃ k, (Value.slice a' (l.length + 1) cap).ownBlock = some k ∧ W.heap.size ≤ k) ∧
      RowKit.Hid (∀ k, k < W.heap.size → v.ownBlock ≠ some k → W2.heap[k]? = W.heap[k]?) := by
  obtain ⟨v', W2, hrun, ho2, hg, hat⟩ := ho.push (P := P) (t := t) (ty := ty) ht hinfo hzs hR hlen hmax hbs
  obtain ⟨a', cap, rfl, -⟩ := ho2.sl
  rw [List.length_append, List.length_singleton] at hrun ho2 hat
  have hnr : v.ownBlock ≠ some B0 := ho.notBox hv hT
  have hv2 : Boxed W2 B0 T v := hv.kept hg (fun e => hnr e.symm)
  have hg3 : W2.grownBy (W2.setCell ⟨B0, 0, none⟩ (.slice a' (l.length + 1) cap)) (some B0) := grownBy_setCell' _ _ _
  have hnr2 := ho2.notBox hv2 hT
  have ho3 := ho2.grown hg3 (fun k hk e => by cases e; exact hnr2 hk) (fun b hb _ => hb.elim)
  have hfr : ∀ k, k < W.heap.size → v.ownBlock ≠ some k → W2.heap[k]? = W.heap[k]? := fun k hk hr => hg.block k hk (fun e => hr e.symm)
  refine ⟨a', cap, W2, Lib.hid hrun, Lib.hid hv2.cell, Lib.hid hv2.frozen, Lib.hid (hv2.set _), Lib.hid ho3, Lib.hid (fun k hk h0 hr => ?_), Lib.hid ?_, Lib.hid hat, Lib.hid hfr⟩
  · exact (hg3.block k (Nat.lt_of_lt_of_le hk hg.size) (fun e => h0 (by injection e))).trans (hfr k hk hr)
  · exact ((Below.refl B W).grown hg (Nat.le_trans hBb hbs) (fun k e => Nat.le_trans hBb (ho.lt k e).1)).grown hg3 (Nat.le_trans (Nat.le_trans hBb hbs) hg.size) (fun k e => by cases e; exact hB0)

abbrev StK : Type := {x : Stp // stpR x}
theorem stKeyed : Keyed Tryz.prog 86 := Keyed.of_law (deep_law_laid (by kernel_rfl) (m := 3) (by omega) (of_decide_eq_true (by kernel_rfl)) (by kernel_rfl) (by kernel_rfl))
theorem typesPosS : ∃ m, Tryz.prog.types.size = m + 1 := ⟨Tryz.prog.types.size - 1, by have : 0 < Tryz.prog.types.size := of_decide_eq_true (by kernel_rfl); omega⟩
noncomputable abbrev KSt : KeyK StK Tryz.prog 86 := keyK stKeyed (fun x => stpV x.1) (fun x => .string (keyBytes [.int .i64 x.1.1, .int .i64 x.1.2.1, .int .i64 x.1.2.2]))
  (fun x => keyOf_ints3 Tryz.underlying86 (by kernel_rfl) (by kernel_rfl) typesPosS rfl rfl rfl (by kernel_rfl) (by kernel_rfl) (by kernel_rfl) (by decide) (by decide) (by decide) Tryz.underlying3 Tryz.underlying3 Tryz.underlying3 x.2.1 x.2.2.1 x.2.2.2)
  (fun x y h => by
    simp only [Value.agg.injEq, Array.mk.injEq, List.cons.injEq, Value.int.injEq, true_and, and_true] at h
    exact Subtype.ext (Prod.ext h.1 (Prod.ext h.2.1 h.2.2)))
def atF (p : List Stp) (x : StK) : Option Value := if x.1 ∈ p then some (.int .i64 (p.idxOf x.1 : Nat)) else none
theorem atF_new {p : List Stp} {x : StK} (h : x.1 ∉ p) : (fun z => if z = x then some (.int .i64 (p.length : Nat)) else atF p z) = atF (p ++ [x.1]) := by
  funext z
  unfold atF
  by_cases hz : z = x
  · subst hz
    rw [if_pos rfl, if_pos (by simp), List.idxOf_append, if_neg h]; simp
  · rw [if_neg hz]
    have hne : z.1 ≠ x.1 := fun e => hz (Subtype.ext e)
    by_cases hm : z.1 ∈ p
    · rw [if_pos hm, if_pos (by simp [hm]), List.idxOf_append, if_pos hm]
    · rw [if_neg hm, if_neg (by simp [hm, hne])]
/-- what Untree keeps: the steps, where they stand, the steps that are done; its own list of what is open -/
structure Um (B : Nat) (W : World) (q p : List Stp) (dn op : List Int) (vO : Value) : Prop where
  p : ∃ v, Boxed W B 25 v ∧ OwnSt W (B + 4) v p
  m : VMap KSt W (B + 1) q.length (atF q)
  a : Boxed W (B + 2) 100 (.map (some (B + 1)))
  d : ∃ v, Boxed W (B + 3) 33 v ∧ OwnI W (B + 4) v dn ∧ ∀ k, vO.ownBlock = some k → v.ownBlock ≠ some k
  o : OwnI W (B + 4) vO op
  sz : B + 4 ≤ W.heap.size
section
variable {B : Nat} {W W' : World} {q p : List Stp} {dn op : List Int} {vO : Value}
theorem Um.below (h : Um B W q p dn op vO) (hb : Below W.heap.size W W') : Um B W' q p dn op vO := by
  obtain ⟨v, h1, h2⟩ := h.p
  obtain ⟨u, h3, h4, h5⟩ := h.d
  exact ⟨⟨v, (hb.block _ h1.lt).trans h1, OwnL.call h2 hb⟩, h.m.below hb h.m.lt, (hb.block _ h.a.lt).trans h.a, ⟨u, (hb.block _ h3.lt).trans h3, OwnL.call h4 hb, h5⟩, OwnL.call h.o hb, Nat.le_trans h.sz hb.size⟩
/-- a new step gets its place -/
theorem Um.store (h : Um B W p p dn op vO) (x : StK) (hx : x.1 ∉ p) (hl : p.length ≤ 1000000) :
    ∃ W', RowKit.Hid ((Instr.mapUpdate 100 (.map (some (B + 1))) (stpV x.1) (.int .i64 (p.length : Nat))).run Tryz.prog W = .ok () W') ∧ RowKit.Hid (Um B W' (p ++ [x.1]) p dn op vO) ∧ RowKit.Hid (W.grownBy W' (some (B + 1))) := by
  obtain ⟨W', hrun, hm, hg⟩ := h.m.store (tm := 100) Tryz.underlying100 (by unfold maxLen; omega) x trivial (.int .i64 (p.length : Nat))
  have hn : atF p x = none := by unfold atF; rw [if_neg hx]
  rw [hn, atF_new hx] at hm
  simp only [Option.isSome_none, Bool.false_eq_true, if_false] at hm
  obtain ⟨v, h1, h2⟩ := h.p
  obtain ⟨u, h3, h4, h5⟩ := h.d
  have far : ∀ {E : Enc Stp} {e : TypeId} {v : Value} {l : List Stp}, OwnL E (fun _ => False) W (B + 4) e v l → OwnL E (fun _ => False) W' (B + 4) e v l := fun ho => ho.grown hg (fun k hk e => by have := (ho.lt k hk).1; injection e with e; omega) (fun b hb _ => hb.elim)
  have farI : ∀ {v : Value} {l : List Int}, OwnI W (B + 4) v l → OwnI W' (B + 4) v l := fun ho => OwnL.grown ho hg (fun k hk e => by have := (OwnL.lt ho k hk).1; injection e with e; omega) (fun b hb _ => hb.elim)
  exact ⟨W', Lib.hid hrun, Lib.hid ⟨⟨v, h1.kept hg (fun e => by injection e with e; omega), far h2⟩, by rw [List.length_append, List.length_singleton]; exact hm, h.a.kept hg (fun e => by injection e with e; omega), ⟨u, h3.kept hg (fun e => by injection e with e; omega), farI h4, h5⟩, farI h.o, Nat.le_trans h.sz hg.size⟩, Lib.hid hg⟩
theorem own_types {E F : Type} {A : Enc E} {C : Enc F} {e f : TypeId} {v u : Value} {l : List E} {m : List F} {S T : Nat → Prop} {b b' : Nat} (h : OwnL A S W b e v l) (k : OwnL C T W b' f u m) (hef : e ≠ f) : ∀ j, v.ownBlock = some j → u.ownBlock ≠ some j := fun j hj hk => by
  obtain ⟨c1, e1⟩ := OwnL.rowCells h j hj
  obtain ⟨c2, e2⟩ := OwnL.rowCells k j hk
  rw [e1] at e2
  simp only [Option.some.injEq, Obj.cells.injEq] at e2
  exact hef e2.2.1
/-- one step more -/
theorem Um.pushP (h : Um B W q p dn op vO) (x : Stp) (hx : stpR x) (hl : p.length ≤ 1000000) :
    ∃ av cv a' cap W2, RowKit.Hid (W.cell? ⟨B, 0, none⟩ = some (.slice av p.length cv)) ∧ RowKit.Hid ((Builtin.append_ #[25, 25] 25 #[.slice av p.length cv, .slice (some ⟨W.heap.size, 0, none⟩) 1 1]).run Tryz.prog (W.alloc (.cells #[.int .i64 x.1, .int .i64 x.2.1, .int .i64 x.2.2] 86)) = .ok (.slice a' (p.length + 1) cap) W2) ∧
      RowKit.Hid (W2.cell? ⟨B, 0, none⟩ = some (.slice av p.length cv)) ∧ RowKit.Hid (W2.frozen? ⟨B, 0, none⟩ = false) ∧ RowKit.Hid (Um B (W2.setCell ⟨B, 0, none⟩ (.slice a' (p.length + 1) cap)) q (p ++ [x]) dn op vO) ∧ RowKit.Hid (Below B W (W2.setCell ⟨B, 0, none⟩ (.slice a' (p.length + 1) cap))) ∧
      RowKit.Hid (∀ k, k < W.heap.size → k ≠ B → (Value.slice av p.length cv).ownBlock ≠ some k → (W2.setCell ⟨B, 0, none⟩ (.slice a' (p.length + 1) cap)).heap[k]? = W.heap[k]?) ∧ RowKit.Hid (∀ k, (Value.slice av p.length cv).ownBlock = some k → B + 4 ≤ k ∧ ∃ cs, W.heap[k]? = some (.cells cs 86 (0, 0))) := by
  obtain ⟨v, h1, h2⟩ := h.p
  obtain ⟨u, h3, h4, h5⟩ := h.d
  obtain ⟨a', cap, W2, r1, r2, r3, r4, r5, r6, r7, r8, -⟩ := box_push2 (P := Tryz.prog) (t := 25) (ty := 25) (B := B) h1 h2 (by decide) h.sz (by omega) (Nat.le_refl _) Tryz.underlying25 infoStp rfl (vs := [.int .i64 x.1, .int .i64 x.2.1, .int .i64 x.2.2]) (stp_R hx) (by omega) (by unfold big; omega)
  obtain ⟨av, cv, rfl, -⟩ := OwnL.sl h2
  have hv := fun k hk => (OwnL.lt h2 k hk).1
  have t1 := own_types h4 h2 (by decide)
  have t2 := own_types h.o h2 (by decide)
  refine ⟨av, cv, a', cap, W2, Lib.hid h1.cell, r1, r2, r3, Lib.hid ⟨⟨_, r4.out, r5.out⟩, h.m.same (r6.out _ h.m.lt (by omega) (fun e => by have := hv _ e; omega)), (r6.out _ h.a.lt (by omega) (fun e => by have := hv _ e; omega)).trans h.a, ⟨u, (r6.out _ h3.lt (by omega) (fun e => by have := hv _ e; omega)).trans h3, ?_, h5⟩, ?_, Nat.le_trans h.sz ?_⟩, r7, r6, Lib.hid (fun k hk => ⟨hv k hk, OwnL.rowCells h2 k hk⟩)⟩
  · exact OwnL.kept h4 (fun k hk => r6.out k (OwnL.lt h4 k hk).2 (by have := (OwnL.lt h4 k hk).1; omega) (t1 k hk)) (fun b hb _ => hb.1.elim)
  · exact OwnL.kept h.o (fun k hk => r6.out k (OwnL.lt h.o k hk).2 (by have := (OwnL.lt h.o k hk).1; omega) (t2 k hk)) (fun b hb _ => hb.1.elim)
  · exact r7.out.size
/-- one done step more -/
theorem Um.pushD (h : Um B W q p dn op vO) (x : Int) (hx : inRange x) (hl : dn.length ≤ 1000000) :
    ∃ av cv a' cap W2, RowKit.Hid (W.cell? ⟨B + 3, 0, none⟩ = some (.slice av dn.length cv)) ∧ RowKit.Hid ((Builtin.append_ #[33, 33] 33 #[.slice av dn.length cv, .slice (some ⟨W.heap.size, 0, none⟩) 1 1]).run Tryz.prog (W.alloc (.cells #[.int .i64 x] 3)) = .ok (.slice a' (dn.length + 1) cap) W2) ∧
      RowKit.Hid (W2.cell? ⟨B + 3, 0, none⟩ = some (.slice av dn.length cv)) ∧ RowKit.Hid (W2.frozen? ⟨B + 3, 0, none⟩ = false) ∧ RowKit.Hid (Um B (W2.setCell ⟨B + 3, 0, none⟩ (.slice a' (dn.length + 1) cap)) q p (dn ++ [x]) op vO) ∧ RowKit.Hid (Below B W (W2.setCell ⟨B + 3, 0, none⟩ (.slice a' (dn.length + 1) cap)))  := by
  obtain ⟨v, h1, h2⟩ := h.p
  obtain ⟨u, h3, h4, h5⟩ := h.d
  obtain ⟨a', cap, W2, r1, r2, r3, r4, r5, r6, r7, r8, -⟩ := box_push2 (P := Tryz.prog) (t := 33) (ty := 33) (B := B) h3 h4 (by decide) h.sz (by omega) (by omega) Tryz.underlying33 infoInt rfl (vs := [.int .i64 x]) (x := x) ⟨rfl, hx⟩ (by omega) (by unfold big; omega)
  obtain ⟨av, cv, rfl, -⟩ := OwnL.sl h4
  have hv := fun k hk => (OwnL.lt h4 k hk).1
  have t1 := own_types h2 h4 (by decide)
  refine ⟨av, cv, a', cap, W2, Lib.hid h3.cell, r1, r2, r3, Lib.hid ⟨⟨v, (r6.out _ h1.lt (by omega) (fun e => by have := hv _ e; omega)).trans h1, ?_⟩, h.m.same (r6.out _ h.m.lt (by omega) (fun e => by have := hv _ e; omega)), (r6.out _ h.a.lt (by omega) (fun e => by have := hv _ e; omega)).trans h.a, ⟨_, r4.out, r5.out, fun k hk e => ?_⟩, ?_, Nat.le_trans h.sz r7.out.size⟩, r7⟩
  · exact OwnL.kept h2 (fun k hk => r6.out k (OwnL.lt h2 k hk).2 (by have := (OwnL.lt h2 k hk).1; omega) (t1 k hk)) (fun b hb _ => hb.1.elim)
  · rcases r8.out with g | ⟨j, g1, g2⟩
    · rw [g] at e; exact h5 k hk e
    · rw [g1] at e; cases e; have := (OwnL.lt h.o k hk).2; omega
  · exact OwnL.kept h.o (fun k hk => r6.out k (OwnL.lt h.o k hk).2 (by have := (OwnL.lt h.o k hk).1; omega) (h5 k hk)) (fun b hb _ => hb.1.elim)
theorem Um.look (h : Um B W q p dn op vO) (x : StK) : (Instr.lookup 100 (.map (some (B + 1))) (stpV x.1) false).run Tryz.prog W = .ok ((atF q x).getD (.int .i64 0)) W := h.m.look (tm := 100) Tryz.underlying100 (zInt W) x trivial
theorem Um.look_ok (h : Um B W q p dn op vO) (x : StK) : (Instr.lookup 100 (.map (some (B + 1))) (stpV x.1) true).run Tryz.prog W = .ok (.tuple #[(atF q x).getD (.int .i64 0), .bool (atF q x).isSome]) W := h.m.look_ok (tm := 100) Tryz.underlying100 (zInt W) x trivial
end
theorem atF_old {p : List Stp} {x : StK} (h : x.1 ∈ p) : atF p x = some (.int .i64 (p.idxOf x.1 : Nat)) := by unfold atF; rw [if_pos h]
theorem atF_last {p : List Stp} {x : StK} (h : x.1 ∉ p) : atF (p ++ [x.1]) x = some (.int .i64 (p.length : Nat)) := by
  rw [← atF_new h]; simp
set_option maxRecDepth 100000 in
set_option maxHeartbeats 4000000 in
theorem untadd_any {B : Nat} {p : List Stp} {dn op : List Int} {vO : Value} (x : Stp) (w : World) (hU : Um B w p p dn op vO) (hx : stpR x) (hp : p.length ≤ 100000) (hd : dn.length ≤ 100000) :
    Calls Tryz.prog 82 #[stpV x, .pointer (some ⟨B + 2, 0, none⟩), .pointer (some ⟨B, 0, none⟩), .pointer (some ⟨B + 3, 0, none⟩)] w fun e w' => e = .returned (.tuple #[]) ∧ Um B w' (addP p x).1 (addP p x).1 (dn ++ [((addP p x).2 : Int)]) op vO ∧ Below B w w' := by
  obtain ⟨W0, hW0⟩ : ∃ W, w.alloc (.cells #[.int .i64 x.1, .int .i64 x.2.1, .int .i64 x.2.2] 86) = W := ⟨_, rfl⟩
  have hb0 : Below w.heap.size w W0 := by rw [← hW0]; exact below1 w _
  have hU0 := hU.below hb0
  have hX : W0.heap[w.heap.size]? = some (.cells #[.int .i64 x.1, .int .i64 x.2.1, .int .i64 x.2.2] 86 (0, 0)) := by rw [← hW0]; exact World.alloc_heap_new w _
  have hszB := hU.sz
  have hBb : Below B w W0 := hb0.mono (by omega)
  obtain ⟨x1, x2, x3⟩ := x
  dsimp only at hX hW0
  have hxc : ∀ {W : World}, W.heap[w.heap.size]? = some (.cells #[.int .i64 x1, .int .i64 x2, .int .i64 x3] 86 (0, 0)) → W.cell? ⟨w.heap.size, 0, none⟩ = some (.int .i64 x1) ∧ W.cell? ⟨w.heap.size, 1, none⟩ = some (.int .i64 x2) ∧ W.cell? ⟨w.heap.size, 2, none⟩ = some (.int .i64 x3) := fun h => by simp [World.cell?, h]
  obtain ⟨q1, q2, q3⟩ := hxc hX
  have qa := hU0.a.cell
  by_cases hm : (x1, x2, x3) ∈ p
  · have ha : addP p (x1, x2, x3) = (p, p.idxOf (x1, x2, x3)) := if_pos hm
    have hk := List.idxOf_lt_length_of_mem hm
    have hl1 := hU0.look_ok ⟨(x1, x2, x3), hx⟩
    have hbd : Below W0.heap.size W0 W0.drew := (Below.refl _ W0).drew
    have hUd := hU0.below hbd
    have hl2 := hUd.look ⟨(x1, x2, x3), hx⟩
    rw [atF_old hm] at hl1 hl2
    obtain ⟨k, hkk⟩ : ∃ k, p.idxOf (x1, x2, x3) = k := ⟨_, rfl⟩
    rw [hkk] at ha hk
    simp only [Option.getD_some, Option.isSome_some, hkk] at hl1 hl2
    obtain ⟨av, cv, a', cap, W2, r1, r2, r3, r4, r5, r6⟩ := hUd.pushD (k : Int) (by unfold inRange; omega) (by omega)
    have qd := r1.out
    have qad : W0.drew.cell? ⟨B + 2, 0, none⟩ = some (.map (some (B + 1))) := qa
    have q1d : W0.drew.cell? ⟨w.heap.size, 0, none⟩ = some (.int .i64 x1) := q1
    have q2d : W0.drew.cell? ⟨w.heap.size, 1, none⟩ = some (.int .i64 x2) := q2
    have q3d : W0.drew.cell? ⟨w.heap.size, 2, none⟩ = some (.int .i64 x3) := q3
    have qd2 : (W0.alloc (.cells #[.int .i64 (k : Int)] 3)).cell? ⟨B + 3, 0, none⟩ = some (.slice av dn.length cv) := cell_later (below1 W0 (.cells #[.int .i64 (k : Int)] 3)) qd
    have rrun := r2.out
    have rc := r3.out
    have rf := r4.out
    have hUH := r5
    have hBH := Lib.hid (hBb.trans ((hbd.mono (by have := hU0.sz; omega)).trans r6.out))
    have haH := Lib.hid ha
    clear hU hU0 hUd hX hxc hm ha hb0 hbd hkk hBb r1 r2 r3 r4 r5 r6
    go_enter Tryz.func82, Tryz.ntmps82
    go_wp2_with fail
    go_region_law (rw [if_pos (by kernel_rfl)]; refine oper_append_run (.tmp 23) (.tmp 27) _ rfl rfl rfl rrun ?_)
    all_goals go_end0
    all_goals rw [haH.out]
    all_goals exact ⟨rfl, hUH.out, hBH.out⟩
  · have ha : addP p (x1, x2, x3) = (p ++ [(x1, x2, x3)], p.length) := if_neg hm
    have hl1 := hU0.look_ok ⟨(x1, x2, x3), hx⟩
    have hno : atF p ⟨(x1, x2, x3), hx⟩ = none := by unfold atF; rw [if_neg hm]
    rw [hno] at hl1
    simp only [Option.getD_none, Option.isSome_none] at hl1
    obtain ⟨W1, s1, s2, s3⟩ := hU0.store ⟨(x1, x2, x3), hx⟩ hm (by omega)
    have hU1 := s2.out
    have hg1 := s3.out
    have hX1 : W1.heap[w.heap.size]? = some (.cells #[.int .i64 x1, .int .i64 x2, .int .i64 x3] 86 (0, 0)) := (hg1.block _ (by have := (Array.getElem?_eq_some_iff.1 hX).1; exact this) (fun e => by injection e with e; omega)).trans hX
    obtain ⟨u1, u2, u3⟩ := hxc hX1
    have ua := hU1.a.cell
    obtain ⟨v0, b0, o0⟩ := hU.p
    have ub : W0.cell? ⟨B, 0, none⟩ = some v0 := cell_later hb0 b0.cell
    obtain ⟨pv, pc, p', pcap, W2, t1, t2, t3, t4, t5, t6, t7, t8⟩ := hU1.pushP (x1, x2, x3) hx (by omega)
    have hv0 : v0 = .slice pv p.length pc := by
      have := t1.out
      rw [World.cell?_of_block (w := W0) (hg1.block B (by have := World.block_lt_of_cell? _ _ ub; exact this) (fun e => by injection e with e; omega)), ub] at this
      exact Option.some.inj this
    subst hv0
    have hU3 := t5.out
    obtain ⟨W3, hW3⟩ : ∃ W, W2.setCell ⟨B, 0, none⟩ (.slice p' (p.length + 1) pcap) = W := ⟨_, rfl⟩
    rw [hW3] at hU3
    have hX3 : W3.heap[w.heap.size]? = some (.cells #[.int .i64 x1, .int .i64 x2, .int .i64 x3] 86 (0, 0)) := by
      rw [← hW3]
      exact (t7.out _ (by have := (Array.getElem?_eq_some_iff.1 hX1).1; exact this) (by omega) (fun e => by have := (OwnL.lt o0 _ e).2; omega)).trans hX1
    obtain ⟨z1, z2, z3⟩ := hxc hX3
    have za := hU3.a.cell
    have hbd : Below W3.heap.size W3 W3.drew := (Below.refl _ W3).drew
    have hUd := hU3.below hbd
    have hl2 := hUd.look ⟨(x1, x2, x3), hx⟩
    rw [atF_last (x := ⟨(x1, x2, x3), hx⟩) hm] at hl2
    simp only [Option.getD_some] at hl2
    obtain ⟨av, cv, a', cap, W4, r1, r2, r3, r4, r5, r6⟩ := hUd.pushD (p.length : Int) (by unfold inRange; omega) (by omega)
    have qd := r1.out
    have qad : W3.drew.cell? ⟨B + 2, 0, none⟩ = some (.map (some (B + 1))) := za
    have q1d : W3.drew.cell? ⟨w.heap.size, 0, none⟩ = some (.int .i64 x1) := z1
    have q2d : W3.drew.cell? ⟨w.heap.size, 1, none⟩ = some (.int .i64 x2) := z2
    have q3d : W3.drew.cell? ⟨w.heap.size, 2, none⟩ = some (.int .i64 x3) := z3
    have qd2 : (W3.alloc (.cells #[.int .i64 (p.length : Int)] 3)).cell? ⟨B + 3, 0, none⟩ = some (.slice av dn.length cv) := cell_later (below1 W3 (.cells #[.int .i64 (p.length : Int)] 3)) qd
    have s1o := s1.out
    have t1o := t1.out
    have t2o := t2.out
    have t3o := t3.out
    have t4o := t4.out
    have rrun := r2.out
    have rc := r3.out
    have rf := r4.out
    have hUH := r5
    have hB3 : Below B w W3 := by rw [← hW3]; exact ((hBb.grown hg1 (by have := hU0.sz; omega) (fun k e => by injection e with e; omega))).trans t6.out
    have hBH := Lib.hid (hB3.trans ((hbd.mono (by have := hU3.sz; omega)).trans r6.out))
    have haH := Lib.hid ha
    clear hU hU0 hU1 hU3 hUd hX hX1 hX3 hxc hm ha hb0 hbd hBb r1 r2 r3 r4 r5 r6 s1 s2 s3 hno t1 t2 t3 t4 t5 t6 t7 t8 o0 b0 hB3 hg1
    go_enter Tryz.func82, Tryz.ntmps82
    go_wp2_with (at_builtin; refine wpList_append_run rfl _ _ _ rfl rfl rfl t2o ?_)
    go_region_law (rw [if_pos (by kernel_rfl)]; refine oper_append_run (.tmp 23) (.tmp 27) _ rfl rfl rfl rrun ?_)
    all_goals go_end0
    all_goals rw [haH.out]
    all_goals exact ⟨rfl, hUH.out, hBH.out⟩
end Go.Proofs.YtgkddhakhapjlaaGreatDoor

/- The library's contract of strconv.Atoi, laid at the program (by the shelf's plain mode, numbers by name). -/
namespace Go.Proofs.YtgkddhakhapjlaaGreatDoor
open Go Go.RowKit Go.Shelf

def sh172_ren : Go.Shelf.Ren := ⟨fun | 172 => 84 | 244 => 128 | 245 => 129 | 247 => 163 | 279 => 164 | 280 => 165 | 281 => 166 | 282 => 167 | 287 => 198 | 316 => 199 | 171 => 78 | 205 => 200 | 321 => 225 | 322 => 226 | 243 => 127 | 246 => 162 | 283 => 194 | 284 => 195 | 285 => 196 | 286 => 197 | 129 => 180 | 317 => 221 | 318 => 222 | 319 => 223 | 320 => 224 | 337 => 233 | 338 => 234 | n => n, fun | 9 => 9 | 3 => 3 | 75 => 93 | 76 => 94 | 4 => 4 | 5 => 5 | 167 => 189 | 37 => 88 | 0 => 0 | 85 => 190 | 2 => 2 | 168 => 192 | 53 => 208 | 175 => 225 | 46 => 157 | 210 => 229 | 127 => 149 | 145 => 251 | 143 => 249 | 21 => 21 | 171 => 221 | 173 => 223 | 212 => 246 | 51 => 206 | 20 => 20 | 213 => 247 | 232 => 259 | 233 => 260 | 80 => 97 | n => n, fun | 15 => 0 | 16 => 1 | 17 => 3 | 18 => 4 | 19 => 5 | n => n⟩
theorem sh172 : Go.Proofs.Lays.n172 Tryz.prog sh172_ren := {
  mixed := by kernel_rfl
  f129 := Tryz.func180.trans (congrArg some (by kernel_rfl))
  f171 := Tryz.func78.trans (congrArg some (by kernel_rfl))
  f172 := Tryz.func84.trans (congrArg some (by kernel_rfl))
  f205 := Tryz.func200.trans (congrArg some (by kernel_rfl))
  f243 := Tryz.func127.trans (congrArg some (by kernel_rfl))
  f244 := Tryz.func128.trans (congrArg some (by kernel_rfl))
  f245 := Tryz.func129.trans (congrArg some (by kernel_rfl))
  f246 := Tryz.func162.trans (congrArg some (by kernel_rfl))
  f247 := Tryz.func163.trans (congrArg some (by kernel_rfl))
  f279 := Tryz.func164.trans (congrArg some (by kernel_rfl))
  f280 := Tryz.func165.trans (congrArg some (by kernel_rfl))
  f281 := Tryz.func166.trans (congrArg some (by kernel_rfl))
  f282 := Tryz.func167.trans (congrArg some (by kernel_rfl))
  f283 := Tryz.func194.trans (congrArg some (by kernel_rfl))
  f284 := Tryz.func195.trans (congrArg some (by kernel_rfl))
  f285 := Tryz.func196.trans (congrArg some (by kernel_rfl))
  f286 := Tryz.func197.trans (congrArg some (by kernel_rfl))
  f287 := Tryz.func198.trans (congrArg some (by kernel_rfl))
  f316 := Tryz.func199.trans (congrArg some (by kernel_rfl))
  f317 := Tryz.func221.trans (congrArg some (by kernel_rfl))
  f318 := Tryz.func222.trans (congrArg some (by kernel_rfl))
  f319 := Tryz.func223.trans (congrArg some (by kernel_rfl))
  f320 := Tryz.func224.trans (congrArg some (by kernel_rfl))
  f321 := Tryz.func225.trans (congrArg some (by kernel_rfl))
  f322 := Tryz.func226.trans (congrArg some (by kernel_rfl))
  f337 := Tryz.func233.trans (congrArg some (by kernel_rfl))
  f338 := Tryz.func234.trans (congrArg some (by kernel_rfl))
  t0 := Tryz.underlying0
  a0 := Tryz.isAgg0
  z0 := Tryz.sizeOf0
  v0 := Tryz.zeroValue0
  t2 := Tryz.underlying2
  a2 := Tryz.isAgg2
  z2 := Tryz.sizeOf2
  v2 := Tryz.zeroValue2
  t3 := Tryz.underlying3
  a3 := Tryz.isAgg3
  z3 := Tryz.sizeOf3
  v3 := Tryz.zeroValue3
  t4 := Tryz.underlying4
  a4 := Tryz.isAgg4
  z4 := Tryz.sizeOf4
  v4 := Tryz.zeroValue4
  t5 := Tryz.underlying5
  a5 := Tryz.isAgg5
  z5 := Tryz.sizeOf5
  v5 := Tryz.zeroValue5
  t9 := Tryz.underlying9
  a9 := Tryz.isAgg9
  z9 := Tryz.sizeOf9
  v9 := Tryz.zeroValue9
  t20 := Tryz.underlying20
  a20 := Tryz.isAgg20
  z20 := Tryz.sizeOf20
  v20 := Tryz.zeroValue20
  t21 := Tryz.underlying21
  a21 := Tryz.isAgg21
  z21 := Tryz.sizeOf21
  v21 := Tryz.zeroValue21
  t37 := Tryz.underlying88
  a37 := Tryz.isAgg88
  z37 := Tryz.sizeOf88
  v37 := Tryz.zeroValue88
  t46 := Tryz.underlying157
  a46 := Tryz.isAgg157
  z46 := Tryz.sizeOf157
  v46 := Tryz.zeroValue157
  t51 := Tryz.underlying206
  a51 := Tryz.isAgg206
  z51 := Tryz.sizeOf206
  v51 := Tryz.zeroValue206
  t53 := Tryz.underlying208
  a53 := Tryz.isAgg208
  z53 := Tryz.sizeOf208
  v53 := Tryz.zeroValue208
  t75 := Tryz.underlying93
  a75 := Tryz.isAgg93
  z75 := Tryz.sizeOf93
  v75 := Tryz.zeroValue93
  t76 := Tryz.underlying94
  a76 := Tryz.isAgg94
  z76 := Tryz.sizeOf94
  v76 := Tryz.zeroValue94
  t85 := Tryz.underlying190
  a85 := Tryz.isAgg190
  z85 := Tryz.sizeOf190
  v85 := Tryz.zeroValue190
  t127 := Tryz.underlying149
  a127 := Tryz.isAgg149
  z127 := Tryz.sizeOf149
  v127 := Tryz.zeroValue149
  t143 := Tryz.underlying249
  a143 := Tryz.isAgg249
  z143 := Tryz.sizeOf249
  v143 := Tryz.zeroValue249
  t145 := Tryz.underlying251
  a145 := Tryz.isAgg251
  z145 := Tryz.sizeOf251
  v145 := Tryz.zeroValue251
  t167 := Tryz.underlying189
  a167 := Tryz.isAgg189
  z167 := Tryz.sizeOf189
  v167 := Tryz.zeroValue189
  t168 := Tryz.underlying192
  a168 := Tryz.isAgg192
  z168 := Tryz.sizeOf192
  v168 := Tryz.zeroValue192
  t171 := Tryz.underlying221
  a171 := Tryz.isAgg221
  z171 := Tryz.sizeOf221
  v171 := Tryz.zeroValue221
  t173 := Tryz.underlying223
  a173 := Tryz.isAgg223
  z173 := Tryz.sizeOf223
  v173 := Tryz.zeroValue223
  t175 := Tryz.underlying225
  a175 := Tryz.isAgg225
  z175 := Tryz.sizeOf225
  v175 := Tryz.zeroValue225
  t210 := Tryz.underlying229
  a210 := Tryz.isAgg229
  z210 := Tryz.sizeOf229
  v210 := Tryz.zeroValue229
  t212 := Tryz.underlying246
  a212 := Tryz.isAgg246
  z212 := Tryz.sizeOf246
  v212 := Tryz.zeroValue246
  t213 := Tryz.underlying247
  a213 := Tryz.isAgg247
  z213 := Tryz.sizeOf247
  t232 := Tryz.underlying259
  a232 := Tryz.isAgg259
  z232 := Tryz.sizeOf259
  v232 := Tryz.zeroValue259
  t233 := Tryz.underlying260
  a233 := Tryz.isAgg260
  z233 := Tryz.sizeOf260
  v233 := Tryz.zeroValue260
  g15 := by kernel_rfl
  g16 := by kernel_rfl
  g17 := by kernel_rfl
  g18 := by kernel_rfl
  g19 := by kernel_rfl }
theorem bytesWorld_low (w : World) (e : TypeId) (t : ByteArray) : Below w.heap.size w (Lib.bytesWorld w e t) := by
  exact ⟨rfl, rfl, rfl, by rw [Lib.bytesWorld_size]; omega, fun j hj => Lib.bytesWorld_at_old w e t j hj⟩
theorem Atoi_any (s : ByteArray) (n : Int) (hl : s.size ≤ 18) (h : Lib.atoi s.data.toList = some n) (w : World) :
    Calls Tryz.prog 84 #[.string s] w fun e w' => e = .returned (.tuple #[.int .i64 n, .nilIface]) ∧ Below w.heap.size w w' :=
  (Any.strconv_Atoi sh172 s n hl h w).mono fun e w' ⟨he, t, ht⟩ => ⟨he, by rw [ht]; exact bytesWorld_low w _ t⟩
end Go.Proofs.YtgkddhakhapjlaaGreatDoor

/- Walks: kernel.Untree. -/
namespace Go.Proofs.YtgkddhakhapjlaaGreatDoor
open Go Go.RowKit Go.Maps Go.WideMaps

theorem OwnI.takeN {w : World} {base g n cap k : Nat} {l : List Int} (h : OwnI w base (.slice (some ⟨g, 0, none⟩) n cap) l) (hn : n = l.length) (hk : k ≤ n) : OwnI w base (.slice (some ⟨g, 0, none⟩) k cap) (l.take k) := by
  subst hn
  obtain ⟨ho, hr⟩ := OwnL.row h
  refine OwnL.of_row ?_ (fun x hx => hr x (List.mem_of_mem_take hx))
  have hlk : (l.take k).length = k := by rw [List.length_take]; omega
  rw [hlk, List.map_take]
  obtain ⟨e1, e2⟩ := ho
  refine ⟨by rw [List.length_take, e1]; omega, ?_⟩
  rcases e2 with ⟨e2, -⟩ | ⟨g', cap', cur, e3, e4, e5, e6, e7, e8, e9⟩
  · cases e2
  · cases e3
    refine .inr ⟨g, cap, cur, rfl, e4, e5, by omega, e7, e8, ?_⟩
    rw [← e9, List.take_take, Nat.mul_one, Nat.mul_one, Nat.min_eq_left hk]
def opOf : List (Option Nat) → List Int
  | [] => []
  | none :: st => opOf st ++ [2]
  | some _ :: st => opOf st ++ [1]
def dnOf : List (Option Nat) → List Int
  | [] => []
  | none :: st => dnOf st
  | some m :: st => dnOf st ++ [(m : Int)]
def dnW (st : List (Option Nat)) : Option Nat → List Int
  | none => dnOf st
  | some k => dnOf st ++ [(k : Int)]
theorem opOf_len : ∀ st : List (Option Nat), (opOf st).length = st.length
  | [] => rfl
  | none :: st => by rw [opOf, List.length_append, opOf_len st]; rfl
  | some _ :: st => by rw [opOf, List.length_append, opOf_len st]; rfl
theorem dnOf_len : ∀ st : List (Option Nat), (dnOf st).length ≤ st.length
  | [] => Nat.le_refl _
  | none :: st => by have := dnOf_len st; rw [dnOf, List.length_cons]; omega
  | some _ :: st => by have := dnOf_len st; rw [dnOf, List.length_append, List.length_cons]; simp; omega
section
variable {B : Nat} {W : World} {q p : List Stp} {dn op : List Int} {vO : Value}
/-- one more that is open -/
theorem Um.pushO (h : Um B W q p dn op vO) (x : Int) (hx : inRange x) (hl : op.length ≤ 1000000) :
    ∃ v' W', RowKit.Hid ((Builtin.append_ #[33, 33] 33 #[vO, .slice (some ⟨W.heap.size, 0, none⟩) 1 1]).run Tryz.prog (W.alloc (.cells #[.int .i64 x] 3)) = .ok v' W') ∧ RowKit.Hid (Um B W' q p dn (op ++ [x]) v') ∧ RowKit.Hid (Below B W W') := by
  obtain ⟨v', W', hrun, ho, hg, hat⟩ := OwnL.push (P := Tryz.prog) (t := 33) (ty := 33) h.o Tryz.underlying33 infoInt rfl (vs := [.int .i64 x]) (x := x) ⟨rfl, hx⟩ (by omega) (by unfold big; omega) h.sz
  obtain ⟨v, h1, h2⟩ := h.p
  obtain ⟨u, h3, h4, h5⟩ := h.d
  have hv := fun k hk => (OwnL.lt h.o k hk).1
  have t1 := own_types h2 h.o (by decide)
  have keep : ∀ k, k < W.heap.size → vO.ownBlock ≠ some k → W'.heap[k]? = W.heap[k]? := fun k hk hr => hg.block k hk (fun e => hr e.symm)
  refine ⟨v', W', Lib.hid hrun, Lib.hid ⟨⟨v, (keep _ h1.lt (fun e => by have := hv _ e; omega)).trans h1, ?_⟩, h.m.same (keep _ h.m.lt (fun e => by have := hv _ e; omega)), (keep _ h.a.lt (fun e => by have := hv _ e; omega)).trans h.a, ⟨u, (keep _ h3.lt (fun e => by have := hv _ e; omega)).trans h3, ?_, fun k hk e => ?_⟩, ho, Nat.le_trans h.sz hg.size⟩, Lib.hid ?_⟩
  · exact OwnL.kept h2 (fun k hk => keep k (OwnL.lt h2 k hk).2 (t1 k hk)) (fun b hb _ => hb.1.elim)
  · exact OwnL.kept h4 (fun k hk => keep k (OwnL.lt h4 k hk).2 (fun e => h5 k e hk)) (fun b hb _ => hb.1.elim)
  · rcases hat with g | ⟨j, g1, g2⟩
    · rw [g] at hk; exact h5 k hk e
    · have := (OwnL.lt h4 k e).2
      rw [g1] at hk
      injection hk with hk
      omega
  · exact (Below.refl B W).grown hg (Nat.le_trans (by omega) h.sz) (fun k e => Nat.le_trans (by omega) (hv k e))
/-- the last open one is written -/
theorem Um.setO {l : List Int} {x0 : Int} (h : Um B W q p dn (l ++ [x0]) vO) (x : Int) (hx : inRange x) :
    ∃ g cap, vO = .slice (some ⟨g, 0, none⟩) (l.length + 1) cap ∧ l.length + 1 ≤ cap ∧ RowKit.Hid (W.cell? ⟨g, l.length, none⟩ = some (.int .i64 x0)) ∧ RowKit.Hid (W.frozen? ⟨g, l.length, none⟩ = false) ∧
      RowKit.Hid (Um B (W.setCell ⟨g, l.length, none⟩ (.int .i64 x)) q p dn (l ++ [x]) vO) ∧ RowKit.Hid (Below B W (W.setCell ⟨g, l.length, none⟩ (.int .i64 x))) ∧ RowKit.Hid ((W.setCell ⟨g, l.length, none⟩ (.int .i64 x)).cell? ⟨g, l.length, none⟩ = some (.int .i64 x)) := by
  have ho := h.o
  obtain ⟨g, cap, hv, hb, hlt⟩ := OwnL.form ho (by simp)
  have hll : (l ++ [x0]).length = l.length + 1 := by simp
  rw [hll] at hv
  subst hv
  obtain ⟨c1, c2⟩ := OwnL.cellInt ho hll.symm l.length (by simp)
  obtain ⟨s1, s2⟩ := OwnL.setInt ho hll.symm l.length x hx
  have hc : l.length + 1 ≤ cap := by obtain ⟨a, c, e, hI⟩ := OwnI.ints ho; simp only [Value.slice.injEq] at e; obtain ⟨-, -, rfl⟩ := e; rw [← hll]; exact hI.cap
  rw [List.getElem_concat_length (by rfl)] at c1
  have hset : (l ++ [x0]).set l.length x = l ++ [x] := by simp
  rw [hset] at s1
  obtain ⟨c3, -⟩ := OwnL.cellInt s1 (by simp) l.length (by simp)
  rw [List.getElem_concat_length (by rfl)] at c3
  obtain ⟨v, h1, h2⟩ := h.p
  obtain ⟨u, h3, h4, h5⟩ := h.d
  have t1 := own_types h2 ho (by decide)
  have keep : ∀ k, k < W.heap.size → g ≠ k → (W.setCell ⟨g, l.length, none⟩ (.int .i64 x)).heap[k]? = W.heap[k]? := fun k hk hr => s2.block k hk (fun e => hr (by injection e with e; exact e.symm))
  refine ⟨g, cap, rfl, hc, Lib.hid c1, Lib.hid c2, Lib.hid ⟨⟨v, (keep _ h1.lt (by omega)).trans h1, ?_⟩, h.m.same (keep _ h.m.lt (by omega)), (keep _ h.a.lt (by omega)).trans h.a, ⟨u, (keep _ h3.lt (by omega)).trans h3, ?_, h5⟩, s1, Nat.le_trans h.sz s2.size⟩, Lib.hid ?_, Lib.hid c3⟩
  · exact OwnL.kept h2 (fun k hk => keep k (OwnL.lt h2 k hk).2 (fun e => t1 k hk (by rw [← e]; rfl))) (fun b hb _ => hb.1.elim)
  · exact OwnL.kept h4 (fun k hk => keep k (OwnL.lt h4 k hk).2 (fun e => h5 k (by rw [← e]; rfl) hk)) (fun b hb _ => hb.1.elim)
  · exact (Below.refl B W).grown s2 (Nat.le_trans (by omega) h.sz) (fun k e => by injection e with e; omega)
/-- the last open one is left -/
theorem Um.takeO {l : List Int} {x0 : Int} {g n cap : Nat} (h : Um B W q p dn (l ++ [x0]) (.slice (some ⟨g, 0, none⟩) n cap)) (hn : n = l.length + 1) : Um B W q p dn l (.slice (some ⟨g, 0, none⟩) l.length cap) := by
  obtain ⟨u, h3, h4, h5⟩ := h.d
  have := OwnI.takeN h.o (k := l.length) (by simp [hn]) (by omega)
  rw [List.take_left'] at this
  · exact ⟨h.p, h.m, h.a, ⟨u, h3, h4, h5⟩, this, h.sz⟩
  · rfl
/-- the last two that are done are left -/
theorem Um.takeD {l : List Int} {x0 x1 : Int} (h : Um B W q p (l ++ [x0] ++ [x1]) op vO) :
    ∃ g cap, l.length + 1 + 1 ≤ cap ∧ RowKit.Hid (W.cell? ⟨B + 3, 0, none⟩ = some (.slice (some ⟨g, 0, none⟩) (l.length + 1 + 1) cap)) ∧ RowKit.Hid (W.frozen? ⟨B + 3, 0, none⟩ = false) ∧ RowKit.Hid (W.cell? ⟨g, l.length, none⟩ = some (.int .i64 x0)) ∧ RowKit.Hid (W.cell? ⟨g, l.length + 1, none⟩ = some (.int .i64 x1)) ∧
      RowKit.Hid (Um B (W.setCell ⟨B + 3, 0, none⟩ (.slice (some ⟨g, 0, none⟩) l.length cap)) q p l op vO) ∧ RowKit.Hid (Below B W (W.setCell ⟨B + 3, 0, none⟩ (.slice (some ⟨g, 0, none⟩) l.length cap))) := by
  obtain ⟨v, h1, h2⟩ := h.p
  obtain ⟨u, h3, h4, h5⟩ := h.d
  obtain ⟨g, cap, hv, hb, hlt⟩ := OwnL.form h4 (by simp)
  have hll : (l ++ [x0] ++ [x1]).length = l.length + 1 + 1 := by simp
  rw [hll] at hv
  subst hv
  have hc : l.length + 1 + 1 ≤ cap := by obtain ⟨a, c, e, hI⟩ := OwnI.ints h4; simp only [Value.slice.injEq] at e; obtain ⟨-, -, rfl⟩ := e; rw [← hll]; exact hI.cap
  obtain ⟨c1, -⟩ := OwnL.cellInt h4 hll.symm l.length (by simp)
  obtain ⟨c2, -⟩ := OwnL.cellInt h4 hll.symm (l.length + 1) (by simp)
  rw [List.getElem_append_left (by simp), List.getElem_concat_length (by rfl)] at c1
  rw [List.getElem_concat_length (by simp)] at c2
  have hk := OwnI.takeN h4 (k := l.length) hll.symm (by omega)
  rw [List.append_assoc, List.take_left' (by rfl)] at hk
  have hg3 : W.grownBy (W.setCell ⟨B + 3, 0, none⟩ (.slice (some ⟨g, 0, none⟩) l.length cap)) (some (B + 3)) := grownBy_setCell' _ _ _
  have keep : ∀ k, k < W.heap.size → k ≠ B + 3 → (W.setCell ⟨B + 3, 0, none⟩ (.slice (some ⟨g, 0, none⟩) l.length cap)).heap[k]? = W.heap[k]? := fun k hk hr => hg3.block k hk (fun e => hr (by injection e))
  refine ⟨g, cap, hc, Lib.hid h3.cell, Lib.hid h3.frozen, Lib.hid c1, Lib.hid c2, Lib.hid ⟨⟨v, (keep _ h1.lt (by omega)).trans h1, ?_⟩, h.m.same (keep _ h.m.lt (by omega)), (keep _ h.a.lt (by omega)).trans h.a, ⟨_, h3.set _, ?_, h5⟩, ?_, Nat.le_trans h.sz hg3.size⟩, Lib.hid ?_⟩
  · exact OwnL.kept h2 (fun k hk => keep k (OwnL.lt h2 k hk).2 (by have := (OwnL.lt h2 k hk).1; omega)) (fun b hb _ => hb.1.elim)
  · exact OwnL.kept hk (fun k hk' => keep k (OwnL.lt hk k hk').2 (by have := (OwnL.lt hk k hk').1; omega)) (fun b hb _ => hb.1.elim)
  · exact OwnL.kept h.o (fun k hk => keep k (OwnL.lt h.o k hk).2 (by have := (OwnL.lt h.o k hk).1; omega)) (fun b hb _ => hb.1.elim)
  · exact (Below.refl B W).grown hg3 (Nat.le_trans (by omega) h.sz) (fun k e => by injection e with e; omega)
end
theorem atoi2 {a b : UInt8} (ha : isDig a = true) (hb : isDig b = true) {s : ByteArray} (hs : s.data.toList = [a, b]) : Lib.atoi s.data.toList = some (numOf a b : Int) := by
  simp only [isDig, Bool.and_eq_true, decide_eq_true_eq] at ha hb
  have h45 : (a == 45) = false := by rw [beq_eq_false_iff_ne]; intro e; rw [e] at ha; simp at ha
  have h43 : (a == 43) = false := by rw [beq_eq_false_iff_ne]; intro e; rw [e] at ha; simp at ha
  rw [hs, Lib.atoi, h45, h43]
  simp only [Bool.false_eq_true, if_false, Lib.decNat, List.isEmpty_cons, Lib.decFrom, Lib.digitVal, if_pos ha, if_pos hb, Option.map_some]
  unfold numOf
  congr 2; omega
theorem digit_any (b : UInt8) (w : World) : Calls Tryz.prog 83 #[.int .u8 b.toNat] w fun e w' => e = .returned (.bool (isDig b)) ∧ w = w' := by
  have h := b.toNat_lt
  have hd : isDig b = (decide ((48 : Int) ≤ (b.toNat : Int)) && decide ((b.toNat : Int) ≤ 57)) := by
    unfold isDig; rw [Bool.eq_iff_iff]; simp only [Bool.and_eq_true, decide_eq_true_eq]; omega
  rw [hd]
  go_enter Tryz.func83, Tryz.ntmps83
  go_wp2
  all_goals go_ret
  all_goals exact ⟨ret_bool (by simp; omega), rfl⟩
def untI (G : Int) (t : ByteArray) (w : World) (vO iV : Value) (wr : World) : Prop :=
  ∃ (k : Nat) (st : List (Option Nat)) (p : List Stp) (w0 : Option Nat), iV = .int .i64 k ∧ k ≤ t.size ∧ Jo G st p w0 (t.data.toList.take k) ∧ untR G (t.data.toList.drop k) st p w0 = untR G t.data.toList [] [] none ∧ Um w.heap.size wr p p (dnW st w0) (opOf st) vO ∧ Below w.heap.size w wr
def untC (G : Int) (t : ByteArray) (w : World) (k : Nat) (vO : Value) (wr : World) : Prop :=
  ∃ (st : List (Option Nat)) (p : List Stp) (kk : Nat), Jc G st p kk k (t.data.toList.take (k + 3)) ∧ untR G (t.data.toList.drop (k + 3)) (closeP st p kk).1 (closeP st p kk).2.1 (closeP st p kk).2.2 = untR G t.data.toList [] [] none ∧ Um w.heap.size wr p p (dnOf st ++ [(kk : Int)]) (opOf st) vO ∧ Below w.heap.size w wr
def lenV (v : Value) : Nat := match v with | .slice _ n _ => n | _ => 0
theorem um_start (w : World) : Um w.heap.size ((((w.alloc (.cells #[.slice none 0 0] 25)).alloc (.map #[] 0)).alloc (.cells #[.map (some (w.heap.size + 1))] 100)).alloc (.cells #[.slice none 0 0] 33)) [] [] [] [] (.slice none 0 0) := by
  have h1 := Boxed.new w 25 (.slice none 0 0)
  have h2 := VMap.made KSt (w.alloc (.cells #[.slice none 0 0] 25))
  have h3 := Boxed.new ((w.alloc (.cells #[.slice none 0 0] 25)).alloc (.map #[] 0)) 100 (.map (some (w.heap.size + 1)))
  have h4 := Boxed.new (((w.alloc (.cells #[.slice none 0 0] 25)).alloc (.map #[] 0)).alloc (.cells #[.map (some (w.heap.size + 1))] 100)) 33 (.slice none 0 0)
  have hm := h2.same (w' := (((w.alloc (.cells #[.slice none 0 0] 25)).alloc (.map #[] 0)).alloc (.cells #[.map (some (w.heap.size + 1))] 100)).alloc (.cells #[.slice none 0 0] 33)) ((below2 _ _ _).block _ (by simp))
  have he : atF [] = fun _ => none := by funext x; unfold atF; simp
  simp only [World.size_alloc] at h2 h3 h4 hm
  refine ⟨⟨_, ((h1.alloc _).alloc _).alloc _, .nil _ _ _ _ _⟩, by rw [he]; exact hm, h3.alloc _, ⟨_, h4, .nil _ _ _ _ _, fun k hk => by simp [Value.ownBlock] at hk⟩, .nil _ _ _ _ _, by simp⟩
theorem below4 (w : World) (o1 o2 o3 o4 : Obj) : Below w.heap.size w ((((w.alloc o1).alloc o2).alloc o3).alloc o4) := bcall (below3 w o1 o2 o3) (below1 _ o4)
theorem drop_cons {t : ByteArray} {k : Nat} (h : k < t.size) : t.data.toList.drop k = t[k] :: t.data.toList.drop (k + 1) := by
  rw [List.drop_eq_getElem_cons (by simpa using h)]; rfl
theorem take_cons {t : ByteArray} {k : Nat} (h : k < t.size) : t.data.toList.take (k + 1) = t.data.toList.take k ++ [t[k]] := by
  rw [List.take_succ_eq_append_getElem (by simpa using h)]; rfl
theorem u8_int_eq {b : UInt8} {n : Nat} (hn : n < 256) : ((b.toNat : Int) == (n : Int)) = decide (b = UInt8.ofNat n) := by
  rw [Bool.eq_iff_iff]
  simp only [beq_iff_eq, decide_eq_true_eq]
  constructor
  · intro h; have : b.toNat = n := by omega
    rw [← this]; simp
  · intro h; rw [h, UInt8.toNat_ofNat_of_lt' hn]
theorem extract2 {t : ByteArray} {k : Nat} (h : k + 3 ≤ t.size) : (t.extract (k + 1) (k + 3)).data.toList = [t[k + 1], t[k + 2]] ∧ (t.extract (k + 1) (k + 3)).size ≤ 18 := by
  have hs : (t.extract (k + 1) (k + 3)).size = 2 := by rw [ByteArray.size_extract]; omega
  refine ⟨?_, by omega⟩
  apply List.ext_getElem
  · rw [Array.length_toList]; exact hs
  · intro i h1 h2
    have hi : i < (t.extract (k + 1) (k + 3)).size := by rw [Array.length_toList] at h1; exact h1
    have e : (t.extract (k + 1) (k + 3)).data.toList[i] = (t.extract (k + 1) (k + 3))[i] := rfl
    rw [e, ByteArray.getElem_extract]
    match i, hi with
    | 0, _ => rfl
    | 1, _ => rfl
    | n + 2, hi => omega
theorem bcall' {B : Nat} {w w1 w2 w3 : World} (h1 : Below B w w1) (h2 : Below w1.heap.size w1 w2) (h3 : Below B w2 w3) (hB : B ≤ w1.heap.size) : Below B w w3 := h1.trans ((h2.mono hB).trans h3)
theorem take_size_le (t : ByteArray) (k : Nat) : (t.data.toList.take k).length ≤ t.size := by
  rw [List.length_take, Array.length_toList]; exact Nat.min_le_right _ _
theorem numOf_le {a b : UInt8} (ha : isDig a = true) (hb : isDig b = true) : numOf a b < 100 := by
  simp only [isDig, Bool.and_eq_true, decide_eq_true_eq] at ha hb
  unfold numOf; omega
set_option maxRecDepth 100000 in
set_option maxHeartbeats 8000000 in
theorem Untree_any (G : Int) (t : ByteArray) (w : World) :
    Calls Tryz.prog 34 #[.int .i64 G, .string t] w (retStE (untE G t) w) := by
  have v1 := kwithin_any G 0 60 w
  by_cases hG : 0 ≤ G ∧ G ≤ 60
  case neg =>
    have hx : (decide (0 ≤ G) && decide (G ≤ 60)) = false := by rw [Bool.eq_false_iff]; simpa using hG
    rw [hx] at v1
    have hrH := Lib.hid (show untE G t = ([], 1) by unfold untE; rw [if_neg hG])
    have v1H := Lib.hid v1
    clear v1 hx hG
    go_enter Tryz.func34, Tryz.ntmps34
    go_wp2_with fail
    refine v1H.out.mono ?_
    rintro e w1 ⟨rfl, rfl⟩
    go_wp2_with fail
    go_ret2
    rw [hrH.out]
    exact ⟨_, rfl, .nil _ _ _ _ _, .refl _ _⟩
  have hx : (decide (0 ≤ G) && decide (G ≤ 60)) = true := by simpa using hG
  rw [hx] at v1
  have v1H := Lib.hid v1
  clear v1 hx
  by_cases hs : t.size ≤ 65536
  case neg =>
    have hs' : (65536 : Int) < (t.size : Int) := by omega
    have hrH := Lib.hid (show untE G t = ([], 3) by unfold untE; rw [if_pos hG, if_neg hs])
    clear hs
    go_enter Tryz.func34, Tryz.ntmps34
    go_wp2_with fail
    refine v1H.out.mono ?_
    rintro e w1 ⟨rfl, rfl⟩
    go_wp2_with fail
    go_ret2
    rw [hrH.out]
    exact ⟨_, rfl, .nil _ _ _ _ _, .refl _ _⟩
  have hs' : ¬ (65536 : Int) < (t.size : Int) := by omega
  have hr : untE G t = untR G t.data.toList [] [] none := by unfold untE; rw [if_pos hG, if_pos hs]
  have hrH := Lib.hid hr
  have hGH := Lib.hid hG
  have hmm := @run_makeMap Tryz.prog
  clear hr hG
  go_enter Tryz.func34, Tryz.ntmps34
  go_wp2_with fail
  refine v1H.out.mono ?_
  rintro e w1 ⟨rfl, rfl⟩
  go_wp2_with fail
  go_loopw [9, 11] (fun vO iV wr => untI G t w vO iV wr) (fun _ iV _ => t.size - (intOf iV).toNat)
  case atStart => exact ⟨0, [], [], none, rfl, Nat.zero_le _, by rw [List.take_zero]; exact .start G, by rw [List.drop_zero], um_start w, below4 w _ _ _ _⟩
  case round =>
    obtain ⟨k, st, p, w0, rfl, hk, hJ, hR, hU, hB⟩ := hrel
    have holen := opOf_len st
    obtain ⟨aO, cO, hvO, hIO⟩ := OwnI.ints hU.o
    rw [holen] at hvO
    subst hvO
    have hst60 : st.length ≤ 65536 := by have := hJ.cnt; rw [List.length_take] at this; omega
    have hp60 : p.length ≤ 65536 := by have := hJ.cnt; rw [List.length_take] at this; omega
    have hcap := hIO.cap
    clear hIO
    by_cases hlt : k < t.size
    · have hd := drop_cons hlt
      have htk := take_cons hlt
      cases w0 with
      | some kk =>
        obtain ⟨rfl, -, hc⟩ := hJ.whole kk rfl
        have hk0 : 0 < k := by
          have h1 := congrArg List.length hc
          have h2 := Tr.text_len ((trees p).getD kk (.g 0))
          rw [List.length_take] at h1; omega
        rw [hd, untR_over] at hR
        have hrr := hrH.out
        rw [← hR] at hrr
        have hrrH := Lib.hid hrr
        have hBH := Lib.hid hB
        have hk1 : (0 : Int) < (k : Int) := by omega
        clear hR hU hJ hB hc hrr hd htk
        --{
        go_wp2_with fail
        all_goals go_ret2
        all_goals rw [hrrH.out]
        all_goals exact ⟨_, rfl, .nil _ _ _ _ _, hBH.out⟩
        --}
      | none =>
        have hg : (¬ (0 : Int) < (k : Int)) ∨ ((0 : Int) < (k : Int) ∧ ((st.length : Int) == 0) = false) := by
          by_cases h0 : k = 0
          · left; omega
          · right
            refine ⟨by omega, ?_⟩
            have hc := congrArg List.length (hJ.open_ rfl)
            rw [List.length_take] at hc
            cases st with
            | nil => simp only [rend, List.length_nil, Array.length_toList] at hc; have : t.size = t.data.size := rfl; omega
            | cons o st => simp; omega
        by_cases h68 : t[k] = 68
        · have h68b : (((t[k]'hlt).toNat : Int) == 68) = true := by rw [h68]; rfl
          rw [h68] at hd htk
          rw [hd, untR_D] at hR
          have hJ1 := hJ.d
          rw [← htk] at hJ1
          obtain ⟨v', W', r1, r2, r3⟩ := hU.pushO 2 (by unfold inRange; omega) (by rw [holen]; omega)
          have rrun := r1.out
          have hrel : untI G t w v' (.int .i64 ((k + 1 : Nat) : Int)) W' := ⟨k + 1, none :: st, p, none, rfl, by omega, hJ1, hR, r2.out, hB.trans r3.out⟩
          have hrelH := Lib.hid hrel
          clear hR hU hJ hB hd htk hJ1 r1 r2 r3 hrel h68
          --{
          rcases hg with hg | ⟨hg1, hg2⟩
          all_goals go_wp2_with (at_builtin; refine wpList_append_run rfl _ _ _ rfl rfl rfl rrun ?_)
          all_goals go_roundw
          all_goals first | exact hrelH.out | (simp [intOf]; omega)
          --}
        · have h68b : (((t[k]'hlt).toNat : Int) == 68) = false := by
            rw [beq_eq_false_iff_ne]; intro e; exact h68 (UInt8.toNat_inj.1 (by show t[k].toNat = 68; omega))
          by_cases h103 : t[k] = 103
          case neg =>
            have h103b : (((t[k]'hlt).toNat : Int) != 103) = true := by
              simp only [bne_iff_ne, ne_eq]; intro e; exact h103 (UInt8.toNat_inj.1 (by show t[k].toNat = 103; omega))
            rw [hd, untR_no _ _ _ _ _ h68 h103] at hR
            have hrr := hrH.out
            rw [← hR] at hrr
            have hrrH := Lib.hid hrr
            have hBH := Lib.hid hB
            clear hR hU hJ hB hrr hd htk h103 h68
            --{
            rcases hg with hg | ⟨hg1, hg2⟩
            all_goals go_wp2_with fail
            all_goals go_ret2
            all_goals rw [hrrH.out]
            all_goals exact ⟨_, rfl, .nil _ _ _ _ _, hBH.out⟩
            --}
          have h103b : (((t[k]'hlt).toNat : Int) != 103) = false := by rw [h103]; rfl
          rw [h103] at hd htk
          have e1 : IntKind.i64.wrap ((k : Int) + 1) = ((k + 1 : Nat) : Int) := by rw [IntWalk.i64_in _ (by omega)]; omega
          have e2 : IntKind.i64.wrap ((k : Int) + 2) = ((k + 2 : Nat) : Int) := by rw [IntWalk.i64_in _ (by omega)]; omega
          have e3 : IntKind.i64.wrap ((k : Int) + 3) = ((k + 3 : Nat) : Int) := by rw [IntWalk.i64_in _ (by omega)]; omega
          by_cases h3 : k + 3 ≤ t.size
          case neg =>
            have h3b : (t.size : Int) < ((k + 3 : Nat) : Int) := by omega
            have hres : untR G (t.data.toList.drop k) st p none = ([], 2) := by
              rw [hd]
              have hl : (t.data.toList.drop (k + 1)).length ≤ 1 := by rw [List.length_drop, Array.length_toList]; have : t.size = t.data.size := rfl; omega
              match hm : t.data.toList.drop (k + 1), hl with
              | [], _ => rw [untR_g0]
              | [a], _ => rw [untR_g1]
            rw [hres] at hR
            have hrr := hrH.out
            rw [← hR] at hrr
            have hrrH := Lib.hid hrr
            have hBH := Lib.hid hB
            clear hR hU hJ hB hrr hd htk h103 h68 hres
            --{
            rcases hg with hg | ⟨hg1, hg2⟩
            all_goals go_wp2_with fail
            all_goals go_ret2
            all_goals rw [hrrH.out]
            all_goals exact ⟨_, rfl, .nil _ _ _ _ _, hBH.out⟩
            --}
          have h4 : k + 1 < t.size := by omega
          have h5 : k + 2 < t.size := by omega
          have hd3 : t.data.toList.drop k = 103 :: t[k + 1] :: t[k + 2] :: t.data.toList.drop (k + 3) := by rw [hd, drop_cons h4, drop_cons h5]
          have ht3 : t.data.toList.take (k + 3) = t.data.toList.take k ++ [103, t[k + 1], t[k + 2]] := by
            rw [take_cons h5, take_cons h4, htk]; simp
          have h3b : ¬ (t.size : Int) < ((k + 3 : Nat) : Int) := by omega
          have cd1 := fun W => digit_any t[k + 1] W
          have cd2 := fun W => digit_any t[k + 2] W
          rw [hd3, untR_g] at hR
          have hend : ([], (2 : Int)) = untR G t.data.toList [] [] none → untE G t = ([], 2) := fun h => by rw [hrH.out, ← h]
          have hBH := Lib.hid hB
          cases hx1 : isDig t[k + 1] with
          | false =>
            rw [if_neg (by rw [hx1]; simp)] at hR
            rw [hx1] at cd1
            have hrrH := Lib.hid (hend hR)
            have cd1H := Lib.hid cd1
            clear hR hU hJ hB hd htk h103 h68 hd3 ht3 cd1 cd2 hend hx1
            --{
            rcases hg with hg | ⟨hg1, hg2⟩
            all_goals go_wp2_with fail
            all_goals refine (cd1H.out _).mono ?_
            all_goals rintro e w1 ⟨rfl, rfl⟩
            all_goals go_wp2_with fail
            all_goals go_ret2
            all_goals rw [hrrH.out]
            all_goals exact ⟨_, rfl, .nil _ _ _ _ _, hBH.out⟩
            --}
          | true =>
            rw [hx1] at cd1
            cases hx2 : isDig t[k + 2] with
            | false =>
              rw [if_neg (by rw [hx2]; simp)] at hR
              rw [hx2] at cd2
              have hrrH := Lib.hid (hend hR)
              have cd1H := Lib.hid cd1
              have cd2H := Lib.hid cd2
              clear hR hU hJ hB hd htk h103 h68 hd3 ht3 cd1 cd2 hend hx1 hx2
              --{
              rcases hg with hg | ⟨hg1, hg2⟩
              all_goals go_wp2_with fail
              all_goals refine (cd1H.out _).mono ?_
              all_goals rintro e w1 ⟨rfl, rfl⟩
              all_goals go_wp2_with fail
              all_goals refine (cd2H.out _).mono ?_
              all_goals rintro e w1 ⟨rfl, rfl⟩
              all_goals go_wp2_with fail
              all_goals go_ret2
              all_goals rw [hrrH.out]
              all_goals exact ⟨_, rfl, .nil _ _ _ _ _, hBH.out⟩
              --}
            | true =>
              rw [hx2] at cd2
              obtain ⟨hse, hss⟩ := extract2 h3
              have ca := fun W => Atoi_any (t.extract (k + 1) (k + 3)) (numOf t[k + 1] t[k + 2] : Int) (by omega) (atoi2 hx1 hx2 hse) W
              have hn := numOf_le hx1 hx2
              by_cases hnG : (numOf t[k + 1] t[k + 2] : Int) < G
              case neg =>
                rw [if_neg (fun h => hnG h.2.2)] at hR
                have hrrH := Lib.hid (hend hR)
                have cd1H := Lib.hid cd1
                have cd2H := Lib.hid cd2
                have caH := Lib.hid ca
                have hnGb : (G ≤ (numOf t[k + 1] t[k + 2] : Int)) := by omega
                obtain ⟨N, hN⟩ : ∃ N, numOf t[k + 1] t[k + 2] = N := ⟨_, rfl⟩
                rw [hN] at caH hnGb
                clear hR hU hJ hB hd htk h103 h68 hd3 ht3 cd1 cd2 hend hx1 hx2 hN hnG ca hse
                --{
                rcases hg with hg | ⟨hg1, hg2⟩
                all_goals go_wp2_with fail
                all_goals refine (cd1H.out _).mono ?_
                all_goals rintro e w1 ⟨rfl, rfl⟩
                all_goals go_wp2_with fail
                all_goals refine (cd2H.out _).mono ?_
                all_goals rintro e w1 ⟨rfl, rfl⟩
                all_goals go_wp2_with fail
                all_goals refine (caH.out _).mono ?_
                all_goals rintro e w1 ⟨rfl, hb1⟩
                all_goals go_wp2_with fail
                all_goals go_ret2
                all_goals rw [hrrH.out]
                all_goals exact ⟨_, rfl, .nil _ _ _ _ _, bcall hBH.out hb1⟩
                --}
              rw [if_pos ⟨hx1, hx2, hnG⟩] at hR
              have hJg := hJ.g hx1 hx2 hnG
              rw [← ht3, List.length_take, Array.length_toList, Nat.min_eq_left (show k ≤ t.data.size from hk)] at hJg
              have hrt : stpR (1, (numOf t[k + 1] t[k + 2] : Int), 0) := ⟨(show inRange (1 : Int) by unfold inRange; omega), (show inRange (numOf t[k + 1] t[k + 2] : Int) by unfold inRange; omega), (show inRange (0 : Int) by unfold inRange; omega)⟩
              have cadd := fun W (hb : Below wr.heap.size wr W) => untadd_any (1, (numOf t[k + 1] t[k + 2] : Int), 0) W (hU.below hb) hrt (by omega) (by have := dnOf_len st; show (dnOf st).length ≤ 100000; omega)
              obtain ⟨N, hN⟩ : ∃ N, numOf t[k + 1] t[k + 2] = N := ⟨_, rfl⟩
              rw [hN] at ca hn hnG hR hJg cadd
              have hnGb : ¬ (G ≤ (N : Int)) := by omega
              have cd1H := Lib.hid cd1
              have cd2H := Lib.hid cd2
              have caH := Lib.hid ca
              have hJgH := Lib.hid hJg
              have hRH := Lib.hid hR
              have caddH := Lib.hid cadd
              clear hR hU hJ hB hd htk h103 h68 hd3 ht3 cd1 cd2 hend hx1 hx2 hN hnG ca hse hJg cadd
              rcases hg with hg | ⟨hg1, hg2⟩
              all_goals go_wp2_with fail
              all_goals refine (cd1H.out _).mono ?_
              all_goals rintro e w1 ⟨rfl, rfl⟩
              all_goals go_wp2_with fail
              all_goals refine (cd2H.out _).mono ?_
              all_goals rintro e w1 ⟨rfl, rfl⟩
              all_goals go_wp2_with fail
              all_goals refine (caH.out _).mono ?_
              all_goals rintro e w1 ⟨rfl, hb1⟩
              all_goals go_wp2_with fail
              all_goals refine (caddH.out w1 hb1).mono ?_
              all_goals rintro e w2 ⟨rfl, hU2, hb2⟩
              all_goals
                have hC0 : untC G t w k (.slice aO st.length cO) w2 := ⟨st, _, _, hJgH.out, hRH.out, hU2, bcall' hBH.out hb1 hb2 (by have := hb1.size; have := hBH.out.size; omega)⟩
                have hC0H := Lib.hid hC0
                clear hC0 hU2 hb1 hb2
                go_wp2_with fail
              all_goals
                go_loopw [9] (fun vO wr => untC G t w k vO wr) (fun vO _ => lenV vO)
                case atStart => exact hC0H.out
                case round =>
                  clear hC0H
                  obtain ⟨st, p, kk, hJ, hR, hU, hB⟩ := hrel
                  have hst60 : p.length + st.length ≤ 65536 := Nat.le_trans hJ.cnt (Nat.le_trans (take_size_le t (k + 3)) hs)
                  cases st with
                  | nil =>
                    obtain ⟨a1, c1, hv, -⟩ := OwnI.ints hU.o
                    rw [opOf_len] at hv
                    subst hv
                    have hrel : untI G t w (.slice a1 0 c1) (.int .i64 ((k + 3 : Nat) : Int)) wr := ⟨k + 3, [], p, some kk, rfl, by omega, hJ.done, hR, hU, hB⟩
                    have hrelH := Lib.hid hrel
                    clear hrel hU hB hJ hR
                    simp only [List.length_nil]
                    go_wp2_with fail
                    all_goals go_roundw
                    all_goals first | exact hrelH.out | (simp [intOf]; omega)
                  | cons o st =>
                    rw [List.length_cons] at hst60
                    have hL := opOf_len st
                    have eL : IntKind.i64.wrap (((st.length + 1 : Nat) : Int) - 1) = ((st.length : Nat) : Int) := by rw [IntWalk.i64_in _ (by omega)]; omega
                    cases o with
                    | none =>
                      obtain ⟨g, cap, hv, hcp, d1, d2, d3, d4, d5⟩ := Um.setO (l := opOf st) (x0 := 2) hU 1 (by unfold inRange; omega)
                      rw [hL] at hv d1 d2 d3 d4 d5 hcp
                      subst hv
                      have c1 := d1.out
                      have c2 := d2.out
                      have c3 := d5.out
                      have hrel : untI G t w (.slice (some ⟨g, 0, none⟩) (st.length + 1) cap) (.int .i64 ((k + 3 : Nat) : Int)) (wr.setCell ⟨g, st.length, none⟩ (.int .i64 1)) := ⟨k + 3, some kk :: st, p, none, rfl, by omega, hJ.wait, hR, d3.out, hB.trans d4.out⟩
                      have hrelH := Lib.hid hrel
                      clear hrel hU hB hJ hR d1 d2 d3 d4 d5 hL
                      go_wp2_with fail
                      all_goals go_roundw
                      all_goals first | exact hrelH.out | (simp [intOf]; omega)
                    | some m =>
                      have hm := hJ.stl m (by simp)
                      have hkk := hJ.kl
                      obtain ⟨g, cap, hv, hcp, d1, d2, d3, d4, d5⟩ := Um.setO (l := opOf st) (x0 := 1) hU 0 (by unfold inRange; omega)
                      rw [hL] at hv d1 d2 d3 d4 d5 hcp
                      subst hv
                      have c1 := d1.out
                      have c2 := d2.out
                      have c3 := d5.out
                      have hUt := Um.takeO (x0 := 0) d3.out (by rw [hL])
                      rw [hL] at hUt
                      obtain ⟨W2, hW2⟩ : ∃ W, wr.setCell ⟨g, st.length, none⟩ (.int .i64 0) = W := ⟨_, rfl⟩
                      rw [hW2] at hUt c3 d4
                      have hD := dnOf_len st
                      obtain ⟨gD, cD, hcD, f1, f2, f3, f4, f5, f6⟩ := Um.takeD (l := dnOf st) (x0 := (m : Int)) (x1 := (kk : Int)) hUt
                      obtain ⟨M, hM⟩ : ∃ M, (dnOf st).length = M := ⟨_, rfl⟩
                      rw [hM] at hcD f1 f3 f4 f5 f6 hD
                      have q1 := f1.out
                      have q2 := f2.out
                      have q3 := f3.out
                      have q4 := f4.out
                      have eM1 : IntKind.i64.wrap (((M + 1 + 1 : Nat) : Int) - 2) = ((M : Nat) : Int) := by rw [IntWalk.i64_in _ (by omega)]; omega
                      have eM2 : IntKind.i64.wrap (((M + 1 + 1 : Nat) : Int) - 1) = ((M + 1 : Nat) : Int) := by rw [IntWalk.i64_in _ (by omega)]; omega
                      have hJc := hJ.close
                      have cadd := fun W (hb : Below (W2.setCell ⟨w.heap.size + 3, 0, none⟩ (.slice (some ⟨gD, 0, none⟩) M cD)).heap.size (W2.setCell ⟨w.heap.size + 3, 0, none⟩ (.slice (some ⟨gD, 0, none⟩) M cD)) W) => untadd_any (2, (m : Int), (kk : Int)) W (f5.out.below hb) ⟨(show inRange (2 : Int) by unfold inRange; omega), (show inRange (m : Int) by unfold inRange; omega), (show inRange (kk : Int) by unfold inRange; omega)⟩ (by omega) (by omega)
                      have hB2 := hB.trans (d4.out.trans f6.out)
                      have hJH := Lib.hid hJc
                      have hRH := Lib.hid hR
                      have caddH := Lib.hid cadd
                      have hB2H := Lib.hid hB2
                      clear hU hB hJ hR d1 d2 d3 d4 d5 hL f1 f2 f3 f4 f5 f6 hUt hJc cadd hB2 hM
                      go_wp2_with fail
                      try rw [hW2]
                      go_quiet (fail)
                      go_wp2_with fail
                      refine (caddH.out _ (below_drewN (Below.refl _ _) nq)).mono ?_
                      rintro e w4 ⟨rfl, hU4, hb4⟩
                      have hrel : untC G t w k (.slice (some ⟨g, 0, none⟩) st.length cap) w4 := ⟨st, _, _, hJH.out, hRH.out, hU4, (below_drewN hB2H.out nq).trans hb4⟩
                      have hrelH := Lib.hid hrel
                      clear hrel hU4 hb4
                      go_wp2_with fail
                      all_goals go_roundw
                      all_goals first | exact hrelH.out | (simp only [lenV]; omega)
    · clear hcap
      obtain rfl : k = t.size := by omega
      rw [List.drop_of_length_le (by rw [Array.length_toList]; exact Nat.le_refl _)] at hR
      cases w0 with
      | none =>
        rw [untR_short] at hR
        have hrr := hrH.out
        rw [← hR] at hrr
        have hrrH := Lib.hid hrr
        have hBH := Lib.hid hB
        obtain ⟨vD, hbD, hoD, -⟩ := hU.d
        have cD := hbD.cell
        obtain ⟨aD, cD', hvD, -⟩ := OwnI.ints hoD
        subst hvD
        have hcase : (0 : Int) < (st.length : Int) ∨ (¬ (0 : Int) < (st.length : Int) ∧ (((dnW st none).length : Int) != 1) = true) := by
          cases st with
          | nil => right; exact ⟨by simp, rfl⟩
          | cons o st => left; simp
        clear hR hU hJ hB hrr hbD hoD holen hst60
        generalize st.length = n at *
        generalize (dnW st none).length = m at *
        rcases hcase with hg | ⟨hg1, hg2⟩
        all_goals go_wp2_with fail
        all_goals go_ret2
        all_goals rw [hrrH.out]
        all_goals exact ⟨_, rfl, .nil _ _ _ _ _, hBH.out⟩
      | some kk =>
        obtain ⟨rfl, -, -⟩ := hJ.whole kk rfl
        rw [untR_end] at hR
        have hBH := Lib.hid hB
        obtain ⟨vD, hbD, hoD, -⟩ := hU.d
        have cD := hbD.cell
        obtain ⟨aD, cD', hvD, -⟩ := OwnI.ints hoD
        subst hvD
        have hg1 : ¬ (0 : Int) < ((([] : List (Option Nat)).length : Nat) : Int) := by simp
        have hg2 : (((dnW [] (some kk)).length : Int) != 1) = false := rfl
        obtain ⟨vP, hbP, hoP⟩ := hU.p
        have cP := hbP.cell
        obtain ⟨aP, cP', hvP, -⟩ := OwnL.sl hoP
        subst hvP
        have hoH := Lib.hid (OwnL.baseMono (base' := w.heap.size) hoP (by omega))
        have hrr := hrH.out
        rw [← hR] at hrr
        by_cases h60 : p.length ≤ 60
        · rw [if_pos h60] at hrr
          have hrrH := Lib.hid hrr
          have h60b : ¬ (60 : Int) < (p.length : Int) := by omega
          clear hR hU hJ hB hrr hbD hoD hbP hoP h60
          go_wp2_with fail
          all_goals go_ret2
          all_goals rw [hrrH.out]
          all_goals exact ⟨_, rfl, hoH.out, hBH.out⟩
        · rw [if_neg h60] at hrr
          have hrrH := Lib.hid hrr
          have h60b : (60 : Int) < (p.length : Int) := by omega
          clear hR hU hJ hB hrr hbD hoD hbP hoP h60
          go_wp2_with fail
          all_goals go_ret2
          all_goals rw [hrrH.out]
          all_goals exact ⟨_, rfl, .nil _ _ _ _ _, hBH.out⟩
end Go.Proofs.YtgkddhakhapjlaaGreatDoor

/- Walks of package kernel: halves, Detach, Detaches. -/
namespace Go.Proofs.YtgkddhakhapjlaaGreatDoor
open Go Go.RowKit Go.Maps

def halvesRet (w : World) (A B : List Int) (e : Ending) (w' : World) : Prop :=
  ∃ a4 c4 a5 c5, e = .returned (.tuple #[.slice a4 A.length c4, .slice a5 B.length c5, .bool true]) ∧ Ints (fun _ => True) w' a4 c4 A ∧ Ints (fun _ => True) w' a5 c5 B ∧ Below w.heap.size w w'
set_option maxHeartbeats 1000000 in
theorem halves_yes {S1 S2 : Nat → Prop} (a1 a2 : Option Addr) (c1 c2 : Nat) (s : Sg) (m A B : List Int) (w : World) (h1 : Sign S1 w a1 c1 s) (h2 : Ints S2 w a2 c2 m) (hm : okT s m = true) (hL : argsT s m = [A, B]) (h0 : m.headD 0 = 0) :
    Calls Tryz.prog 64 #[.slice a1 s.length c1, .slice a2 m.length c2] w (halvesRet w A B) := by
  have m2 := h2.le
  have lm := (okT_parts hm).2.1
  obtain ⟨b, o, rfl, -, q, -⟩ := h2.int 0 (by omega)
  have hg : m[0] = m.headD 0 := by cases m with | nil => simp at lm | cons _ _ => rfl
  rw [hg, h0, Nat.add_zero] at q
  have ca := Args_any a1 (some ⟨b, o, none⟩) c1 c2 s m w h1 h2
  rw [argsE_ok hm, hL] at ca
  have caH := Lib.hid ca
  clear ca h1 h2 hm hL h0 hg
  go_enter Tryz.func64, Tryz.ntmps64
  go_wp2_with fail
  refine caH.out.mono ?_
  rintro e w1 ⟨v, rfl, ho, hb⟩
  obtain ⟨a, c, rfl, hT⟩ := ho.sl
  obtain ⟨b1, o1, a4, c4, rfl, -, q1, hA⟩ := hT.sub 0 (by simp)
  obtain ⟨b2, o2, a5, c5, he, -, q2, hB⟩ := hT.sub 1 (by simp)
  simp only [Option.some.injEq, Addr.mk.injEq, and_true] at he
  obtain ⟨rfl, rfl⟩ := he
  simp only [List.getElem_cons_zero, List.getElem_cons_succ] at q1 q2 hA hB
  rw [Nat.add_zero] at q1
  have hAH := Lib.hid hA.any
  have hBH := Lib.hid hB.any
  clear ho hT hA hB caH q
  go_wp2_with fail
  go_quiet (fail)
  all_goals go_wp2_with fail
  go_ret3
  exact ⟨_, _, _, _, rfl, hAH.out.drewN _, hBH.out.drewN _, below_drewN hb _⟩
set_option maxHeartbeats 1000000 in
theorem halves_no {S2 : Nat → Prop} (v : Value) (a2 : Option Addr) (c2 : Nat) (m : List Int) (w : World) (h2 : Ints S2 w a2 c2 m) (lm : 1 ≤ m.length) (h0 : m.headD 0 ≠ 0) :
    Calls Tryz.prog 64 #[v, .slice a2 m.length c2] w fun e w' => e = .returned (.tuple #[.slice none 0 0, .slice none 0 0, .bool false]) ∧ w = w' := by
  have m2 := h2.le
  obtain ⟨b, o, rfl, -, q, -⟩ := h2.int 0 (by omega)
  have hg : m[0] = m.headD 0 := by cases m with | nil => simp at lm | cons _ _ => rfl
  rw [hg, Nat.add_zero] at q
  have hne : (m.headD 0 != 0) = true := by simpa using h0
  obtain ⟨x, hx⟩ : ∃ x, m.headD 0 = x := ⟨_, rfl⟩
  rw [hx] at q hne
  clear h2 hg h0 hx
  go_enter Tryz.func64, Tryz.ntmps64
  go_wp2_with fail
  go_ret3
  exact ⟨rfl, rfl⟩
set_option maxHeartbeats 2000000 in
theorem Detached_any {S1 S2 S3 S4 : Nat → Prop} (a1 a2 a3 a4 : Option Addr) (c1 c2 c3 c4 : Nat) (s : Sg) (a t b : List Int) (w : World) (h1 : Sign S1 w a1 c1 s) (h2 : Ints S2 w a2 c2 a) (h3 : Ints S3 w a3 c3 t) (h4 : Ints S4 w a4 c4 b) (ha : okT s a = true) (hb : okT s b = true) :
    Calls Tryz.prog 65 #[.slice a1 s.length c1, .slice a2 a.length c2, .slice a3 t.length c3, .slice a4 b.length c4] w (retE (uniE s a (apartT b) t) w) := by
  have m2 := h2.le
  have m3 := h3.le
  have m4 := h4.le
  have v4 := apart_any a4 c4 b w h4 (by have := (okT_parts hb).2.2.1; unfold lim; omega) (okT_ne hb) (okT_rg hb)
  have v3 := fun W (hbl : Below w.heap.size w W) T a5 c5 (hi : Ints T W a5 c5 (apartT b)) => solved_any a1 a2 a5 c1 c2 c5 s a (apartT b) W (h1.below hbl) (h2.below hbl) hi (okT_parts ha).1 (okT_w1 ha) (apartT_w (okT_w1 hb)) (okT_Rg ha) (apartT_rg hb) (by have := (okT_parts ha).2.2.1; omega) (by rw [apartT_len]; have := (okT_parts hb).2.2.1; omega)
  have v5 : ∀ W, Below w.heap.size w W → T0 W a3 c3 t := fun W hb => (h3.below hb).lt.weak (fun _ h => h.2)
  have hal := apartT_len b
  have v3H := Lib.hid v3
  have v4H := Lib.hid v4
  have v5H := Lib.hid v5
  have halH := Lib.hid hal
  clear v3 v4 v5 h1 h2 h3 h4 hal ha hb
  go_enter Tryz.func65, Tryz.ntmps65
  go_wp2_with fail
  refine v4H.out.mono ?_
  rintro e w3 ⟨v, rfl, ho, hb3⟩
  obtain ⟨a5, c5, rfl, hI⟩ := OwnI.ints ho
  clear ho
  go_wp2_with fail
  refine (v3H.out _ hb3 _ _ _ hI).mono ?_
  rintro e w4 ⟨xb, mb, r, rfl, hb4, hf, ht⟩
  clear hI
  cases r with
  | false =>
    have hmH := Lib.hid (uniE_none (hf rfl) t)
    have hb5 := bcall hb3 hb4
    clear hf ht hb3 hb4
    go_wp2_with fail
    go_ret2
    exact ⟨_, by rw [hmH.out]; rfl, by rw [hmH.out]; exact .nil _ _ _ _ _, hb5⟩
  | true =>
    obtain ⟨B, θ, ρ, n, g1, g2, g3, g4⟩ := ht rfl
    have hmH := Lib.hid (uniE_some g3 t)
    have cm := made_any g4 g1 (v5H.out _ hb3)
    have hb5 := bcall hb3 hb4
    have cmH := Lib.hid cm
    clear hf ht hb3 hb4 cm g1 g2 g3 g4
    go_wp2_with fail
    refine cmH.out.mono ?_
    rintro e w5 ⟨v, rfl, ho, hb6⟩
    have hoH := Lib.hid (OwnL.baseMono (base' := w.heap.size) ho hb5.size)
    clear ho cmH
    go_wp2_with fail
    go_ret2
    exact ⟨_, by rw [hmH.out]; rfl, by rw [hmH.out]; exact hoH.out, bcall hb5 hb6⟩
set_option maxHeartbeats 2000000 in
theorem Detach_any {S1 S2 S3 : Nat → Prop} (a1 a2 a3 : Option Addr) (c1 c2 c3 : Nat) (s : Sg) (m n : List Int) (w : World) (h1 : Sign S1 w a1 c1 s) (h2 : Ints S2 w a2 c2 m) (h3 : Ints S3 w a3 c3 n) :
    Calls Tryz.prog 23 #[.slice a1 s.length c1, .slice a2 m.length c2, .slice a3 n.length c3] w (retE (detE s m n) w) := by
  have m2 := h2.le
  have m3 := h3.le
  have v1 := Valid_any a1 a2 c1 c2 s m w h1 h2
  have v2 := fun W (hb : Below w.heap.size w W) => Valid_any a1 a3 c1 c3 s n W (h1.below hb) (h3.below hb)
  obtain ⟨x, hx⟩ : ∃ x, okT s m = x := ⟨_, rfl⟩
  obtain ⟨y, hy⟩ : ∃ x, okT s n = x := ⟨_, rfl⟩
  rw [hx] at v1
  rw [hy] at v2
  have v1H := Lib.hid v1
  have v2H := Lib.hid v2
  clear v1 v2
  cases x with
  | false =>
    have hmH := Lib.hid (show detE s m n = ([], 1) by unfold detE; rw [if_neg (by rw [hx]; simp)])
    clear hx hy h1 h2 h3
    go_enter Tryz.func23, Tryz.ntmps23
    go_wp2_with (go_at_call 60; refine v1H.out.mono ?_; rintro e w1 ⟨rfl, hb1⟩)
    go_ret2
    exact ⟨_, by rw [hmH.out]; rfl, by rw [hmH.out]; exact .nil _ _ _ _ _, hb1⟩
  | true =>
  cases y with
  | false =>
    have hmH := Lib.hid (show detE s m n = ([], 1) by unfold detE; rw [if_neg (by rw [hy]; simp)])
    clear hx hy h1 h2 h3
    go_enter Tryz.func23, Tryz.ntmps23
    go_wp2_with fail
    refine v1H.out.mono ?_
    rintro e w1 ⟨rfl, hb1⟩
    go_wp2_with fail
    refine (v2H.out _ hb1).mono ?_
    rintro e w2 ⟨rfl, hb2⟩
    go_wp2_with fail
    go_ret2
    exact ⟨_, by rw [hmH.out]; rfl, by rw [hmH.out]; exact .nil _ _ _ _ _, bcall hb1 hb2⟩
  | true =>
    by_cases h0 : m.headD 0 = 0
    · obtain ⟨A, B, e1, e2, oA, oB⟩ := halves hx h0
      have hmH := Lib.hid (detE_at hx hy e2 (okT_w1 oA))
      have ch := fun W (hb : Below w.heap.size w W) => halves_yes a1 a2 c1 c2 s m A B W (h1.below hb) (h2.below hb) hx e1 h0
      have cd := fun W (hb : Below w.heap.size w W) a4 c4 a5 c5 (hA : Ints (fun _ => True) W a4 c4 A) (hB : Ints (fun _ => True) W a5 c5 B) => Detached_any a1 a4 a5 a3 c1 c4 c5 c3 s A B n W (h1.below hb) hA hB (h3.below hb) oA hy
      have chH := Lib.hid ch
      have cdH := Lib.hid cd
      clear ch cd hx hy h1 h2 h3 e1 e2 oA oB h0
      go_enter Tryz.func23, Tryz.ntmps23
      go_wp2_with fail
      refine v1H.out.mono ?_
      rintro e w1 ⟨rfl, hb1⟩
      go_wp2_with fail
      refine (v2H.out _ hb1).mono ?_
      rintro e w2 ⟨rfl, hb2⟩
      have hb2 := bcall hb1 hb2
      clear hb1
      go_wp2_with fail
      refine (chH.out _ hb2).mono ?_
      rintro e w3 ⟨a4, c4, a5, c5, rfl, hA, hB, hb3⟩
      have hb3 := bcall hb2 hb3
      clear hb2
      have cd := cdH.out _ hb3 _ _ _ _ hA hB
      have cdK := Lib.hid cd
      have lA := hA.le
      have lB := hB.le
      clear cd hA hB
      go_wp2_with fail
      refine cdK.out.mono ?_
      rintro e w4 ⟨v, rfl, ho, hb4⟩
      have hoH := Lib.hid (OwnL.baseMono (base' := w.heap.size) ho hb3.size)
      clear ho cdK
      go_wp2_with fail
      go_ret2
      exact ⟨_, by rw [hmH.out]; rfl, by rw [hmH.out]; exact hoH.out, bcall hb3 hb4⟩
    · have hmH := Lib.hid (detE_state hx hy h0)
      have ch := fun W (hb : Below w.heap.size w W) => halves_no (.slice a1 s.length c1) a2 c2 m W (h2.below hb) (okT_parts hx).2.1 h0
      have chH := Lib.hid ch
      clear ch hx hy h1 h2 h3 h0
      go_enter Tryz.func23, Tryz.ntmps23
      go_wp2_with fail
      refine v1H.out.mono ?_
      rintro e w1 ⟨rfl, hb1⟩
      go_wp2_with fail
      refine (v2H.out _ hb1).mono ?_
      rintro e w2 ⟨rfl, hb2⟩
      have hb2 := bcall hb1 hb2
      clear hb1
      go_wp2_with fail
      refine (chH.out _ hb2).mono ?_
      rintro e w3 ⟨rfl, rfl⟩
      go_wp2_with fail
      go_ret2
      exact ⟨_, by rw [hmH.out]; rfl, by rw [hmH.out]; exact .nil _ _ _ _ _, hb2⟩
end Go.Proofs.YtgkddhakhapjlaaGreatDoor

/- A range over a function whose iterator keeps and changes lists of its own. No program is named. -/
namespace Go.Proofs.YtgkddhakhapjlaaGreatDoor
open Go Go.RowKit

/-- what stands whatever blocks of the kind Rw, or that hold no cells, turn from B on -/
def OwnRows {β : Type} (Rw : World → Nat → Obj → Prop) (B : Nat) (I : β → World → Prop) : Prop :=
  ∀ s W W' row, I s W → W.grownBy W' row → (∀ r, row = some r → B ≤ r ∧ ∃ o : Obj, W.heap[r]? = some o ∧ (o.isCells = false ∨ Rw W r o)) → I s W'
theorem OwnRows.from {β : Type} {Rw : World → Nat → Obj → Prop} {B : Nat} {I : β → World → Prop} (h : OwnRows Rw B I) : OwnFrom B I := fun s W W' row hs hg hr =>
  h s W W' row hs hg (fun r e => by obtain ⟨g1, o, g2, g3⟩ := hr r e; exact ⟨g1, o, g2, .inl g3⟩)
/-- what stands whatever the iterator turns: blocks of the kind Rw, or marks of walks over maps, from B on -/
def AbidesRows {β : Type} (Rw : World → Nat → Obj → Prop) (B : Nat) (J : β → World → Prop) : Prop :=
  ∀ s W W' row, J s W → W.grownBy W' row → (∀ r, row = some r → B ≤ r ∧ ∃ o : Obj, W.heap[r]? = some o ∧ (o.isWalk = true ∨ Rw W r o)) → J s W'
theorem OwnRows.and {β : Type} {Rw : World → Nat → Obj → Prop} {B : Nat} {I I' : β → World → Prop} (h : OwnRows Rw B I) (h' : OwnRows Rw B I') : OwnRows Rw B (fun s W => I s W ∧ I' s W) := fun s W W' row hs hg hr => ⟨h s W W' row hs.1 hg hr, h' s W W' row hs.2 hg hr⟩
def SeqRelG {α : Type} (F : Fence) (n : Nat) (P : Program) (g : Nat) (lb : Array Value) (encs : α → Array Value) (R : α → World → Prop) (Kp : World → World → Prop) (Rw : World → Nat → Obj → Prop) (S Sp : List α → Prop) (N : Nat) (w : World) : Prop :=
  ∀ (l : Nat) (J Jx : List α → World → Prop) (W : World), Below w.heap.size w W → AbidesRows Rw W.heap.size J → AbidesRows Rw W.heap.size Jx →
    (∀ pre x W1, J pre W1 → R x W1 → pre.length < N → YieldAt F (n - 1) P l (encs x) W1 fun e W' =>
      (e = .returned (.bool true) ∧ J (pre ++ [x]) W' ∧ Kp W1 W') ∨ (e = .returned (.bool false) ∧ Jx (pre ++ [x]) W')) →
    J [] W → CallsIn F n P g (#[.func (.yield l) #[] #[]] ++ lb) W fun e W' => (∃ v, e = .returned v) ∧ ((∃ xs, S xs ∧ J xs W') ∨ (∃ pre, Sp pre ∧ Jx pre W'))
/-- how the body of a round may be left -/
def relPostG {α : Type} (B : Nat) (Kp : World → World → Prop) (I : List α → World → Prop) (Ix : Code → List α → World → Prop) (xs : List α) (W : World) (e : Exit) (_ : Act) (W' : World) : Prop :=
  KeepsFrom B W W' ∧ match e with
    | .normal => Kp W W' ∧ I xs W'
    | .ret => Ix .ret xs W'
    | .exit id => Ix (.exit id) xs W'
    | .goto t => Ix (.goto t) xs W'
    | .panic _ => False
    | .outgrown => False
section
variable {F : Fence} {n : Nat} {P : Program} {α : Type}
theorem Book.grownG {l d : Nat} {rec : Loop} {A B : World} {row : Option Nat} (h : Book l d rec A) (hg : A.grownBy B row) (hr : ∀ r, row = some r → ∃ o : Obj, A.heap[r]? = some o ∧ (o.isWalk = true ∨ o.isCells = true)) : Book l d rec B := by
  have k : ∀ {b : Nat} {o : Obj}, A.heap[b]? = some o → o.isWalk = false → o.isCells = false → B.heap[b]? = some o := fun hb h1 h2 => by
    refine (hg.block _ (Array.getElem?_eq_some_iff.1 hb).1 (fun e => ?_)).trans hb
    obtain ⟨o', g1, g2⟩ := hr _ e.symm
    rw [hb] at g1
    cases g1
    rcases g2 with g2 | g2
    · rw [h1] at g2; cases g2
    · rw [h2] at g2; cases g2
  exact ⟨k h.loop rfl rfl, k h.calls rfl rfl⟩
set_option maxHeartbeats 1000000 in
theorem range_relG {g : Operand} {ps : Array Tmp} {assign body : Code} {Q : Exit → Act → World → Prop} {a : Act} {w : World}
    (hro : F.round = none) (h1 : 1 ≤ n) {gf : Nat} {lb : Array Value} (hg : a.eval g = .func (.func gf) #[] lb) (hFg : F.fn gf) (eg : ∀ args w, (callFunc gf args).run P w = .ok (.enter gf args) w)
    {encs : α → Array Value} {R : α → World → Prop} {Kp : World → World → Prop} {Rw : World → Nat → Obj → Prop} {S Sp : List α → Prop} {N : Nat} {w0 : World} (hseq : SeqRelG F (n - 1) P gf lb encs R Kp Rw S Sp N w0) (hRw : ∀ W r o, Rw W r o → o.isCells = true)
    (hKt : ∀ {A B C : World}, Kp A B → Kp B C → Kp A C) (hKb : ∀ (W : World) (l : Nat) (o o' : Obj), w.heap.size ≤ l → W.heap[l]? = some o → o.isCells = false → o.isWalk = false → Kp W (W.putObj l o')) (hb0 : Below w0.heap.size w0 w) (hps : ∀ x, (encs x).size = ps.size)
    (I : List α → World → Prop) (Ix : Code → List α → World → Prop) (hI : OwnRows Rw w.heap.size I) (hIx : ∀ c, OwnRows Rw w.heap.size (Ix c)) (h0 : I [] w) (Ax : α → Act → World → Prop) (hAx : ∀ x a', OwnFrom w.heap.size (fun (_ : Unit) W => Ax x a' W))
    (hassign : ∀ (l : Nat) (pre : List α) (x : α) (W : World) (K : Act → World → Prop), I pre W → R x W → (∀ a' W', KeepsFrom w.heap.size W W' → Kp W W' → I pre W' → Ax x a' W' → K a' W') →
      assign.wpIn (F.inRound l) (n - 1 - 1) P (Exit.then K (fun _ _ _ => False)) { tmps := (ps.zip (encs x)).foldl (fun t (p, v) => t.setIfInBounds p v) a.tmps, defers := [] } W)
    (hbody : ∀ (l : Nat) (pre : List α) (x : α) (a' : Act) (W : World), w.heap.size ≤ l → (∃ r, W.heap[l]? = some (.loop r)) → I pre W → Ax x a' W → pre.length < N → body.wpIn (F.inRound l) (n - 1 - 1) P (relPostG w.heap.size Kp I Ix (pre ++ [x]) W) a' W)
    (hdone : ∀ (D : Nat) (xs : List α) (W : World), w.heap.size ≤ D → S xs → I xs W → W.heap[D]? = some (.deferred (some [])) → Q .normal { a with defers := { target := .collected D, args := #[] } :: a.defers } W)
    (hstop : ∀ (D : Nat) (c : Code) (pre : List α) (W : World), w.heap.size ≤ D → Sp pre → Ix c pre W → W.heap[D]? = some (.deferred (some [])) → c.wpIn F n P Q { a with defers := { target := .collected D, args := #[] } :: a.defers } W) :
    (Code.rangeFunc g ps assign body).wpIn F n P Q a w := by
  refine wpIn_rangeFunc fun fn hfn => ?_
  rw [hro]
  obtain ⟨d, hd⟩ : ∃ d, w.heap.size = d := ⟨_, rfl⟩
  rw [hd] at hKb hI hIx hAx hassign hbody hdone hstop
  obtain ⟨rec, hrec⟩ : ∃ rec : LoopState → Option Code → Loop, ∀ st pe, rec st pe = { state := st, pending := pe, fn, tmps := a.tmps, params := ps, assign, body, defers := d } := ⟨_, fun _ _ => rfl⟩
  have hz : (w.alloc (.deferred (some []))).heap.size = d + 1 := by simp [hd]
  have hB1 : Book (d + 1) d (rec .ready none) ((w.alloc (.deferred (some []))).alloc (.loop (rec .ready none))) := by
    refine ⟨by rw [← hz]; exact World.alloc_heap_new _ _, ?_⟩
    rw [Below.heap_alloc _ _ _ (by omega), ← hd]; exact World.alloc_heap_new w _
  have hIF := hI.from
  have hIxF := fun c => (hIx c).from
  have hI1 : I [] ((w.alloc (.deferred (some []))).alloc (.loop (rec .ready none))) := hIF.alloc _ (hIF.alloc _ h0)
  have hW1 : Below w0.heap.size w0 ((w.alloc (.deferred (some []))).alloc (.loop (rec .ready none))) := (hb0.alloc hb0.size _).alloc (by have := hb0.size; omega) _
  have hs1 : ((w.alloc (.deferred (some []))).alloc (.loop (rec .ready none))).heap.size = d + 2 := by rw [World.size_alloc, hz]
  have hen := run_enterLoop_outer (P := P) (w := w) fn a.tmps ps assign body
  rw [hd, ← hrec .ready none] at hen
  generalize (w.alloc (.deferred (some []))).alloc (.loop (rec .ready none)) = W1 at hB1 hI1 hW1 hs1 hen
  refine ⟨d + 1, [{ target := .collected d, args := #[] }], W1, { target := .fn (.func gf) lb, args := #[.func (.yield (d + 1)) #[] #[]] }, W1, gf, #[.func (.yield (d + 1)) #[] #[]] ++ lb, W1, hen, ?_, ?_, ?_, fun _ => h1, ?_⟩
  · simp only [resolve, hg]; simp [go_sem]
  · intro f' hf'
    simp [Target.leads] at hf'
    rw [← hf']; exact hFg
  · simp [invoke, go_sem, eg]
  have hcall := hseq (d + 1) (fun pre W => I pre W ∧ Book (d + 1) d (rec .ready none) W) (fun pre W => ∃ c, Ix c pre W ∧ Book (d + 1) d (rec .done (some c)) W) W1 hW1
    (fun s A B row hs hgr hr => ⟨hI s A B row hs.1 hgr (fun r e => by obtain ⟨g1, o, g2, g3⟩ := hr r e; exact ⟨by omega, o, g2, g3.imp Obj.not_cells_of_walk id⟩), hs.2.grownG hgr (fun r e => by obtain ⟨g1, o, g2, g3⟩ := hr r e; exact ⟨o, g2, g3.imp id (hRw _ _ _)⟩)⟩)
    (fun s A B row hs hgr hr => by obtain ⟨c, q1, q2⟩ := hs; exact ⟨c, hIx c s A B row q1 hgr (fun r e => by obtain ⟨g1, o, g2, g3⟩ := hr r e; exact ⟨by omega, o, g2, g3.imp Obj.not_cells_of_walk id⟩), q2.grownG hgr (fun r e => by obtain ⟨g1, o, g2, g3⟩ := hr r e; exact ⟨o, g2, g3.imp id (hRw _ _ _)⟩)⟩)
  refine (hcall ?_ ⟨hI1, hB1⟩).mono ?_
  · rintro pre x W ⟨hi, hb⟩ hR hlen
    have hy := run_yield (P := P) (args := encs x) hb.loop (by rw [hrec]; exact hps x)
    rw [hrec] at hy
    refine ⟨fn, _, assign, body, hy, roundIn_of_wpIn hfn (hassign (d + 1) pre x W _ hi hR fun a' Wa k1 k2 k3 k4 => ?_)⟩
    have hba := hb.keeps (by omega) (Nat.le_refl _) k1
    refine ⟨_, run_beginRound hba.loop (by rw [hrec]), ?_⟩
    have hb2 : Book (d + 1) d { rec .ready none with state := .busy } (Wa.putObj (d + 1) (.loop { rec .ready none with state := .busy })) := hba.turn (by omega)
    have hk2 : Kp Wa (Wa.putObj (d + 1) (.loop { rec .ready none with state := .busy })) := hKb _ _ _ _ (by omega) hba.loop rfl rfl
    have hi2 := hIF.putObj (.loop { rec .ready none with state := .busy }) k3 (by omega) hba.loop rfl
    have ha2 := (hAx x a').putObj (s := ()) (.loop { rec .ready none with state := .busy }) k4 (by omega) hba.loop rfl
    have hend : ∀ (jump : Option Code) (W3 : World), KeepsFrom d (Wa.putObj (d + 1) (.loop { rec .ready none with state := .busy })) W3 →
        (Instr.endRound (d + 1) jump).run P W3 = .ok (.bool jump.isNone) (W3.putObj (d + 1) (.loop (rec (if jump.isNone then .ready else .done) jump))) ∧
        W3.heap[d + 1]? = some (.loop { rec .ready none with state := .busy }) ∧ Book (d + 1) d (rec (if jump.isNone then .ready else .done) jump) (W3.putObj (d + 1) (.loop (rec (if jump.isNone then .ready else .done) jump))) := fun jump W3 k => by
      have hb3 := hb2.keeps (by omega) (Nat.le_refl _) k
      have hr := run_endRound (P := P) jump hb3.loop
      rw [hrec .ready none] at hr
      rw [hrec (if jump.isNone then .ready else .done) jump]
      exact ⟨hr, hb3.loop, hb3.turn (by omega)⟩
    refine wpIn_mono (hbody (d + 1) pre x a' _ (by omega) ⟨_, hb2.loop⟩ hi2 ha2 hlen) fun e a3 W3 hp => ?_
    obtain ⟨q1, q3⟩ := hp
    cases e with
    | normal =>
      obtain ⟨q2, q3⟩ := q3
      have hkk : ∀ o', Kp W (W3.putObj (d + 1) o') := fun o' => hKt k2 (hKt (hKt hk2 q2) (hKb _ _ _ _ (by omega) (hb2.keeps (by omega) (Nat.le_refl _) q1).loop rfl rfl))
      obtain ⟨r1, r2, r3⟩ := hend none W3 q1
      exact ⟨_, _, r1, .inl ⟨rfl, ⟨hIF.putObj _ q3 (by omega) r2 rfl, r3⟩, hkk _⟩⟩
    | ret =>
      obtain ⟨r1, r2, r3⟩ := hend (some .ret) W3 q1
      exact ⟨_, _, r1, .inr ⟨rfl, ⟨.ret, (hIxF _).putObj _ q3 (by omega) r2 rfl, r3⟩⟩⟩
    | exit id =>
      obtain ⟨r1, r2, r3⟩ := hend (some (.exit id)) W3 q1
      exact ⟨_, _, r1, .inr ⟨rfl, ⟨.exit id, (hIxF _).putObj _ q3 (by omega) r2 rfl, r3⟩⟩⟩
    | goto t =>
      obtain ⟨r1, r2, r3⟩ := hend (some (.goto t)) W3 q1
      exact ⟨_, _, r1, .inr ⟨rfl, ⟨.goto t, (hIxF _).putObj _ q3 (by omega) r2 rfl, r3⟩⟩⟩
    | panic ch => exact q3.elim
    | outgrown => exact q3.elim
  · rintro e W2 ⟨⟨v, rfl⟩, (⟨xs, hS, hi, hb⟩ | ⟨pre, hSp, c, hi, hb⟩)⟩
    · have hr := run_endLoop (P := P) hb.loop (by rw [hrec]; simp)
      rw [hrec] at hr
      exact ⟨none, _, hr, hdone d xs _ (Nat.le_refl _) hS (hIF.putObj _ hi (by omega) hb.loop rfl) ((World.putObj_heap_other (by omega)).trans hb.calls)⟩
    · have hr := run_endLoop (P := P) hb.loop (by rw [hrec]; simp)
      rw [hrec] at hr
      exact ⟨some c, _, hr, hstop d c pre _ (Nat.le_refl _) hSp ((hIxF c).putObj _ hi (by omega) hb.loop rfl) ((World.putObj_heap_other (by omega)).trans hb.calls)⟩
end
end Go.Proofs.YtgkddhakhapjlaaGreatDoor

/- Lists of terms that are kept in a box, told apart by the types of their blocks. No function of the program is named. -/
namespace Go.Proofs.YtgkddhakhapjlaaGreatDoor
open Go Go.RowKit Go.Maps

/-- a block of ints -/
def IntB (W : World) (b : Nat) : Prop := ∃ cs, W.heap[b]? = some (.cells cs 3 (0, 0))
def IntKeep (W W' : World) : Prop := ∀ b, IntB W b → W'.heap[b]? = W.heap[b]?
theorem IntB.lt {W : World} {b : Nat} (h : IntB W b) : b < W.heap.size := by obtain ⟨cs, h⟩ := h; exact (Array.getElem?_eq_some_iff.1 h).1
theorem IntKeep.refl (W : World) : IntKeep W W := fun _ _ => rfl
theorem IntKeep.b {W W' : World} (h : IntKeep W W') {b : Nat} (hb : IntB W b) : IntB W' b := by obtain ⟨cs, hc⟩ := hb; exact ⟨cs, (h b ⟨cs, hc⟩).trans hc⟩
theorem IntKeep.trans {W W' W2 : World} (h : IntKeep W W') (k : IntKeep W' W2) : IntKeep W W2 := fun b hb => (k b (h.b hb)).trans (h b hb)
theorem IntKeep.of_below {W W' : World} (h : Below W.heap.size W W') : IntKeep W W' := fun b hb => h.block b hb.lt
theorem IntKeep.of_grown {W W' : World} {row : Option Nat} (h : W.grownBy W' row) (hr : ∀ r, row = some r → ¬ IntB W r) : IntKeep W W' := fun b hb => h.block b hb.lt (fun e => hr b e.symm hb)
theorem IntKeep.putObj {W : World} {l : Nat} {o o' : Obj} (hl : W.heap[l]? = some o) (hc : o.isCells = false) : IntKeep W (W.putObj l o') := fun b hb => World.putObj_heap_other (fun e => by
  subst e; obtain ⟨cs, hb⟩ := hb; rw [hl] at hb; cases hb; cases hc)
theorem Ints.intKeep {W W' : World} {a : Option Addr} {c : Nat} {l : List Int} (h : Ints (IntB W) W a c l) (k : IntKeep W W') : Ints (IntB W') W' a c l := h.mono (fun _ _ hb => k.b hb) (fun b hb _ => k b hb)
theorem OwnI.intsB {w : World} {base : Nat} {v : Value} {l : List Int} (h : OwnI w base v l) : ∃ a c, v = .slice a l.length c ∧ Ints (IntB w) w a c l := by
  obtain ⟨a, c, hv, hI⟩ := h.ints
  refine ⟨a, c, hv, hI.cap, hI.max, hI.nil, fun hne => ?_⟩
  obtain ⟨b, off, ha, hb, hl, hc⟩ := hI.dat hne
  subst ha
  obtain ⟨cur, hcur⟩ := OwnL.rowCells h b (by rw [hv]; rfl)
  exact ⟨b, off, rfl, ⟨cur, hcur⟩, hl, hc⟩
theorem Ints.nilB {W : World} {a : Option Addr} {c : Nat} {S : Nat → Prop} (h : Ints S W a c []) : Ints (IntB W) W a c [] := ⟨h.cap, h.max, h.nil, fun hne => (hne rfl).elim⟩

abbrev OwnTT (W : World) (base : Nat) (v : Value) (l : List (List Int)) : Prop := OwnL (slE intE) (IntB W) W base 34 v l
theorem OwnTT.keep {W W' : World} {base : Nat} {v : Value} {l : List (List Int)} (h : OwnTT W base v l) (hr : ∀ k, v.ownBlock = some k → W'.heap[k]? = W.heap[k]?) (hi : IntKeep W W') : OwnTT W' base v l :=
  OwnL.weak (OwnL.kept h hr (fun b hb _ => hi b hb.1)) (fun _ _ hb => hi.b hb)
def TBox (W : World) (B base : Nat) (l : List (List Int)) : Prop := ∃ v, Boxed W B 24 v ∧ OwnTT W base v l
section
variable {W W' : World} {B base : Nat} {l : List (List Int)}
theorem TBox.new (W : World) : TBox (W.alloc (.cells #[.slice none 0 0] 24)) W.heap.size W.heap.size [] := ⟨_, Boxed.new W _ _, .nil _ _ _ _ _⟩
theorem TBox.lt (h : TBox W B base l) : B < W.heap.size := by obtain ⟨v, h, -⟩ := h; exact h.lt
theorem TBox.rowCells (h : TBox W B base l) : ∀ r, rowOf B W = some r → base ≤ r ∧ r < W.heap.size ∧ ∃ cur, W.heap[r]? = some (.cells cur 34 (0, 0)) := by
  obtain ⟨v, hv, ho⟩ := h
  intro r hr
  rw [rowOf_boxed hv] at hr
  exact ⟨(OwnL.lt ho r hr).1, (OwnL.lt ho r hr).2, OwnL.rowCells ho r hr⟩
theorem TBox.rowLt (h : TBox W B base l) : RowLt B W := ⟨h.lt, fun r hr => (h.rowCells r hr).2.1⟩
theorem TBox.boxCells (h : TBox W B base l) : ∃ cur, W.heap[B]? = some (.cells cur 24 (0, 0)) := by obtain ⟨v, hv, -⟩ := h; exact ⟨_, hv⟩
theorem not_intB {W : World} {b : Nat} {t : TypeId} {cur : Array Value} (h : W.heap[b]? = some (.cells cur t (0, 0))) (ht : t ≠ 3) : ¬ IntB W b := fun ⟨cs, hc⟩ => by
  rw [h] at hc; simp only [Option.some.injEq, Obj.cells.injEq] at hc; exact ht hc.2.1
theorem TBox.keep (h : TBox W B base l) (hB : W'.heap[B]? = W.heap[B]?) (hr : ∀ r, rowOf B W = some r → W'.heap[r]? = W.heap[r]?) (hi : IntKeep W W') : TBox W' B base l := by
  obtain ⟨v, hv, ho⟩ := h
  refine ⟨v, hB.trans hv, OwnTT.keep ho (fun k hk => hr k ?_) hi⟩
  rw [rowOf_boxed hv]; exact hk
theorem TBox.below (h : TBox W B base l) (hb : Below W.heap.size W W') : TBox W' B base l := h.keep (hb.block B h.lt) (fun r hr => hb.block r (h.rowCells r hr).2.1) (.of_below hb)
/-- what the box holds -/
theorem TBox.slice (h : TBox W B base l) : ∃ a c, W.cell? ⟨B, 0, none⟩ = some (.slice a l.length c) ∧ Terms (fun _ => True) W a c l := by
  obtain ⟨v, hv, ho⟩ := h
  obtain ⟨a, c, rfl, hT⟩ := ho.sl
  exact ⟨a, c, hv.cell, hT.any⟩
theorem infoTm : (Tryz.prog.info? 34).map (fun i => (i.zero, i.size, i.bytes)) = some (some (.slice none 0 0), 1, 24) := by kernel_rfl
/-- one term more -/
theorem TBox.push (h : TBox W B base l) (hbs : base ≤ W.heap.size) {W1 : World} (hb1 : Below W.heap.size W W1) {a : Option Addr} {c : Nat} {x : List Int} (hx : Ints (IntB W1) W1 a c x) (hl : l.length ≤ 1000) :
    ∃ v a' cap W2, RowKit.Hid (W1.cell? ⟨B, 0, none⟩ = some v) ∧ RowKit.Hid ((Builtin.append_ #[24, 24] 24 #[v, .slice (some ⟨W1.heap.size, 0, none⟩) 1 1]).run Tryz.prog (W1.alloc (.cells #[.slice a x.length c] 34)) = .ok (.slice a' (l.length + 1) cap) W2) ∧
      RowKit.Hid (W2.cell? ⟨B, 0, none⟩ = some v) ∧ RowKit.Hid (W2.frozen? ⟨B, 0, none⟩ = false) ∧ RowKit.Hid (TBox (W2.setCell ⟨B, 0, none⟩ (.slice a' (l.length + 1) cap)) B base (l ++ [x])) ∧
      RowKit.Hid (W1.grownBy W2 v.ownBlock) ∧ RowKit.Hid (W2.grownBy (W2.setCell ⟨B, 0, none⟩ (.slice a' (l.length + 1) cap)) (some B)) ∧ RowKit.Hid (rowOf B W = v.ownBlock) ∧ RowKit.Hid (W2.heap[B]? = some (.cells #[v] 24 (0, 0))) ∧ RowKit.Hid (IntKeep W1 (W2.setCell ⟨B, 0, none⟩ (.slice a' (l.length + 1) cap))) ∧
      RowKit.Hid (rowOf B (W2.setCell ⟨B, 0, none⟩ (.slice a' (l.length + 1) cap)) = v.ownBlock ∨ ∃ k, rowOf B (W2.setCell ⟨B, 0, none⟩ (.slice a' (l.length + 1) cap)) = some k ∧ W1.heap.size ≤ k) := by
  have h1 := h.below hb1
  obtain ⟨v, hv, ho⟩ := h1
  have hS : (slE intE).R (Off (IntB W1) v) W1 [.slice a x.length c] x := by
    refine ⟨a, c, rfl, hx.weak (fun b hb => ⟨hb, fun e => ?_⟩)⟩
    obtain ⟨cur, hc⟩ := OwnL.rowCells ho b e.symm
    exact not_intB hc (by decide) hb
  obtain ⟨v', W2, hrun, ho2, hg, hat⟩ := ho.push (P := Tryz.prog) (t := 24) (ty := 24) Tryz.underlying24 infoTm rfl hS (by omega) (by unfold big; omega) (Nat.le_trans hbs hb1.size)
  obtain ⟨a', cap, rfl, -⟩ := ho2.sl
  rw [List.length_append, List.length_singleton] at hrun ho2 hat
  have hnr : v.ownBlock ≠ some B := ho.notBox hv (by decide)
  have hv2 : Boxed W2 B 24 v := hv.kept hg (fun e => hnr e.symm)
  have hg3 : W2.grownBy (W2.setCell ⟨B, 0, none⟩ (.slice a' (l.length + 1) cap)) (some B) := grownBy_setCell' _ _ _
  have hnr2 := ho2.notBox hv2 (by decide)
  have hk12 : IntKeep W1 W2 := .of_grown hg (fun r e => by obtain ⟨cur, hc⟩ := OwnL.rowCells ho r e; exact not_intB hc (by decide))
  have hk23 : IntKeep W2 (W2.setCell ⟨B, 0, none⟩ (.slice a' (l.length + 1) cap)) := .of_grown hg3 (fun r e => by cases e; exact not_intB hv2 (by decide))
  have ho2' : OwnTT W2 base _ (l ++ [x]) := OwnL.weak ho2 (fun b _ hb => hk12.b hb)
  have ho3 := OwnTT.keep ho2' (fun k hk => hg3.block k (OwnL.lt ho2' k hk).2 (fun e => hnr2 (by rw [hk, e]))) hk23
  have hv3 : Boxed (W2.setCell ⟨B, 0, none⟩ (.slice a' (l.length + 1) cap)) B 24 (.slice a' (l.length + 1) cap) := hv2.set _
  have hrB : rowOf B W = v.ownBlock := by rw [← rowOf_boxed hv]; exact (rowOf_same (hb1.block B h.lt)).symm
  refine ⟨v, a', cap, W2, Lib.hid hv.cell, Lib.hid hrun, Lib.hid hv2.cell, Lib.hid hv2.frozen, Lib.hid ⟨_, hv3, ho3⟩, Lib.hid hg, Lib.hid hg3, Lib.hid hrB, Lib.hid hv2, Lib.hid (hk12.trans hk23), Lib.hid ?_⟩
  rw [rowOf_boxed hv3]
  exact hat
end
end Go.Proofs.YtgkddhakhapjlaaGreatDoor

/- Walks of package kernel: what a step says. -/
namespace Go.Proofs.YtgkddhakhapjlaaGreatDoor
open Go Go.RowKit Go.Maps

set_option maxRecDepth 20000 in
set_option maxHeartbeats 2000000 in
theorem cite_any {S1 S2 : Nat → Prop} (a1 ag : Option Addr) (c1 cg sb gb n : Nat) (B : Int) (s : Sg) (g : List (List Int)) (w : World) (h1 : Sign S1 w a1 c1 s) (h2 : Terms S2 w ag cg g) (hsb : w.cell? ⟨sb, 0, none⟩ = some (.slice a1 s.length c1)) (hgb : w.cell? ⟨gb, 0, none⟩ = some (.slice ag g.length cg)) (hn : n < g.length) (hok : okT s g[n] = true) :
    Calls Tryz.prog 144 #[.agg #[.int .i64 1, .int .i64 n, .int .i64 B], .pointer (some ⟨sb, 0, none⟩), .pointer (some ⟨gb, 0, none⟩)] w (retE (canon g[n], 0) w) := by
  have m2 := h2.le
  obtain ⟨b, o, at_, ct, rfl, -, q, hI⟩ := h2.sub n hn
  obtain ⟨W1, hW1⟩ : ∃ W, w.alloc (.cells #[.int .i64 1, .int .i64 n, .int .i64 B] 86) = W := ⟨_, rfl⟩
  have hb1 : Below w.heap.size w W1.drew := by rw [← hW1]; exact (below1 w _).drew
  have q1 : W1.cell? ⟨w.heap.size, 1, none⟩ = some (.int .i64 n) := by rw [← hW1]; clear hW1; go_simp
  have q1' : W1.drew.cell? ⟨w.heap.size, 1, none⟩ = some (.int .i64 n) := q1
  have cc := Canonical_any a1 at_ c1 ct s g[n] W1.drew (h1.below hb1) (hI.below hb1)
  have qs := cell_later hb1 hsb
  have qg := cell_later hb1 hgb
  have qt := cell_later hb1 q
  have mI := hI.le
  obtain ⟨t, ht⟩ : ∃ t, g[n] = t := ⟨_, rfl⟩
  rw [ht] at cc qt hok mI
  rw [ht]
  have ccH := Lib.hid cc
  have hokH := Lib.hid hok
  have hb1H := Lib.hid hb1
  clear cc h1 h2 hI hok hb1 q ht hsb hgb q1
  go_enter Tryz.func144, Tryz.ntmps144
  go_wp2_with fail
  try rw [hW1]
  refine wp_region_held_drew (S := fun w' => w'.cell? ⟨sb, 0, none⟩ = some (.slice a1 s.length c1) ∧ w'.cell? ⟨gb, 0, none⟩ = some (.slice (some ⟨b, o, none⟩) g.length cg) ∧ w'.cell? ⟨w.heap.size, 1, none⟩ = some (.int .i64 n) ∧ w'.cell? ⟨b, o + n, none⟩ = some (.slice at_ t.length ct)) (by kernel_rfl) ⟨qs, qg, q1', qt⟩ (fun hS => ?_)
  refine region_take 0 (some 6) (v := ?_) rfl rfl (by kernel_rfl) (by kernel_rfl) (by kernel_rfl) (fun _ _ _ h => h) rfl ?_ hS ?_
  rotate_left
  · (intro w9 hS9; obtain ⟨s91, s92, s93, s94⟩ := hS9; go_simp; try (with_reducible rfl))
  simp only [Act.put, List.setIfInBounds_toArray, List.set_cons_zero, List.set_cons_succ]
  refine region_take 1 (some 7) (v := ?_) rfl rfl (by kernel_rfl) (by kernel_rfl) (by kernel_rfl) (fun _ _ _ h => h) rfl ?_ hS ?_
  rotate_left
  · (intro w9 hS9; obtain ⟨s91, s92, s93, s94⟩ := hS9; go_simp; try (with_reducible rfl))
  simp only [Act.put, List.setIfInBounds_toArray, List.set_cons_zero, List.set_cons_succ]
  refine region_take 2 (some 8) (v := ?_) rfl rfl (by kernel_rfl) (by kernel_rfl) (by kernel_rfl) (fun _ _ _ h => h) rfl ?_ hS ?_
  rotate_left
  · (intro w9 hS9; obtain ⟨s91, s92, s93, s94⟩ := hS9; go_simp; try (with_reducible rfl))
  simp only [Act.put, List.setIfInBounds_toArray, List.set_cons_zero, List.set_cons_succ]
  refine region_take 3 (some 9) (v := ?_) rfl rfl (by kernel_rfl) (by kernel_rfl) (by kernel_rfl) (fun _ _ _ h => h) rfl ?_ hS ?_
  rotate_left
  · (intro w9 hS9; obtain ⟨s91, s92, s93, s94⟩ := hS9; go_simp; try (with_reducible rfl))
  simp only [Act.put, List.setIfInBounds_toArray, List.set_cons_zero, List.set_cons_succ]
  refine region_take 4 (some 10) (v := ?_) rfl rfl (by kernel_rfl) (by kernel_rfl) (by kernel_rfl) (fun _ _ _ h => h) rfl ?_ hS ?_
  rotate_left
  · (intro w9 hS9; obtain ⟨s91, s92, s93, s94⟩ := hS9; go_simp; try (with_reducible rfl))
  simp only [Act.put, List.setIfInBounds_toArray, List.set_cons_zero, List.set_cons_succ]
  refine region_take 5 (some 11) (v := ?_) rfl rfl (by kernel_rfl) (by kernel_rfl) (by kernel_rfl) (fun _ _ _ h => h) rfl ?_ hS ?_
  rotate_left
  · (intro w9 hS9; obtain ⟨s91, s92, s93, s94⟩ := hS9; go_simp; try (with_reducible rfl))
  simp only [Act.put, List.setIfInBounds_toArray, List.set_cons_zero, List.set_cons_succ]
  refine region_call 6 rfl (by kernel_rfl) (fun K hK => ?_)
  go_simp
  (with_reducible refine ccH.out.mono ?_)
  rintro e w8 ⟨v, n8, rfl, hb8, -, hv⟩
  obtain ⟨rfl, ho⟩ := hv hokH.out
  refine hK.out _ _ ⟨cell_later hb8 qs, cell_later hb8 qg, cell_later hb8 q1', cell_later hb8 qt⟩ ?_
  clear hS hK hv
  intro hS
  refine region_take 7 (some 13) (v := ?_) rfl rfl (by kernel_rfl) (by kernel_rfl) (by kernel_rfl) (fun _ _ _ h => h) rfl ?_ hS ?_
  rotate_left
  · (intro w9 hS9; obtain ⟨s91, s92, s93, s94⟩ := hS9; go_simp; try (with_reducible rfl))
  simp only [Act.put, List.setIfInBounds_toArray, List.set_cons_zero, List.set_cons_succ]
  refine region_take 8 (some 14) (v := ?_) rfl rfl (by kernel_rfl) (by kernel_rfl) (by kernel_rfl) (fun _ _ _ h => h) rfl ?_ hS ?_
  rotate_left
  · (intro w9 hS9; obtain ⟨s91, s92, s93, s94⟩ := hS9; go_simp; try (with_reducible rfl))
  simp only [Act.put, List.setIfInBounds_toArray, List.set_cons_zero, List.set_cons_succ]
  refine region_take 9 (some 4) (v := ?_) rfl rfl (by kernel_rfl) (by kernel_rfl) (by kernel_rfl) (fun _ _ _ h => h) rfl ?_ hS ?_
  rotate_left
  · (intro w9 hS9; obtain ⟨s91, s92, s93, s94⟩ := hS9; go_simp; try (with_reducible rfl))
  simp only [Act.put, List.setIfInBounds_toArray, List.set_cons_zero, List.set_cons_succ]
  refine region_take 10 (some 5) (v := ?_) rfl rfl (by kernel_rfl) (by kernel_rfl) (by kernel_rfl) (fun _ _ _ h => h) rfl ?_ hS ?_
  rotate_left
  · (intro w9 hS9; obtain ⟨s91, s92, s93, s94⟩ := hS9; go_simp; try (with_reducible rfl))
  simp only [Act.put, List.setIfInBounds_toArray, List.set_cons_zero, List.set_cons_succ]
  refine wpAnyH_done (by kernel_rfl) ?_ _
  have hoH := Lib.hid (OwnL.baseMono (base' := w.heap.size) ho hb1H.out.size)
  have hbH := Lib.hid (hb1H.out.trans (hb8.mono hb1H.out.size))
  clear hS ho hb8
  go_wp2_with fail
  go_ret2
  exact ⟨_, rfl, hoH.out, hbH.out⟩
set_option maxRecDepth 20000 in
set_option maxHeartbeats 2000000 in
theorem stepdet_any {S1 S2 : Nat → Prop} (a1 ag : Option Addr) (c1 cg sb gb n m : Nat) (s : Sg) (g : List (List Int)) (w : World) (h1 : Sign S1 w a1 c1 s) (h2 : Terms S2 w ag cg g) (hsb : w.cell? ⟨sb, 0, none⟩ = some (.slice a1 s.length c1)) (hgb : w.cell? ⟨gb, 0, none⟩ = some (.slice ag g.length cg)) (hn : n < g.length) (hm : m < g.length) :
    Calls Tryz.prog 145 #[.agg #[.int .i64 2, .int .i64 n, .int .i64 m], .pointer (some ⟨sb, 0, none⟩), .pointer (some ⟨gb, 0, none⟩)] w (retE (detE s g[n] g[m]) w) := by
  have m2 := h2.le
  obtain ⟨b, o, at_, ct, rfl, -, q, hI⟩ := h2.sub n hn
  obtain ⟨b', o', au, cu, he, -, q', hI'⟩ := h2.sub m hm
  simp only [Option.some.injEq, Addr.mk.injEq, and_true] at he
  obtain ⟨rfl, rfl⟩ := he
  obtain ⟨W1, hW1⟩ : ∃ W, w.alloc (.cells #[.int .i64 2, .int .i64 n, .int .i64 m] 86) = W := ⟨_, rfl⟩
  have hb1 : Below w.heap.size w W1.drew := by rw [← hW1]; exact (below1 w _).drew
  have q1 : W1.cell? ⟨w.heap.size, 1, none⟩ = some (.int .i64 n) := by rw [← hW1]; clear hW1; go_simp
  have q2 : W1.cell? ⟨w.heap.size, 2, none⟩ = some (.int .i64 m) := by rw [← hW1]; clear hW1; go_simp
  have q1' : W1.drew.cell? ⟨w.heap.size, 1, none⟩ = some (.int .i64 n) := q1
  have q2' : W1.drew.cell? ⟨w.heap.size, 2, none⟩ = some (.int .i64 m) := q2
  have cc := Detach_any a1 at_ au c1 ct cu s g[n] g[m] W1.drew (h1.below hb1) (hI.below hb1) (hI'.below hb1)
  have qs := cell_later hb1 hsb
  have qg := cell_later hb1 hgb
  have qt := cell_later hb1 q
  have qu := cell_later hb1 q'
  have mI := hI.le
  have mI' := hI'.le
  obtain ⟨t, ht⟩ : ∃ t, g[n] = t := ⟨_, rfl⟩
  obtain ⟨u, hu⟩ : ∃ t, g[m] = t := ⟨_, rfl⟩
  rw [ht, hu] at cc
  rw [ht] at qt mI
  rw [hu] at qu mI'
  rw [ht, hu]
  have ccH := Lib.hid cc
  have hb1H := Lib.hid hb1
  clear cc h1 h2 hI hI' hb1 q q' ht hu hsb hgb q1 q2
  go_enter Tryz.func145, Tryz.ntmps145
  go_wp2_with fail
  try rw [hW1]
  refine wp_region_held_drew (S := fun w' => w'.cell? ⟨sb, 0, none⟩ = some (.slice a1 s.length c1) ∧ w'.cell? ⟨gb, 0, none⟩ = some (.slice (some ⟨b, o, none⟩) g.length cg) ∧ w'.cell? ⟨w.heap.size, 1, none⟩ = some (.int .i64 n) ∧ w'.cell? ⟨w.heap.size, 2, none⟩ = some (.int .i64 m) ∧ w'.cell? ⟨b, o + n, none⟩ = some (.slice at_ t.length ct) ∧ w'.cell? ⟨b, o + m, none⟩ = some (.slice au u.length cu)) (by kernel_rfl) ⟨qs, qg, q1', q2', qt, qu⟩ (fun hS => ?_)
  refine region_take 0 (some 6) (v := ?_) rfl rfl (by kernel_rfl) (by kernel_rfl) (by kernel_rfl) (fun _ _ _ h => h) rfl ?_ hS ?_
  rotate_left
  · (intro w9 hS9; obtain ⟨s91, s92, s93, s94, s95, s96⟩ := hS9; go_simp; try (with_reducible rfl))
  simp only [Act.put, List.setIfInBounds_toArray, List.set_cons_zero, List.set_cons_succ]
  refine region_take 1 (some 7) (v := ?_) rfl rfl (by kernel_rfl) (by kernel_rfl) (by kernel_rfl) (fun _ _ _ h => h) rfl ?_ hS ?_
  rotate_left
  · (intro w9 hS9; obtain ⟨s91, s92, s93, s94, s95, s96⟩ := hS9; go_simp; try (with_reducible rfl))
  simp only [Act.put, List.setIfInBounds_toArray, List.set_cons_zero, List.set_cons_succ]
  refine region_take 2 (some 8) (v := ?_) rfl rfl (by kernel_rfl) (by kernel_rfl) (by kernel_rfl) (fun _ _ _ h => h) rfl ?_ hS ?_
  rotate_left
  · (intro w9 hS9; obtain ⟨s91, s92, s93, s94, s95, s96⟩ := hS9; go_simp; try (with_reducible rfl))
  simp only [Act.put, List.setIfInBounds_toArray, List.set_cons_zero, List.set_cons_succ]
  refine region_take 3 (some 9) (v := ?_) rfl rfl (by kernel_rfl) (by kernel_rfl) (by kernel_rfl) (fun _ _ _ h => h) rfl ?_ hS ?_
  rotate_left
  · (intro w9 hS9; obtain ⟨s91, s92, s93, s94, s95, s96⟩ := hS9; go_simp; try (with_reducible rfl))
  simp only [Act.put, List.setIfInBounds_toArray, List.set_cons_zero, List.set_cons_succ]
  refine region_take 4 (some 10) (v := ?_) rfl rfl (by kernel_rfl) (by kernel_rfl) (by kernel_rfl) (fun _ _ _ h => h) rfl ?_ hS ?_
  rotate_left
  · (intro w9 hS9; obtain ⟨s91, s92, s93, s94, s95, s96⟩ := hS9; go_simp; try (with_reducible rfl))
  simp only [Act.put, List.setIfInBounds_toArray, List.set_cons_zero, List.set_cons_succ]
  refine region_take 5 (some 11) (v := ?_) rfl rfl (by kernel_rfl) (by kernel_rfl) (by kernel_rfl) (fun _ _ _ h => h) rfl ?_ hS ?_
  rotate_left
  · (intro w9 hS9; obtain ⟨s91, s92, s93, s94, s95, s96⟩ := hS9; go_simp; try (with_reducible rfl))
  simp only [Act.put, List.setIfInBounds_toArray, List.set_cons_zero, List.set_cons_succ]
  refine region_take 6 (some 12) (v := ?_) rfl rfl (by kernel_rfl) (by kernel_rfl) (by kernel_rfl) (fun _ _ _ h => h) rfl ?_ hS ?_
  rotate_left
  · (intro w9 hS9; obtain ⟨s91, s92, s93, s94, s95, s96⟩ := hS9; go_simp; try (with_reducible rfl))
  simp only [Act.put, List.setIfInBounds_toArray, List.set_cons_zero, List.set_cons_succ]
  refine region_take 7 (some 13) (v := ?_) rfl rfl (by kernel_rfl) (by kernel_rfl) (by kernel_rfl) (fun _ _ _ h => h) rfl ?_ hS ?_
  rotate_left
  · (intro w9 hS9; obtain ⟨s91, s92, s93, s94, s95, s96⟩ := hS9; go_simp; try (with_reducible rfl))
  simp only [Act.put, List.setIfInBounds_toArray, List.set_cons_zero, List.set_cons_succ]
  refine region_take 8 (some 14) (v := ?_) rfl rfl (by kernel_rfl) (by kernel_rfl) (by kernel_rfl) (fun _ _ _ h => h) rfl ?_ hS ?_
  rotate_left
  · (intro w9 hS9; obtain ⟨s91, s92, s93, s94, s95, s96⟩ := hS9; go_simp; try (with_reducible rfl))
  simp only [Act.put, List.setIfInBounds_toArray, List.set_cons_zero, List.set_cons_succ]
  refine region_take 9 (some 15) (v := ?_) rfl rfl (by kernel_rfl) (by kernel_rfl) (by kernel_rfl) (fun _ _ _ h => h) rfl ?_ hS ?_
  rotate_left
  · (intro w9 hS9; obtain ⟨s91, s92, s93, s94, s95, s96⟩ := hS9; go_simp; try (with_reducible rfl))
  simp only [Act.put, List.setIfInBounds_toArray, List.set_cons_zero, List.set_cons_succ]
  refine region_take 10 (some 16) (v := ?_) rfl rfl (by kernel_rfl) (by kernel_rfl) (by kernel_rfl) (fun _ _ _ h => h) rfl ?_ hS ?_
  rotate_left
  · (intro w9 hS9; obtain ⟨s91, s92, s93, s94, s95, s96⟩ := hS9; go_simp; try (with_reducible rfl))
  simp only [Act.put, List.setIfInBounds_toArray, List.set_cons_zero, List.set_cons_succ]
  refine region_call 11 rfl (by kernel_rfl) (fun K hK => ?_)
  go_simp
  (with_reducible refine ccH.out.mono ?_)
  rintro e w8 ⟨v, rfl, ho, hb8⟩
  refine hK.out _ _ ⟨cell_later hb8 qs, cell_later hb8 qg, cell_later hb8 q1', cell_later hb8 q2', cell_later hb8 qt, cell_later hb8 qu⟩ ?_
  clear hS hK
  intro hS
  refine region_take 12 (some 18) (v := ?_) rfl rfl (by kernel_rfl) (by kernel_rfl) (by kernel_rfl) (fun _ _ _ h => h) rfl ?_ hS ?_
  rotate_left
  · (intro w9 hS9; obtain ⟨s91, s92, s93, s94, s95, s96⟩ := hS9; go_simp; try (with_reducible rfl))
  simp only [Act.put, List.setIfInBounds_toArray, List.set_cons_zero, List.set_cons_succ]
  refine region_take 13 (some 19) (v := ?_) rfl rfl (by kernel_rfl) (by kernel_rfl) (by kernel_rfl) (fun _ _ _ h => h) rfl ?_ hS ?_
  rotate_left
  · (intro w9 hS9; obtain ⟨s91, s92, s93, s94, s95, s96⟩ := hS9; go_simp; try (with_reducible rfl))
  simp only [Act.put, List.setIfInBounds_toArray, List.set_cons_zero, List.set_cons_succ]
  refine region_take 14 (some 4) (v := ?_) rfl rfl (by kernel_rfl) (by kernel_rfl) (by kernel_rfl) (fun _ _ _ h => h) rfl ?_ hS ?_
  rotate_left
  · (intro w9 hS9; obtain ⟨s91, s92, s93, s94, s95, s96⟩ := hS9; go_simp; try (with_reducible rfl))
  simp only [Act.put, List.setIfInBounds_toArray, List.set_cons_zero, List.set_cons_succ]
  refine region_take 15 (some 5) (v := ?_) rfl rfl (by kernel_rfl) (by kernel_rfl) (by kernel_rfl) (fun _ _ _ h => h) rfl ?_ hS ?_
  rotate_left
  · (intro w9 hS9; obtain ⟨s91, s92, s93, s94, s95, s96⟩ := hS9; go_simp; try (with_reducible rfl))
  simp only [Act.put, List.setIfInBounds_toArray, List.set_cons_zero, List.set_cons_succ]
  refine wpAnyH_done (by kernel_rfl) ?_ _
  have hoH := Lib.hid (OwnL.baseMono (base' := w.heap.size) ho hb1H.out.size)
  have hbH := Lib.hid (hb1H.out.trans (hb8.mono hb1H.out.size))
  clear hS ho hb8
  go_wp2_with fail
  go_ret2
  exact ⟨_, rfl, hoH.out, hbH.out⟩
end Go.Proofs.YtgkddhakhapjlaaGreatDoor

/- Walks: Depth of the reference, Vars of the reference. -/
namespace Go.Proofs.YtgkddhakhapjlaaGreatDoor
open Go Go.RowKit Go.Maps

def depRel (s : Sg) (t r : List Int) (p m F : Nat) (w : World) (most i : Value) (wr : World) : Prop :=
  ∃ j q D : Nat, i = .int .i64 j ∧ most = .int .i64 D ∧ j ≤ m ∧ q ≤ t.length ∧ p < q ∧ skip s j (t.drop (p + 1)) = some (t.drop q) ∧ skip s (m - j) (t.drop q) = some r ∧
    D ≤ F ∧ max D (depArgs (dep s F) s (m - j) (t.drop q)) = depArgs (dep s F) s m (t.drop (p + 1)) ∧ Below w.heap.size w wr
def depE (s : Sg) (t : List Int) : Int × Int := if okT s t = true then (((depth s t : Nat) : Int), 0) else (0, 1)
theorem depE_eq (s : Sg) (t : List Int) : (if okT s t then #[Value.int .i64 (depth s t : Nat), .int .i64 0] else #[.int .i64 0, .int .i64 1]) = #[.int .i64 (depE s t).1, .int .i64 (depE s t).2] := by
  unfold depE; split <;> rfl
end Go.Proofs.YtgkddhakhapjlaaGreatDoor

/- Walks: lists of terms alike. -/
namespace Go.Proofs.YtgkddhakhapjlaaGreatDoor
open Go Go.RowKit Go.Maps

set_option maxHeartbeats 2000000 in
theorem SameTerms_any {S1 S2 : Nat → Prop} (a1 a2 : Option Addr) (c1 c2 : Nat) (l1 l2 : List (List Int)) (w : World) (h1 : Terms S1 w a1 c1 l1) (h2 : Terms S2 w a2 c2 l2) :
    Calls Tryz.prog 16 #[.slice a1 l1.length c1, .slice a2 l2.length c2] w fun e w' => e = .returned (.bool (decide (l1 = l2))) ∧ Drew w w' := by
  have m1 := h1.le
  have m2 := h2.le
  by_cases hl : l1.length = l2.length
  · have hlH := Lib.hid hl
    go_enter Tryz.func16, Tryz.ntmps16
    go_wp2_with fail
    clear hl
    go_loopw [5] (fun i wr => ∃ k : Nat, k ≤ l1.length ∧ i = .int .i64 k ∧ l1.take k = l2.take k ∧ Drew w wr) (fun i _ => l1.length - (intOf i).toNat)
    case atStart => exact ⟨0, by omega, rfl, rfl, .refl _⟩
    case round =>
      obtain ⟨k, hk, rfl, ht, hd⟩ := hrel
      have htH := Lib.hid ht
      clear ht
      have hle := hlH.out
      by_cases hlt : k < l1.length
      · have hlt2 : k < l2.length := by omega
        obtain ⟨b1, o1, a3, c3, rfl, -, q1, hI1⟩ := h1.sub k hlt
        obtain ⟨b2, o2, a4, c4, rfl, -, q2, hI2⟩ := h2.sub k hlt2
        have cs := fun n => Same_any a3 a4 c3 c4 l1[k] l2[k] (wr.drewN n) ((hI1.drew hd).drewN n) ((hI2.drew hd).drewN n)
        have q1 := ((hd.below w.heap.size).cell (p := ⟨b1, o1 + k, none⟩) (World.block_lt_of_cell? _ _ q1)).trans q1
        have q2 := ((hd.below w.heap.size).cell (p := ⟨b2, o2 + k, none⟩) (World.block_lt_of_cell? _ _ q2)).trans q2
        obtain ⟨x, hx⟩ : ∃ x, decide (l1[k] = l2[k]) = x := ⟨_, rfl⟩
        rw [hx] at cs
        have csH := Lib.hid cs
        have hxH := Lib.hid hx
        clear h1 h2 hle cs hx hI1 hI2
        cases x with
        | true =>
          go_wp2_with fail
          go_quiet ((go_at_call 21; exact quiet_drew (csH.out _)))
          all_goals go_wp2_with fail
          all_goals exact ⟨⟨k + 1, by omega, by go_num, by rw [List.take_succ_eq_append_getElem hlt, List.take_succ_eq_append_getElem hlt2, htH.out, of_decide_eq_true hxH.out], drew_more hd _⟩, by simp [intOf]; omega⟩
        | false =>
          go_wp2_with fail
          go_quiet ((go_at_call 21; exact quiet_drew (csH.out _)))
          all_goals go_wp2_with fail
          all_goals go_ret
          all_goals exact ⟨ret_bool (decide_eq_false (fun e => of_decide_eq_false hxH.out (by simp only [e]))).symm, drew_more hd _⟩
      · clear hle
        have hk2 : ¬ k < l2.length := by have := hlH.out; omega
        go_wp2_with fail
        go_ret
        refine ⟨ret_bool (decide_eq_true ?_).symm, hd⟩
        have := htH.out
        rwa [List.take_of_length_le (by omega), List.take_of_length_le (by omega)] at this
  · go_enter Tryz.func16, Tryz.ntmps16
    have hb := int_ne hl
    go_wp2_with fail
    go_ret
    exact ⟨ret_bool (decide_eq_false (fun e => hl (by rw [e]))).symm, .refl _⟩
end Go.Proofs.YtgkddhakhapjlaaGreatDoor

/- The parts of a term with their paths, by where they begin. No program is named. -/
namespace Go.Proofs.YtgkddhakhapjlaaGreatDoor

/-- the k-th, (k+1)-th .. of the lists, each path with its number in front -/
def glue (k : Nat) : List (List (List Int × List Int)) → List (List Int × List Int)
  | [] => []
  | x :: r => x.map (fun e => ((k : Int) :: e.1, e.2)) ++ glue (k + 1) r
/-- paths and parts -/
def PL (s : Sg) : Nat → List Int → List (List Int × List Int)
  | 0, _ => []
  | f + 1, u => ([], u) :: glue 0 ((argsT s u).map (PL s f))

theorem glue_get : ∀ {M : List (List (List Int × List Int))} {k j i : Nat} (hj : j < M.length) (hi : i < M[j].length),
    (glue k M)[((M.take j).map List.length).sum + i]? = some ((((k + j : Nat) : Int)) :: M[j][i].1, M[j][i].2)
  | [], _, _, _, hj, _ => by simp at hj
  | x :: r, k, 0, i, hj, hi => by
    simp only [List.getElem_cons_zero] at hi
    rw [glue, List.take_zero, List.map_nil, List.sum_nil, Nat.zero_add, List.getElem?_append_left (by simpa using hi)]
    simp [hi]
  | x :: r, k, j + 1, i, hj, hi => by
    simp only [List.getElem_cons_succ, List.length_cons] at hi hj
    have ih := glue_get (M := r) (k := k + 1) (j := j) (i := i) (by omega) hi
    rw [glue, List.take_succ_cons, List.map_cons, List.sum_cons, List.getElem?_append_right (by simp; omega), List.length_map, show x.length + ((r.take j).map List.length).sum + i - x.length = ((r.take j).map List.length).sum + i by omega, ih]
    simp only [List.getElem_cons_succ]
    rw [show k + 1 + j = k + (j + 1) by omega]
theorem glue_len : ∀ (k : Nat) (M : List (List (List Int × List Int))), (glue k M).length = (M.map List.length).sum
  | _, [] => rfl
  | k, x :: r => by rw [glue, List.length_append, List.length_map, glue_len, List.map_cons, List.sum_cons]
/-- an index below a sum lies in one of the summands -/
theorem sum_find : ∀ {l : List Nat} {i : Nat} (_ : i < l.sum), ∃ j i', ∃ hj : j < l.length, i = (l.take j).sum + i' ∧ i' < l[j]
  | [], i, h => by simp at h
  | x :: r, i, h => by
    by_cases hx : i < x
    · exact ⟨0, i, by simp, by simp, by simpa using hx⟩
    · rw [List.sum_cons] at h
      obtain ⟨j, i', hj, e1, e2⟩ := sum_find (l := r) (i := i - x) (by omega)
      refine ⟨j + 1, i', by simp; exact hj, ?_, by simpa using e2⟩
      rw [List.take_succ_cons, List.sum_cons]; omega
theorem flatten_len_sum (M : List (List Int)) : M.flatten.length = (M.map List.length).sum := by
  induction M with
  | nil => rfl
  | cons x r ih => rw [List.flatten_cons, List.length_append, List.map_cons, List.sum_cons, ih]

theorem PL_spec (s : Sg) (t : List Int) : ∀ (f a : Nat) (rest : List Int), skip s 1 (t.drop a) = some rest → (partAt s (t.drop a)).length ≤ f →
    (PL s f (partAt s (t.drop a))).length = (partAt s (t.drop a)).length ∧ ∀ i (h : i < (PL s f (partAt s (t.drop a))).length), place s t (PL s f (partAt s (t.drop a)))[i].1 a = some (a + i) ∧ (PL s f (partAt s (t.drop a)))[i].2 = partAt s (t.drop (a + i)) ∧ ∃ r', skip s 1 (t.drop (a + i)) = some r'
  | 0, a, rest, h, hl => by have := (partAt_eq h).2.2; omega
  | f + 1, a, rest, h, hl => by
    have hso := step_ok h
    obtain ⟨-, e2, e3⟩ := partAt_eq h
    obtain ⟨n, x, hx, hc, hs⟩ := skip_pos (k := 0) e2
    rw [Nat.zero_add] at hs
    have hfl : (partAt s (t.drop a)).length = 1 + (argsT s (partAt s (t.drop a))).flatten.length := by
      have h1 := (splitK_spec s _ _ _ hs).2.1
      rw [List.append_nil] at h1
      have h2 : argsT s (partAt s (t.drop a)) = splitK s (ar s n) x := by rw [hx]; rfl
      rw [h2, h1, hx, List.length_cons]; omega
    obtain ⟨L, hL⟩ : ∃ L, argsT s (partAt s (t.drop a)) = L := ⟨_, rfl⟩
    rw [hL] at hfl
    simp only [hL] at hso
    have hkid : ∀ j (hj : j < L.length), ∃ z, stepTo s t a j = some z ∧ z = a + 1 + (L.take j).flatten.length ∧ (PL s f L[j]).length = L[j].length ∧ ∀ i (hi : i < (PL s f L[j]).length), place s t (PL s f L[j])[i].1 z = some (z + i) ∧ (PL s f L[j])[i].2 = partAt s (t.drop (z + i)) ∧ ∃ r', skip s 1 (t.drop (z + i)) = some r' := by
      intro j hj
      obtain ⟨z, r', h1, h2, h3, h4, -⟩ := hso j hj
      have hle : L[j].length ≤ L.flatten.length := len_flatten (List.getElem_mem hj)
      have ih := PL_spec s t f z r' h3 (by rw [h4]; omega)
      rw [h4] at ih
      exact ⟨z, h1, h2, ih.1, ih.2⟩
    have hlens : (L.map (PL s f)).map List.length = L.map List.length := by
      apply List.ext_getElem
      · simp
      · intro j h1 h2
        have hj : j < L.length := by simpa using h2
        obtain ⟨z, -, -, h5, -⟩ := hkid j hj
        simpa using h5
    have hPL : PL s (f + 1) (partAt s (t.drop a)) = ([], partAt s (t.drop a)) :: glue 0 (L.map (PL s f)) := by rw [PL, hL]
    have hlen : (PL s (f + 1) (partAt s (t.drop a))).length = (partAt s (t.drop a)).length := by
      rw [hPL, List.length_cons, glue_len, hlens, ← flatten_len_sum, hfl]; omega
    refine ⟨hlen, fun i hi => ?_⟩
    cases i with
    | zero =>
      simp only [hPL, List.getElem_cons_zero]
      exact ⟨rfl, rfl, rest, h⟩
    | succ i =>
      rw [hlen, hfl] at hi
      obtain ⟨j, i', hj, e5, e6⟩ := sum_find (l := L.map List.length) (i := i) (by rw [← flatten_len_sum]; omega)
      have hj' : j < L.length := by simpa using hj
      obtain ⟨z, h1, h2, h5, h6⟩ := hkid j hj'
      have e6' : i' < L[j].length := by simpa using e6
      have hg := glue_get (M := L.map (PL s f)) (k := 0) (j := j) (i := i') (by simpa using hj') (by simp only [List.getElem_map]; omega)
      have hsum : (((L.map (PL s f)).take j).map List.length).sum = ((L.map List.length).take j).sum := by rw [← hlens, List.map_take]
      rw [hsum, ← e5] at hg
      have hget : (PL s (f + 1) (partAt s (t.drop a)))[i + 1]? = some (((j : Nat) : Int) :: (PL s f L[j])[i'].1, (PL s f L[j])[i'].2) := by
        rw [hPL, List.getElem?_cons_succ, hg]
        simp only [List.getElem_map, Nat.zero_add]
      have hsum2 : (L.take j).flatten.length = ((L.map List.length).take j).sum := by rw [flatten_len_sum, List.map_take]
      have hzi : z + i' = a + (i + 1) := by omega
      obtain ⟨g1, g2, g3⟩ := h6 i' (by omega)
      rw [hzi] at g1 g2 g3
      have hgg : ∀ (hh : i + 1 < (PL s (f + 1) (partAt s (t.drop a))).length), (PL s (f + 1) (partAt s (t.drop a)))[i + 1] = (((j : Nat) : Int) :: (PL s f L[j])[i'].1, (PL s f L[j])[i'].2) := by
        intro hh
        rw [List.getElem?_eq_getElem hh] at hget
        exact Option.some.inj hget
      rw [hgg]
      refine ⟨?_, g2, g3⟩
      show place s t (((j : Nat) : Int) :: (PL s f L[j])[i'].1) a = some (a + (i + 1))
      rw [place, h1]; exact g1
end Go.Proofs.YtgkddhakhapjlaaGreatDoor

/- Paths are fixed by where they lead. No program is named. -/
namespace Go.Proofs.YtgkddhakhapjlaaGreatDoor

theorem place_bound {s : Sg} {t : List Int} : ∀ {q : List Int} {a j : Nat} {rest : List Int} (_ : skip s 1 (t.drop a) = some rest) (_ : place s t q a = some j), a ≤ j ∧ j < t.length - rest.length
  | [], a, j, rest, h, hp => by
    simp only [place, Option.some.injEq] at hp
    subst hp
    obtain ⟨-, -, g3, -⟩ := endOf_some s t a rest h
    exact ⟨Nat.le_refl _, g3⟩
  | k :: ks, a, j, rest, h, hp => by
    rw [place] at hp
    cases hy : stepTo s t a k with
    | none => rw [hy] at hp; cases hp
    | some y =>
      rw [hy, Option.bind_some] at hp
      obtain ⟨n, rfl, hn, h1, h2, h3, ry, h4, h5⟩ := step_skip h hy
      have ih := place_bound h4 hp
      have := skip_len _ _ _ _ h5
      omega
theorem step_order {s : Sg} {t : List Int} {a : Nat} {rest : List Int} (h : skip s 1 (t.drop a) = some rest) {k k' : Int} {y y' : Nat} (hy : stepTo s t a k = some y) (hy' : stepTo s t a k' = some y') (hlt : k < k') {ry : List Int} (hr : skip s 1 (t.drop y) = some ry) : t.length - ry.length ≤ y' := by
  obtain ⟨n, rfl, hn, h1, h2, h3, r1, h4, h5⟩ := step_skip h hy
  obtain ⟨n', rfl, hn', g1, g2, g3, r2, g4, g5⟩ := step_skip h hy'
  obtain ⟨d, rfl⟩ : ∃ d, n' = n + (1 + d) := ⟨n' - n - 1, by omega⟩
  rw [skip_add, h1, Option.bind_some, skip_add, hr, Option.bind_some] at g1
  have := skip_len _ _ _ _ g1
  rw [List.length_drop] at this
  omega
theorem place_inj {s : Sg} {t : List Int} : ∀ {q q' : List Int} {a j : Nat} {rest : List Int} (_ : skip s 1 (t.drop a) = some rest) (_ : place s t q a = some j) (_ : place s t q' a = some j), q = q'
  | [], [], _, _, _, _, _, _ => rfl
  | [], k :: ks, a, j, rest, h, hp, hp' => by
    simp only [place, Option.some.injEq] at hp
    subst hp
    rw [place] at hp'
    cases hy : stepTo s t a k with
    | none => rw [hy] at hp'; cases hp'
    | some y =>
      rw [hy, Option.bind_some] at hp'
      obtain ⟨n, rfl, hn, h1, h2, h3, ry, h4, h5⟩ := step_skip h hy
      have := (place_bound h4 hp').1
      omega
  | k :: ks, [], a, j, rest, h, hp, hp' => by
    simp only [place, Option.some.injEq] at hp'
    subst hp'
    rw [place] at hp
    cases hy : stepTo s t a k with
    | none => rw [hy] at hp; cases hp
    | some y =>
      rw [hy, Option.bind_some] at hp
      obtain ⟨n, rfl, hn, h1, h2, h3, ry, h4, h5⟩ := step_skip h hy
      have := (place_bound h4 hp).1
      omega
  | k :: ks, k' :: ks', a, j, rest, h, hp, hp' => by
    rw [place] at hp hp'
    cases hy : stepTo s t a k with
    | none => rw [hy] at hp; cases hp
    | some y =>
      cases hy' : stepTo s t a k' with
      | none => rw [hy'] at hp'; cases hp'
      | some y' =>
        rw [hy, Option.bind_some] at hp
        rw [hy', Option.bind_some] at hp'
        obtain ⟨-, -, -, -, -, -, ry, h4, -⟩ := step_skip h hy
        obtain ⟨-, -, -, -, -, -, ry', h4', -⟩ := step_skip h hy'
        have b1 := place_bound h4 hp
        have b2 := place_bound h4' hp'
        rcases Int.lt_trichotomy k k' with hk | hk | hk
        · have := step_order h hy hy' hk h4; omega
        · subst hk
          rw [hy] at hy'
          obtain rfl := Option.some.inj hy'
          rw [place_inj h4 hp hp']
        · have := step_order h hy' hy hk h4'; omega
theorem place_append {s : Sg} {t : List Int} : ∀ (q : List Int) (k : Int) (a : Nat), place s t (q ++ [k]) a = (place s t q a).bind (fun p => stepTo s t p k)
  | [], k, a => by
    simp only [List.nil_append, place, Option.bind_some]
    cases stepTo s t a k <;> rfl
  | x :: q, k, a => by
    rw [List.cons_append, place, place]
    cases stepTo s t a x with
    | none => rfl
    | some y => rw [Option.bind_some, Option.bind_some]; exact place_append q k y
theorem snoc_cases (q : List Int) (h : q ≠ []) : ∃ q0 k, q = q0 ++ [k] := ⟨q.dropLast, q.getLast h, (List.dropLast_concat_getLast h).symm⟩
/-- each place but the first is an argument of one before it -/
theorem place_parent {s : Sg} {t q : List Int} {j : Nat} (h : place s t q 0 = some j) (hj : 0 < j) : ∃ q0 k p, q = q0 ++ [k] ∧ place s t q0 0 = some p ∧ stepTo s t p k = some j := by
  have hq : q ≠ [] := by
    intro e; subst e
    simp only [place, Option.some.injEq] at h
    omega
  obtain ⟨q0, k, rfl⟩ := snoc_cases q hq
  rw [place_append] at h
  cases hp : place s t q0 0 with
  | none => rw [hp] at h; cases h
  | some p => rw [hp, Option.bind_some] at h; exact ⟨q0, k, p, rfl, hp, h⟩
/-- the path to a place -/
def way (s : Sg) (t : List Int) (j : Nat) : List Int := (((PL s t.length t)[j]?).getD ([], [])).1
theorem way_place {s : Sg} {t : List Int} (h : okT s t = true) : (PL s t.length t).length = t.length ∧ ∀ j, j < t.length → place s t (way s t j) 0 = some j ∧ (∃ hj : j < (PL s t.length t).length, (PL s t.length t)[j] = (way s t j, partAt s (t.drop j))) ∧ ∃ r, skip s 1 (t.drop j) = some r := by
  have hp := PL_spec s t t.length 0 [] (okT_skip0 h) (by rw [partAt_all h]; exact Nat.le_refl _)
  rw [partAt_all h] at hp
  refine ⟨hp.1, fun j hj => ?_⟩
  have hj' : j < (PL s t.length t).length := by omega
  obtain ⟨g1, g2, g3⟩ := hp.2 j hj'
  rw [Nat.zero_add] at g1 g2 g3
  have hw : way s t j = (PL s t.length t)[j].1 := by unfold way; rw [List.getElem?_eq_getElem hj']; rfl
  exact ⟨by rw [hw]; exact g1, ⟨hj', Prod.ext hw.symm g2⟩, g3⟩
theorem way_zero {s : Sg} {t : List Int} (h : okT s t = true) : way s t 0 = [] := by
  have hl := (okT_parts h).2.1
  exact place_inj (okT_skip0 h) ((way_place h).2 0 (by omega)).1 rfl
theorem way_step {s : Sg} {t : List Int} (h : okT s t = true) {p j : Nat} {k : Int} (hp : p < t.length) (hs : stepTo s t p k = some j) : j < t.length ∧ p < j ∧ way s t j = way s t p ++ [k] := by
  obtain ⟨g1, -, r, g3⟩ := (way_place h).2 p hp
  obtain ⟨n, rfl, hn, h1, h2, h3, ry, h4, h5⟩ := step_skip g3 hs
  have hl := skip_len _ _ _ _ h4
  rw [List.length_drop] at hl
  have hj : j < t.length := by omega
  refine ⟨hj, h2, place_inj (okT_skip0 h) ((way_place h).2 j hj).1 ?_⟩
  rw [place_append, g1]; exact hs
/-- the parts that are equal to a term: their paths -/
def pathsT (s : Sg) (t v : List Int) : List (List Int) := ((PL s t.length t).filter (fun e => decide (e.2 = v))).map (·.1)
def pathsE (s : Sg) (t v : List Int) : List (List Int) × Int := if okT s t = true ∧ okT s v = true then (pathsT s t v, 0) else ([], 1)
theorem pathsT_at {s : Sg} {t v : List Int} (h : okT s t = true) : ∀ q ∈ pathsT s t v, atE s t q = (v, 0) := by
  intro q hq
  obtain ⟨e, he, rfl⟩ := List.mem_map.1 hq
  rw [List.mem_filter, decide_eq_true_eq] at he
  obtain ⟨he, hv⟩ := he
  obtain ⟨j, hj, rfl⟩ := List.getElem_of_mem he
  obtain ⟨hl, hw⟩ := way_place h
  obtain ⟨g1, ⟨hj', g2⟩, -⟩ := hw j (by omega)
  rw [g2] at hv ⊢
  rw [atE_some h g1]
  simpa using hv
end Go.Proofs.YtgkddhakhapjlaaGreatDoor

/- Walks: lists of paths. -/
namespace Go.Proofs.YtgkddhakhapjlaaGreatDoor
open Go Go.RowKit Go.Maps

abbrev OwnPs (S : Nat → Prop) (w : World) (base : Nat) (v : Value) (l : List (List Int)) : Prop := OwnL (slE intE) S w base 33 v l
theorem infoPath : (Tryz.prog.info? 33).map (fun i => (i.zero, i.size, i.bytes)) = some (some (.slice none 0 0), 1, 24) := by kernel_rfl
section
variable {S : Nat → Prop} {w : World} {base g n cap : Nat} {l : List (List Int)}
theorem OwnPs.ones {xs : List (List Value)} {T : Nat → Prop} (hl : xs.length = l.length) (hx : ∀ i (h1 : i < xs.length) (h2 : i < l.length), (slE intE).R T w xs[i] l[i]) : ∀ x ∈ xs, x.length = 1 := by
  intro x hxm
  obtain ⟨i, hi, rfl⟩ := List.getElem_of_mem hxm
  exact (slE intE).len (hx i hi (by omega))
theorem OwnPs.cell (h : OwnPs S w base (.slice (some ⟨g, 0, none⟩) n cap) l) (hn : n = l.length) (i : Nat) (hi : i < l.length) :
    ∃ a c, w.cell? ⟨g, i, none⟩ = some (.slice a l[i].length c) ∧ Ints (Off S (.slice (some ⟨g, 0, none⟩) n cap)) w a c l[i] ∧ w.frozen? ⟨g, i, none⟩ = false := by
  subst hn
  obtain ⟨xs, ho, hl, hx⟩ := h
  have hi' : i < xs.length := by omega
  obtain ⟨a, c, he, hI⟩ := hx i hi' hi
  have h1 := OwnPs.ones hl hx
  refine ⟨a, c, ?_, hI, ho.frozenAt i⟩
  rw [ho.cellAt i (by show i < l.length * 1; omega)]
  have := flatten_get h1 i hi' 0 (by rw [he]; simp)
  rw [Nat.mul_one, Nat.add_zero] at this
  rw [this]; simp [he]
theorem OwnPs.set (h : OwnPs S w base (.slice (some ⟨g, 0, none⟩) n cap) l) (hn : n = l.length) (i : Nat) {a : Option Addr} {c : Nat} {u : List Int} (hu : Ints (Off S (.slice (some ⟨g, 0, none⟩) n cap)) w a c u) :
    OwnPs S (w.setCell ⟨g, i, none⟩ (.slice a u.length c)) base (.slice (some ⟨g, 0, none⟩) n cap) (l.set i u) ∧ w.grownBy (w.setCell ⟨g, i, none⟩ (.slice a u.length c)) (some g) := by
  subst hn
  obtain ⟨xs, ho, hl, hx⟩ := h
  have h1 := OwnPs.ones hl hx
  obtain ⟨r1, r2⟩ := ho.stored i (.slice a u.length c)
  have hA : Agree (Off S (.slice (some ⟨g, 0, none⟩) l.length cap)) w (w.setCell ⟨g, i, none⟩ (.slice a u.length c)) := .of_grown r2 (fun b hb e => hb.2 (by rw [e]; rfl))
  refine ⟨⟨xs.set i [.slice a u.length c], by rw [List.length_set, flatten_set1 h1]; exact r1, by simp [hl], fun j h1 h2 => ?_⟩, r2⟩
  by_cases hj : i = j
  · subst hj
    simp only [List.getElem_set_self]
    exact (slE intE).mono (w := w) (S := Off S (.slice (some ⟨g, 0, none⟩) l.length cap)) ⟨a, c, rfl, hu⟩ (fun _ _ h => h) hA
  · rw [List.getElem_set_ne hj, List.getElem_set_ne hj]
    exact (slE intE).mono (hx j (by simpa using h1) (by simpa using h2)) (fun _ _ h => h) hA
end

end Go.Proofs.YtgkddhakhapjlaaGreatDoor

/- Walks: Counts, of both; Vars of the reference; slices.Contains. -/
namespace Go.Proofs.YtgkddhakhapjlaaGreatDoor
open Go Go.RowKit Go.Maps

def varsE (s : Sg) (t : List Int) : List Int × Int := errE s t (varsV t)
/-! ### Counts -/
def cntL (n : Nat) (t : List Int) : List Int := (List.range n).map (fun (j : Nat) => ((t.count ((j : Nat) : Int) : Nat) : Int))
theorem cntL_length (n : Nat) (t : List Int) : (cntL n t).length = n := by simp [cntL]
theorem cntL_nil (n : Nat) : cntL n [] = List.replicate n 0 := by
  apply List.ext_getElem
  · simp [cntL]
  · intro i h1 h2; simp [cntL]
theorem cntL_get {n k : Nat} {t : List Int} (h : k < n) : (cntL n t)[k]'(by rw [cntL_length]; exact h) = ((t.count (k : Int) : Nat) : Int) := by simp [cntL]
theorem cntL_pos {n x k : Nat} {t : List Int} (hk : k < t.length) (hx : t[k] = (x : Int)) (_hn : x < n) : (cntL n (t.take k)).set x (((t.take k).count (x : Int) : Nat) + 1) = cntL n (t.take (k + 1)) := by
  rw [List.take_succ_eq_append_getElem hk]
  apply List.ext_getElem
  · simp [cntL]
  · intro i h1 h2
    rw [List.length_set, cntL_length] at h1
    rw [List.getElem_set, cntL_get h1, cntL_get h1]
    by_cases hi : x = i
    · subst hi
      rw [if_pos rfl, List.count_append, hx]; simp
    · rw [if_neg hi, List.count_append, hx]
      have : ([(x : Int)] : List Int).count (i : Int) = 0 := by rw [List.count_eq_zero]; simp; omega
      rw [this]; simp
theorem cntL_neg {n k : Nat} {t : List Int} (hk : k < t.length) (hx : t[k] < 0) : cntL n (t.take (k + 1)) = cntL n (t.take k) := by
  rw [List.take_succ_eq_append_getElem hk]
  apply List.ext_getElem
  · simp [cntL]
  · intro i h1 h2
    rw [cntL_length] at h1
    rw [cntL_get h1, cntL_get h1, List.count_append]
    have : ([t[k]] : List Int).count (i : Int) = 0 := by rw [List.count_eq_zero]; simp; omega
    rw [this]; simp
theorem okT_codes {s : Sg} {t : List Int} (h : okT s t = true) : ∀ x ∈ t, x < 0 ∨ (0 ≤ x ∧ x < s.length) := by
  intro x hx
  have := skip_codes s 1 t (okT_parts h).2.2.2 x hx
  simp [codeOk] at this
  omega
def cntE (s : Sg) (t : List Int) : List Int × Int := errE s t (cntL s.length t)
def cntRel (n : Nat) (t : List Int) (w : World) (B g cap : Nat) (i : Value) (wr : World) : Prop := ∃ k : Nat, i = .int .i64 k ∧ k ≤ t.length ∧ OwnI wr B (.slice (some ⟨g, 0, none⟩) n cap) (cntL n (t.take k)) ∧ Below B w wr
theorem makeZeros {W : World} (n : Nat) (hn : n ≤ 100) : (Instr.makeSlice 33 (.int .i64 (n : Int)) (.int .i64 (n : Int))).run Tryz.prog W = .ok (.slice (some ⟨W.heap.size, 0, none⟩) n n) (W.alloc (.cells (Array.replicate n (.int .i64 0)) 3)) := by
  obtain ⟨i, hi, hz0, hz1, hz2⟩ := info_parts infoInt
  have := run_make (P := Tryz.prog) W 33 3 i (.int .i64 0) Tryz.underlying33 hi hz0 .i64 .i64 n n (by omega) (by omega) (by rw [hz2]; omega) (by omega)
  rw [this, hz1, Int.toNat_natCast, Nat.mul_one]
  have hm : madeCells (Value.int .i64 0).cells n = Array.replicate n (.int .i64 0) := by
    apply Array.ext
    · simp [madeCells]
    · intro i h1 h2; simp [madeCells, Value.cells, Nat.mod_one]
  rw [hm]
end Go.Proofs.YtgkddhakhapjlaaGreatDoor

/- Walks: Ways, Paths of the reference. -/
namespace Go.Proofs.YtgkddhakhapjlaaGreatDoor
open Go Go.RowKit Go.Maps

noncomputable abbrev runApp (x y : Value) (w : World) : Result Value := (Builtin.append_ #[33, 33] 33 #[x, y]).run Tryz.prog w
theorem app24 {S2 : Nat → Prop} {w : World} {base : Nat} {v : Value} {l l2 : List Int} {a : Option Addr} {c : Nat} (ho : OwnI w base v l) (h2 : Ints S2 w a c l2) (hl : l.length + l2.length ≤ 10000000) (hb : base ≤ w.heap.size) :
    ∃ v' w', runApp v (.slice a l2.length c) w = .ok v' w' ∧ OwnI w' base v' (l ++ l2) ∧ w.grownBy w' v.ownBlock ∧ Below base w w' := by
  obtain ⟨v', w', hrun, ho', hg, -, -⟩ := ho.append_run (P := Tryz.prog) (t := 33) (ty := 33) Tryz.underlying33 infoInt rfl h2 (fun _ _ _ h => h) (by omega) (by unfold big; omega) hb
  exact ⟨v', w', hrun, ho', hg, (Below.refl _ _).grown hg hb (fun k e => (ho.lt k e).1)⟩
theorem lit1 {w : World} (m : Int) (hm : inRange m) : Ints (fun b => b = w.heap.size) (w.alloc (.cells #[.int .i64 m] 3)) (some ⟨w.heap.size, 0, none⟩) 1 [m] := by
  have := Sl.new (E := intE) (S := fun _ => False) w [[.int .i64 m]] [m] 3 rfl (by unfold big; simp) (fun i g1 g2 => by
    match i, g1 with
    | 0, _ => exact ⟨rfl, hm⟩)
  exact this.weak (fun b h => h.resolve_left (fun h => h))
theorem lit0 {w : World} (base : Nat) (hb : base ≤ w.heap.size) : OwnI (w.alloc (.cells #[] 3)) base (.slice (some ⟨w.heap.size, 0, none⟩) 0 0) [] := OwnL.made intE _ w base 3 hb
/-- the three orders in which a path with one number more is made -/
theorem ways3 {T : Nat → Prop} {w : World} {a : Option Addr} {c : Nat} {u : List Int} (hu : Ints T w a c u) (m : Int) (hm : inRange m) (hl : u.length ≤ 1000) :
    (∃ x1 w2 x2 w4, RowKit.Hid (Below w.heap.size w w2) ∧ RowKit.Hid (runApp (.slice (some ⟨w.heap.size, 0, none⟩) 0 0) (.slice a u.length c) (w.alloc (.cells #[] 3)) = .ok x1 w2) ∧ RowKit.Hid (runApp x1 (.slice (some ⟨w2.heap.size, 0, none⟩) 1 1) (w2.alloc (.cells #[.int .i64 m] 3)) = .ok x2 w4) ∧ RowKit.Hid (OwnI w4 w.heap.size x2 (u ++ [m])) ∧ RowKit.Hid (Below w.heap.size w w4)) ∧
    (∃ x1 w3 x2 w4, RowKit.Hid (Below w.heap.size w w3) ∧ RowKit.Hid (runApp (.slice (some ⟨w.heap.size, 0, none⟩) 0 0) (.slice a u.length c) ((w.alloc (.cells #[] 3)).alloc (.cells #[.int .i64 m] 3)) = .ok x1 w3) ∧ RowKit.Hid (runApp x1 (.slice (some ⟨w.heap.size + 1, 0, none⟩) 1 1) w3 = .ok x2 w4) ∧ RowKit.Hid (OwnI w4 w.heap.size x2 (u ++ [m])) ∧ RowKit.Hid (Below w.heap.size w w4)) ∧
    (∃ x1 w3 x2 w4, RowKit.Hid (Below w.heap.size w w3) ∧ RowKit.Hid (runApp (.slice (some ⟨w.heap.size + 1, 0, none⟩) 0 0) (.slice a u.length c) ((w.alloc (.cells #[.int .i64 m] 3)).alloc (.cells #[] 3)) = .ok x1 w3) ∧ RowKit.Hid (runApp x1 (.slice (some ⟨w.heap.size, 0, none⟩) 1 1) w3 = .ok x2 w4) ∧ RowKit.Hid (OwnI w4 w.heap.size x2 (u ++ [m])) ∧ RowKit.Hid (Below w.heap.size w w4)) := by
  refine ⟨?_, ?_, ?_⟩
  · have hb0 := below1 w (.cells #[] 3)
    obtain ⟨x1, w2, r1, o1, -, b1⟩ := app24 (lit0 (w := w) w.heap.size (Nat.le_refl _)) (hu.below hb0) (by simp; omega) hb0.size
    have B1 := hb0.trans b1
    have hb2 := below1 w2 (.cells #[.int .i64 m] 3)
    obtain ⟨x2, w4, r2, o2, -, b2⟩ := app24 (o1.call hb2) (lit1 m hm) (by simp; omega) (by have := B1.size; simp; omega)
    exact ⟨x1, w2, x2, w4, Lib.hid B1, Lib.hid r1, Lib.hid r2, Lib.hid (by simpa using o2), Lib.hid ((B1.trans (hb2.mono B1.size)).trans b2)⟩
  · have hb0 := below2 w (.cells #[] 3) (.cells #[.int .i64 m] 3)
    have hI := lit1 (w := w.alloc (.cells #[] 3)) m hm
    obtain ⟨x1, w3, r1, o1, g1, b1⟩ := app24 ((lit0 (w := w) w.heap.size (Nat.le_refl _)).call (below1 _ (.cells #[.int .i64 m] 3))) (hu.below hb0) (by simp; omega) hb0.size
    have B1 := hb0.trans b1
    have hI3 := hI.same (.of_grown g1 (fun b hb e => by simp [Value.ownBlock] at e hb; omega))
    obtain ⟨x2, w4, r2, o2, -, b2⟩ := app24 o1 hI3 (by simp; omega) B1.size
    rw [World.size_alloc] at r2
    exact ⟨x1, w3, x2, w4, Lib.hid B1, Lib.hid r1, Lib.hid r2, Lib.hid (by simpa using o2), Lib.hid (B1.trans b2)⟩
  · have hb0 := below2 w (.cells #[.int .i64 m] 3) (.cells #[] 3)
    have hI := (lit1 (w := w) m hm).below (below1 _ (.cells #[] 3))
    have o0 := lit0 (w := w.alloc (.cells #[.int .i64 m] 3)) w.heap.size (by simp)
    rw [World.size_alloc] at o0
    obtain ⟨x1, w3, r1, o1, g1, b1⟩ := app24 o0 (hu.below hb0) (by simp; omega) hb0.size
    have B1 := hb0.trans b1
    have hI3 := hI.same (.of_grown g1 (fun b hb e => by simp [Value.ownBlock] at e hb; omega))
    obtain ⟨x2, w4, r2, o2, -, b2⟩ := app24 o1 hI3 (by simp; omega) B1.size
    exact ⟨x1, w3, x2, w4, Lib.hid B1, Lib.hid r1, Lib.hid r2, Lib.hid (by simpa using o2), Lib.hid (B1.trans b2)⟩

section
variable {P : Program} {Q : Exit → Act → World → Prop} {md : Region.Mode} {S : World → Prop} {l : List Oper} {listed : Array Bool} {fuel : Nat} {a : Act} {w : World}
/-- two operations either of which may come up -/
theorem region_two (i j : Nat) {o o' : Oper} (hi : l[i]? = some o) (hj : l[j]? = some o') (hr : Region.ready md l.toArray listed = [i, j])
    (h : ∀ K' : Act → World → Prop, Shut (∀ a w, S w → (S w → wpAnyH P md l.toArray Q S fuel (listed.setIfInBounds i true) a w) → K' a w) → if Region.wanted o (yielded l.toArray a.tmps) = true then Oper.wp P o a w K' Q else K' (a.put o.dst undef) w)
    (h' : ∀ K' : Act → World → Prop, Shut (∀ a w, S w → (S w → wpAnyH P md l.toArray Q S fuel (listed.setIfInBounds j true) a w) → K' a w) → if Region.wanted o' (yielded l.toArray a.tmps) = true then Oper.wp P o' a w K' Q else K' (a.put o'.dst undef) w) :
    wpAnyH P md l.toArray Q S (fuel + 1) listed a w :=
  wpAnyH_ready hr (by simp) (AllReadyH.cons (by simpa using hi) h (AllReadyH.cons (by simpa using hj) h' AllReadyH.nil))
end

theorem ite_yes {c : Prop} [Decidable c] {p q : Prop} (h : c) (hp : p) : if c then p else q := by rw [if_pos h]; exact hp
theorem place_len {s : Sg} {t : List Int} : ∀ {q : List Int} {a j : Nat} {rest : List Int} (_ : skip s 1 (t.drop a) = some rest) (_ : place s t q a = some j), a + q.length ≤ j
  | [], a, j, rest, h, hp => by
    simp only [place, Option.some.injEq] at hp
    simp; omega
  | k :: ks, a, j, rest, h, hp => by
    rw [place] at hp
    cases hy : stepTo s t a k with
    | none => rw [hy] at hp; cases hp
    | some y =>
      rw [hy, Option.bind_some] at hp
      obtain ⟨n, rfl, hn, h1, h2, h3, ry, h4, h5⟩ := step_skip h hy
      have ih := place_len h4 hp
      rw [List.length_cons]; omega
def waysOk (s : Sg) (t : List Int) (at_ m : Nat) (L : List (List Int)) : Prop :=
  L.length = t.length ∧ ∀ j (hj : j < L.length), (j = 0 ∨ (∃ (p : Nat) (k : Int), p < at_ ∧ stepTo s t p k = some j) ∨ (∃ k : Nat, k < m ∧ stepTo s t at_ k = some j)) → L[j] = way s t j
theorem waysOk_start {s : Sg} {t : List Int} (h : okT s t = true) : waysOk s t 0 0 (List.replicate t.length []) := by
  refine ⟨by simp, fun j hj hc => ?_⟩
  rcases hc with rfl | ⟨p, k, hp, -⟩ | ⟨k, hk, -⟩
  · simp [way_zero h]
  · omega
  · omega
theorem waysOk_next {s : Sg} {t : List Int} {LL : List (List Int)} {at_ M : Nat} (h : waysOk s t at_ M LL) {r : List Int} (hs : skip s 1 (t.drop at_) = some r) (hM : ar s (t.getD at_ 0) = M) : waysOk s t (at_ + 1) 0 LL := by
  refine ⟨h.1, fun j hj hc => h.2 j hj ?_⟩
  rcases hc with rfl | ⟨p, k, hp, hk⟩ | ⟨k, hk, -⟩
  · exact .inl rfl
  · by_cases hp2 : p < at_
    · exact .inr (.inl ⟨p, k, hp2, hk⟩)
    · obtain rfl : p = at_ := by omega
      obtain ⟨n, rfl, hn, -⟩ := step_skip hs hk
      exact .inr (.inr ⟨n, by omega, hk⟩)
  · omega
theorem waysOk_at {s : Sg} {t : List Int} (h : okT s t = true) {LL : List (List Int)} {at_ m : Nat} (ho : waysOk s t at_ m LL) (ha : at_ < LL.length) : LL[at_] = way s t at_ := by
  have hl : at_ < t.length := by rw [← ho.1]; exact ha
  refine ho.2 at_ ha ?_
  rcases Nat.eq_zero_or_pos at_ with h0 | h0
  · exact .inl h0
  · obtain ⟨q0, k, p, -, hp, hk⟩ := place_parent ((way_place h).2 at_ hl).1 h0
    have hpb := place_bound (okT_skip0 h) hp
    obtain ⟨-, hlt, -⟩ := way_step h (by omega) hk
    exact .inr (.inl ⟨p, k, hlt, hk⟩)
theorem waysOk_set {s : Sg} {t : List Int} (h : okT s t = true) {LL : List (List Int)} {at_ m y : Nat} (ho : waysOk s t at_ m LL) (ha : at_ < t.length) (hy : stepTo s t at_ m = some y) : waysOk s t at_ (m + 1) (LL.set y (way s t at_ ++ [(m : Int)])) := by
  refine ⟨by rw [List.length_set]; exact ho.1, fun j hj hc => ?_⟩
  rw [List.length_set] at hj
  rw [List.getElem_set]
  by_cases hjy : y = j
  · subst hjy
    rw [if_pos rfl, (way_step h ha hy).2.2]
  · rw [if_neg hjy]
    refine ho.2 j hj ?_
    rcases hc with h1 | h1 | ⟨k, hk, h1⟩
    · exact .inl h1
    · exact .inr (.inl h1)
    · by_cases hkm : k = m
      · subst hkm; rw [hy] at h1; exact (hjy (Option.some.inj h1)).elim
      · exact .inr (.inr ⟨k, by omega, h1⟩)
def wayRel1 (s : Sg) (t : List Int) (w : World) (B g : Nat) (i : Value) (wr : World) : Prop :=
  ∃ (at_ : Nat) (L : List (List Int)), i = .int .i64 at_ ∧ at_ ≤ t.length ∧ waysOk s t at_ 0 L ∧ OwnPs (fun _ => True) wr B (.slice (some ⟨g, 0, none⟩) t.length t.length) L ∧ Below B w wr
def wayRel2 (s : Sg) (t : List Int) (w : World) (B g at_ M : Nat) (a4 : Option Addr) (c4 : Nat) (P : List Int) (i : Value) (wr : World) : Prop :=
  ∃ (m : Nat) (L : List (List Int)), i = .int .i64 m ∧ m ≤ M ∧ waysOk s t at_ m L ∧ OwnPs (fun _ => True) wr B (.slice (some ⟨g, 0, none⟩) t.length t.length) L ∧ Below B w wr ∧ Ints (fun b => g < b) wr a4 c4 P
end Go.Proofs.YtgkddhakhapjlaaGreatDoor

/- Walks: At, of both; lists of terms alike; all valid. -/
namespace Go.Proofs.YtgkddhakhapjlaaGreatDoor
open Go Go.RowKit Go.Maps

def spanV (s : Sg) (t p : List Int) : Value := match place s t p 0 with
  | some z => .tuple #[.int .i64 z, .int .i64 (z + (partAt s (t.drop z)).length : Nat), .bool true]
  | none => .tuple #[.int .i64 0, .int .i64 0, .bool false]
def spanRel (s : Sg) (t p : List Int) (w : World) (fr to i : Value) (wr : World) : Prop :=
  ∃ (j a : Nat) (rest : List Int), i = .int .i64 j ∧ fr = .int .i64 a ∧ to = .int .i64 (t.length - rest.length : Nat) ∧ j ≤ p.length ∧ skip s 1 (t.drop a) = some rest ∧ place s t (p.drop j) a = place s t p 0 ∧ Below w.heap.size w wr
def sumRel (L : List (List Int)) (a k : Nat) (w1 : World) (fr i : Value) (wr : World) : Prop :=
  ∃ q : Nat, i = .int .i64 q ∧ q ≤ k ∧ fr = .int .i64 (a + 1 + (L.take q).flatten.length : Nat) ∧ wr = w1
theorem len_take_flatten {L : List (List Int)} {q : Nat} : (L.take q).flatten.length ≤ L.flatten.length := by
  have : L.flatten.length = (L.take q).flatten.length + (L.drop q).flatten.length := by rw [← List.length_append, ← List.flatten_append, List.take_append_drop]
  omega
theorem take_flatten_succ {L : List (List Int)} {q : Nat} (h : q < L.length) : (L.take (q + 1)).flatten.length = (L.take q).flatten.length + L[q].length := by
  rw [List.take_succ_eq_append_getElem h, List.flatten_append, List.length_append]; simp
end Go.Proofs.YtgkddhakhapjlaaGreatDoor

/- Walks: Vars: a range over a function. -/
namespace Go.Proofs.YtgkddhakhapjlaaGreatDoor
open Go Go.RowKit Go.Shelf

attribute [local go_sem] Oper.semAt_some

abbrev I64 := { x : Int // inRange x }
/-- the variables of a list as they come -/
def yl (t : List Int) : List Int := (t.filter (fun x => decide (x < 0))).map vnum
theorem yl_neg {t : List Int} {k : Nat} (hk : k < t.length) (hx : t[k] < 0) : yl (t.take (k + 1)) = yl (t.take k) ++ [vnum t[k]] := by
  rw [List.take_succ_eq_append_getElem hk]
  unfold yl
  rw [List.filter_append, List.map_append, List.filter_cons_of_pos (by simpa using hx)]; rfl
theorem yl_pos {t : List Int} {k : Nat} (hk : k < t.length) (hx : ¬ t[k] < 0) : yl (t.take (k + 1)) = yl (t.take k) := by
  rw [List.take_succ_eq_append_getElem hk]
  unfold yl
  rw [List.filter_append, List.map_append, List.filter_cons_of_neg (by simpa using hx)]; simp
theorem yl_len (t : List Int) : (yl t).length ≤ t.length := by unfold yl; rw [List.length_map]; exact List.length_filter_le _ _

/-- each number once -/
def ddA (acc : List Int) (x : Int) : List Int := if x ∈ acc then acc else acc ++ [x]
def ddp (l : List I64) : List Int := (l.map (·.1)).foldl ddA []
theorem ddp_snoc (l : List I64) (x : I64) : ddp (l ++ [x]) = ddA (ddp l) x.1 := by simp [ddp]
theorem ddA_len (acc : List Int) (x : Int) : (ddA acc x).length ≤ acc.length + 1 := by unfold ddA; split <;> simp
theorem ddp_len (l : List I64) : (ddp l).length ≤ l.length := by
  have : ∀ (m : List Int) (acc : List Int), (m.foldl ddA acc).length ≤ acc.length + m.length := by
    intro m
    induction m with
    | nil => intro acc; simp
    | cons x r ih => intro acc; rw [List.foldl_cons]; have := ih (ddA acc x); have := ddA_len acc x; simp; omega
  have := this (l.map (·.1)) []
  simpa [ddp] using this
theorem foldl_yl : ∀ (t : List Int) (acc : List Int), (yl t).foldl ddA (acc.map vnum) = (t.foldl addV acc).map vnum
  | [], acc => rfl
  | x :: r, acc => by
    by_cases hx : x < 0
    · have h1 : yl (x :: r) = vnum x :: yl r := by unfold yl; rw [List.filter_cons_of_pos (by simpa using hx)]; rfl
      rw [h1, List.foldl_cons, List.foldl_cons]
      have h2 : ddA (acc.map vnum) (vnum x) = (addV acc x).map vnum := by
        unfold ddA addV
        by_cases hm : x ∈ acc
        · rw [if_pos (mem_map_vnum.2 hm), if_neg (fun e => e.2 hm)]
        · rw [if_neg (fun e => hm (mem_map_vnum.1 e)), if_pos ⟨hx, hm⟩, List.map_append]; rfl
      rw [h2]; exact foldl_yl r _
    · have h1 : yl (x :: r) = yl r := by unfold yl; rw [List.filter_cons_of_neg (by simpa using hx)]
      have h2 : addV acc x = acc := by unfold addV; rw [if_neg (fun e => hx e.1)]
      rw [h1, List.foldl_cons, h2]; exact foldl_yl r _
theorem ddp_yl {ys : List I64} {t : List Int} (h : ys.map (·.1) = yl t) : ddp ys = varsV t := by
  unfold ddp; rw [h]; exact foldl_yl t []
theorem ddA_range {acc : List Int} {x : Int} (h : ∀ y ∈ acc, inRange y) (hx : inRange x) : ∀ y ∈ ddA acc x, inRange y := by
  intro y hy
  unfold ddA at hy
  split at hy
  · exact h y hy
  · rcases List.mem_append.1 hy with h' | h'
    · exact h y h'
    · simp at h'; rw [h']; exact hx

end Go.Proofs.YtgkddhakhapjlaaGreatDoor

/- Paths and parts, one argument behind the other. No program is named. -/
namespace Go.Proofs.YtgkddhakhapjlaaGreatDoor

theorem glue_snoc : ∀ (k : Nat) (M : List (List (List Int × List Int))) (x : List (List Int × List Int)), glue k (M ++ [x]) = glue k M ++ x.map (fun e => (((k + M.length : Nat) : Int) :: e.1, e.2))
  | k, [], x => by simp [glue]
  | k, y :: r, x => by
    rw [List.cons_append, glue, glue_snoc (k + 1) r x, glue, List.append_assoc]
    simp only [List.length_cons]
    rw [show k + 1 + r.length = k + (r.length + 1) by omega]
theorem PL_len {s : Sg} {u : List Int} (h : okT s u = true) {f : Nat} (hf : u.length ≤ f) : (PL s f u).length = u.length := by
  have := PL_spec s u f 0 [] (okT_skip0 h) (by rw [partAt_all h]; exact hf)
  rw [partAt_all h] at this
  exact this.1
/-- what the first k arguments and the head give, each path behind p -/
def PK (s : Sg) (f : Nat) (p u : List Int) (k : Nat) : List (List Int × List Int) := (([], u) :: glue 0 (((argsT s u).take k).map (PL s f))).map (fun e => (p ++ e.1, e.2))
theorem PK_zero (s : Sg) (f : Nat) (p u : List Int) : PK s f p u 0 = [(p, u)] := by simp [PK, glue]
theorem PK_succ {s : Sg} {f : Nat} {p u : List Int} {k : Nat} (hk : k < (argsT s u).length) : PK s f p u (k + 1) = PK s f p u k ++ (PL s f (argsT s u)[k]).map (fun e => ((p ++ [(k : Int)]) ++ e.1, e.2)) := by
  have hl : (((argsT s u).take k).map (PL s f)).length = k := by simp; omega
  have h2 : ((argsT s u).take (k + 1)).map (PL s f) = ((argsT s u).take k).map (PL s f) ++ [PL s f (argsT s u)[k]] := by rw [List.take_succ_eq_append_getElem hk]; simp only [List.map_append, List.map_cons, List.map_nil]
  unfold PK
  rw [h2, glue_snoc, hl]
  simp [Function.comp_def, List.append_assoc]
theorem PK_all {s : Sg} {f : Nat} {p u : List Int} {k : Nat} (hk : (argsT s u).length ≤ k) : PK s f p u k = (PL s (f + 1) u).map (fun e => (p ++ e.1, e.2)) := by
  unfold PK; rw [List.take_of_length_le hk]; rfl
theorem PK_len {s : Sg} {f : Nat} {p u : List Int} {k : Nat} (h : okT s u = true) (hf : u.length ≤ f + 1) : (PK s f p u k).length = 1 + ((argsT s u).take k).flatten.length := by
  obtain ⟨-, h2, h3⟩ := argsT_spec h
  unfold PK
  rw [List.length_map, List.length_cons, glue_len, flatten_len_sum, List.map_map]
  have : ((argsT s u).take k).map (List.length ∘ PL s f) = ((argsT s u).take k).map List.length := by
    apply List.map_congr_left
    intro v hv
    have hm := List.mem_of_mem_take hv
    have hl := len_flatten hm
    have := congrArg List.length h2
    rw [List.length_cons] at this
    exact PL_len (h3 v hm) (by omega)
  rw [this]; omega
end Go.Proofs.YtgkddhakhapjlaaGreatDoor

/- Walks: the iterator over the parts of a term. -/
namespace Go.Proofs.YtgkddhakhapjlaaGreatDoor
open Go Go.RowKit Go.Shelf

attribute [local go_sem] Oper.semAt_some

theorem RoundIn.wideAny {m m' : Nat} {P : Program} {l : Nat} {f : FuncId} {tmps : Array Value} {assign body : Code} {w : World} {R : Ending → World → Prop}
    (h : RoundIn Fence.wide m P l f tmps assign body w R) : RoundIn Fence.wide m' P l f tmps assign body w R := ⟨h.1, fun c cs _ => h.2 c cs (room_wide _)⟩
theorem YieldAt.wideAny {m : Nat} (m' : Nat) {P : Program} {l : Nat} {args : Array Value} {W : World} {R : Ending → World → Prop} (h : YieldAt Fence.wide m P l args W R) : YieldAt Fence.wide m' P l args W R := by
  obtain ⟨fn, tmps, assign, body, hy, hR⟩ := h
  exact ⟨fn, tmps, assign, body, hy, RoundIn.wideAny hR⟩

/-- a path and a part, as they are handed over -/
structure El where
  ap : Option Addr
  cp : Nat
  p : List Int
  au : Option Addr
  cu : Nat
  u : List Int
def El.enc (x : El) : Array Value := #[.slice x.ap x.p.length x.cp, .slice x.au x.u.length x.cu]
def El.pt (x : El) : List Int × List Int := (x.p, x.u)
def ElR (x : El) (W : World) : Prop := Ints (fun _ => True) W x.ap x.cp x.p ∧ Ints (fun _ => True) W x.au x.cu x.u ∧ x.p.length ≤ 60 ∧ x.u.length ≤ 60

/-- append of a number to a list that is full -/
theorem app_full {S : Nat → Prop} {w : World} {a : Option Addr} {l : List Int} (h : Ints S w a l.length l) (hn : l = [] → a = none) (x : Int) (hx : inRange x) (hl : l.length ≤ 1000) :
    ∃ v w', RowKit.Hid (runApp (.slice a l.length l.length) (.slice (some ⟨w.heap.size, 0, none⟩) 1 1) (w.alloc (.cells #[.int .i64 x] 3)) = .ok v w') ∧ RowKit.Hid (OwnI w' w.heap.size v (l ++ [x])) ∧ RowKit.Hid (Below w.heap.size w w') := by
  have hb1 := below1 w (.cells #[.int .i64 x] 3)
  have hI := lit1 (w := w) x hx
  by_cases hne : l = []
  · subst hne
    obtain rfl := hn rfl
    obtain ⟨v, w', r, o, -, b⟩ := app24 (base := w.heap.size) (OwnL.nil intE (fun _ => False) _ _ 3) hI (by simp) hb1.size
    exact ⟨v, w', Lib.hid r, Lib.hid o, Lib.hid (hb1.trans b)⟩
  · obtain ⟨i, hi, hz0, hz1, hz2⟩ := info_parts infoInt
    have h' := h.below hb1
    obtain ⟨b, off, rfl, -, -, hc⟩ := h'.dat hne
    obtain ⟨v, w', r, o, g⟩ := run_append_arg_grows (P := Tryz.prog) (w.alloc (.cells #[.int .i64 x] 3)) 33 33 3 i (.int .i64 0) 1 8 Tryz.underlying33 hi hz0 hz1 hz2 rfl (by decide)
      ⟨b, off, none⟩ l.length l.length (l.map (.int .i64)) (by simp) (fun j u hu => by
        rw [List.getElem?_map] at hu
        cases hj : l[j]? with
        | none => rw [hj] at hu; cases hu
        | some y =>
          rw [hj] at hu
          cases hu
          obtain ⟨hjl, rfl⟩ := List.getElem?_eq_some_iff.1 hj
          obtain ⟨b2, off2, he, -, q, -⟩ := h'.int j hjl
          cases he
          rw [Addr.add_lit]; exact q)
      ⟨w.heap.size, 0, none⟩ 1 1 [.int .i64 x] (by simp) (fun j u hu => by
        cases j with
        | zero => cases hu; rw [Addr.add_lit, World.cell?_alloc_at _ _ _ _ rfl]; rfl
        | succ j => simp at hu) (by omega) (by unfold maxLen; omega) (by omega)
    rw [World.size_alloc] at o
    refine ⟨v, w', Lib.hid r, Lib.hid ((OwnL.of_row (S := fun _ => False) (l := l ++ [x]) (by simpa using o) (fun y hy => ?_)).baseMono (Nat.le_succ _)), Lib.hid (hb1.trans ((Below.refl _ _).grown g (by simp) (fun k e => by cases e)))⟩
    rcases List.mem_append.1 hy with h6 | h6
    · exact h.rng y h6
    · simp at h6; rw [h6]; exact hx

def pwRel (s : Sg) (f : Nat) (p u : List Int) (m B0 : Nat) (J : List El → World → Prop) (pre : List El) (W2 : World) (i : Value) (wr : World) : Prop :=
  ∃ (k : Nat) (ys : List El), i = .int .i64 k ∧ k ≤ m ∧ ys.map El.pt = PK s f p u k ∧ J (pre ++ ys) wr ∧ Leaves B0 W2 wr
end Go.Proofs.YtgkddhakhapjlaaGreatDoor

/- Walks: the iterator over the parts of a term, as a caller takes it. -/
namespace Go.Proofs.YtgkddhakhapjlaaGreatDoor
open Go Go.RowKit Go.Shelf

attribute [local go_sem] Oper.semAt_some

theorem abides_below {β : Type} {B : Nat} {J : β → World → Prop} (h : AbidesFrom B J) {s : β} {A A' : World} (hs : J s A) (hb : Below A.heap.size A A') : J s A' :=
  h s A A' none hs (Below.grow hb) (fun r e => by cases e)

theorem El.size (x : El) : x.enc.size = 2 := rfl
end Go.Proofs.YtgkddhakhapjlaaGreatDoor

/- A region that draws its order, in a round of a range over a function. No program is named. -/
namespace Go.Proofs.YtgkddhakhapjlaaGreatDoor
open Go Go.RowKit
section
variable {F : Fence} {n : Nat} {P : Program} {Q : Exit → Act → World → Prop} {md : Region.Mode} {l : List Oper} {listed : Array Bool} {fuel : Nat} {a : Act} {w : World}
/-- what is asked of an operation that comes up next -/
def NextIn (F : Fence) (n : Nat) (P : Program) (Q : Exit → Act → World → Prop) (ops : Array Oper) (o : Oper) (a : Act) (w : World) (K : Act → World → Prop) : Prop :=
  if Region.wanted o (yielded ops a.tmps) = true then Oper.wpIn F n P o a w K Q else (∀ f, o.about P w a.eval = some f → F.fn f) ∧ K (a.put o.dst undef) w
theorem region_in1 (i : Nat) {o : Oper} (hi : l[i]? = some o) (hr : Region.ready md l.toArray listed = [i])
    (h : ∀ K' : Act → World → Prop, Shut (∀ a w, wpAnyIn F n P md l.toArray Q fuel (listed.setIfInBounds i true) a w → K' a w) → NextIn F n P Q l.toArray o a w K') : wpAnyIn F n P md l.toArray Q (fuel + 1) listed a w :=
  wpAnyIn_ready hr (by simp) (AllReadyIn.cons (by simpa using hi) h AllReadyIn.nil)
theorem region_in2 (i j : Nat) {o o' : Oper} (hi : l[i]? = some o) (hj : l[j]? = some o') (hr : Region.ready md l.toArray listed = [i, j])
    (h : ∀ K' : Act → World → Prop, Shut (∀ a w, wpAnyIn F n P md l.toArray Q fuel (listed.setIfInBounds i true) a w → K' a w) → NextIn F n P Q l.toArray o a w K')
    (h' : ∀ K' : Act → World → Prop, Shut (∀ a w, wpAnyIn F n P md l.toArray Q fuel (listed.setIfInBounds j true) a w → K' a w) → NextIn F n P Q l.toArray o' a w K') : wpAnyIn F n P md l.toArray Q (fuel + 1) listed a w :=
  wpAnyIn_ready hr (by simp) (AllReadyIn.cons (by simpa using hi) h (AllReadyIn.cons (by simpa using hj) h' AllReadyIn.nil))
/-- an operation that yields a value, in the world at hand -/
theorem NextIn.value {ops : Array Oper} {o : Oper} {K : Act → World → Prop} (hg : Region.wanted o (yielded ops a.tmps) = true) (hd : ∀ c, o.op ≠ .defer c) {v : Value} {w' : World} (hab : o.about P w a.eval = none)
    (hr : (execOp a.eval o).run P w = .ok (.value v) w') (h : K (a.put o.dst v) w') : NextIn F n P Q ops o a w K := by
  unfold NextIn Oper.wpIn
  rw [if_pos hg, Oper.semAt_eq _ _ _ hd, hr, hab]
  exact ⟨fun f hf => (by cases hf), h⟩
theorem NextIn.skip {ops : Array Oper} {o : Oper} {K : Act → World → Prop} (hg : Region.wanted o (yielded ops a.tmps) = true) (hd : ∀ c, o.op ≠ .defer c) {w' : World} (hab : o.about P w a.eval = none)
    (hr : (execOp a.eval o).run P w = .ok .skip w') (h : K (a.put o.dst undef) w') : NextIn F n P Q ops o a w K := by
  unfold NextIn Oper.wpIn
  rw [if_pos hg, Oper.semAt_eq _ _ _ hd, hr, hab]
  exact ⟨fun f hf => (by cases hf), h⟩
theorem NextIn.append {ops : Array Oper} {o : Oper} {K : Act → World → Prop} (hg : Region.wanted o (yielded ops a.tmps) = true) (s x : Operand) (t : TypeId)
    (ho : o.op = .call { callee := .builtin .append, args := #[s, x], argTypes := #[t, t] }) {vs vx : Value} (hs : a.eval s = vs) (hx : a.eval x = vx) {v' : Value} {w' : World}
    (hr : (Builtin.append_ #[t, t] o.type #[vs, vx]).run P w = .ok v' w') (h : K (a.put o.dst v') w') : NextIn F n P Q ops o a w K := by
  refine NextIn.value hg (fun c => by rw [ho]; simp) (v := v') (w' := w') ?_ ?_ h
  · unfold Oper.about
    simp only [ho, resolve, Sem.run_pure, List.map_toArray, List.map_cons, List.map_nil]
    rfl
  · unfold execOp
    simp only [ho, resolve, invoke, builtin, Sem.run_bind, Sem.run_pure, Result.andThen_ok, List.map_toArray, List.map_cons, List.map_nil, hs, hx, hr]
theorem NextIn.call {ops : Array Oper} {o : Oper} {K : Act → World → Prop} (hg : Region.wanted o (yielded ops a.tmps) = true) (hd : ∀ c, o.op ≠ .defer c) (hfn : ∀ f, F.fn f) (hdp : F.depth = none) {f : Nat} {args : Array Value}
    (hr : (execOp a.eval o).run P w = .ok (.enter f args) w) (h : CallsIn F (n - 1) P f args w fun e w' => ∃ v, e = .returned v ∧ K (a.put o.dst v) w') : NextIn F n P Q ops o a w K := by
  unfold NextIn Oper.wpIn
  rw [if_pos hg, Oper.semAt_eq _ _ _ hd, hr]
  refine ⟨fun f _ => hfn f, fun e => (by rw [hdp] at e; cases e), h.mono fun e w' he => ?_⟩
  obtain ⟨v, rfl, hk⟩ := he
  exact hk
end
end Go.Proofs.YtgkddhakhapjlaaGreatDoor
