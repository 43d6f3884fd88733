/- A range over a function whose elements are read in memory: the iterator says of each element what memory holds where it is handed over. No program is named. -/
import Derived.Test.YtpmnnoopoblpgaaGreatKit
import Derived.RangeFuncBox
import Derived.RangeFuncNested
import Derived.RangeFuncBound
import Derived.RangeFuncCalls
import Derived.RangeFuncLeaves
namespace Go.Proofs.YtpmnnoopoblpgaaGreat
open Go Go.RowKit

/-- The iterator's contract: each round gets an element x of which R holds in the world where it is handed over. -/
def SeqRel {α : Type} (F : Fence) (n : Nat) (P : Program) (g : Nat) (lb : Array Value) (encs : α → Array Value) (R : α → World → Prop) (Kp : World → World → Prop) (S Sp : List α → Prop) (N : Nat) (w : World) : Prop :=
  ∀ (l : Nat) (J Jx : List α → World → Prop) (W : World), Below w.heap.size w W → AbidesFrom W.heap.size J → AbidesFrom W.heap.size Jx →
    (∀ pre x W1, J pre W1 → R x W1 → pre.length < N → YieldAt F (n - 1) P l (encs x) W1 fun e W' =>
      (e = .returned (.bool true) ∧ J (pre ++ [x]) W' ∧ Kp W1 W') ∨ (e = .returned (.bool false) ∧ Jx (pre ++ [x]) W' ∧ Kp W1 W')) →
    J [] W → CallsIn F n P g (#[.func (.yield l) #[] #[]] ++ lb) W fun e W' => (∃ v, e = .returned v) ∧ ((∃ xs, S xs ∧ J xs W') ∨ (∃ pre, Sp pre ∧ Jx pre W'))

/-- how the body of a round may be left -/
def relPost {α : Type} (B : Nat) (Kp : World → World → Prop) (I : List α → World → Prop) (Ix : Code → List α → World → Prop) (xs : List α) (W : World) (e : Exit) (_ : Act) (W' : World) : Prop :=
  (KeepsFrom B W W' ∧ Kp W W') ∧ match e with
    | .normal => I xs W'
    | .ret => Ix .ret xs W'
    | .exit id => Ix (.exit id) xs W'
    | .goto t => Ix (.goto t) xs W'
    | .panic _ => False
    | .outgrown => False

section
variable {F : Fence} {n : Nat} {P : Program} {α : Type}

/-- what two blocks hold that a loop lays for itself: its record, and the calls that its rounds put off -/
structure Book (l d : Nat) (rec : Loop) (W : World) : Prop where
  loop : W.heap[l]? = some (.loop rec)
  calls : W.heap[d]? = some (.deferred (some []))
theorem Book.keeps {l d B : Nat} {rec : Loop} {W W' : World} (h : Book l d rec W) (hl : B ≤ l) (hd : B ≤ d) (hk : KeepsFrom B W W') : Book l d rec W' :=
  ⟨hk.same _ _ hl h.loop rfl, hk.same _ _ hd h.calls rfl⟩
theorem Book.turn {l d : Nat} {rec rec' : Loop} {W : World} (h : Book l d rec W) (hne : d ≠ l) : Book l d rec' (W.putObj l (.loop rec')) :=
  ⟨World.putObj_heap_same (Array.getElem?_eq_some_iff.1 h.loop).1, (World.putObj_heap_other hne).trans h.calls⟩
theorem Book.grown {l d : Nat} {rec : Loop} {A B : World} {row : Option Nat} (h : Book l d rec A) (hg : A.grownBy B row) (hr : ∀ r, row = some r → ∃ o : Obj, A.heap[r]? = some o ∧ o.isWalk = true) : Book l d rec B :=
  ⟨(grownBy_keeps hg hr h.loop rfl).trans h.loop, (grownBy_keeps hg hr h.calls rfl).trans h.calls⟩

set_option maxHeartbeats 1000000 in
theorem range_rel {g : Operand} {ps : Array Tmp} {assign body : Code} {Q : Exit → Act → World → Prop} {a : Act} {w : World}
    (hro : F.round = none) (h1 : 1 ≤ n) {gf : Nat} {lb : Array Value} (hg : a.eval g = .func (.func gf) #[] lb) (hFg : F.fn gf) (eg : ∀ args w, (callFunc gf args).run P w = .ok (.enter gf args) w)
    {encs : α → Array Value} {R : α → World → Prop} {Kp : World → World → Prop} {S Sp : List α → Prop} {N : Nat} {w0 : World} (hseq : SeqRel F (n - 1) P gf lb encs R Kp S Sp N w0)
    (hKt : ∀ {A B C : World}, Kp A B → Kp B C → Kp A C) (hKb : ∀ (W : World) (l : Nat) (o o' : Obj), w.heap.size ≤ l → W.heap[l]? = some o → o.isCells = false → o.isWalk = false → Kp W (W.putObj l o')) (hb0 : Below w0.heap.size w0 w) (hps : ∀ x, (encs x).size = ps.size)
    (I : List α → World → Prop) (Ix : Code → List α → World → Prop) (hI : OwnFrom w.heap.size I) (hIx : ∀ c, OwnFrom w.heap.size (Ix c)) (h0 : I [] w) (Ax : α → Act → World → Prop) (hAx : ∀ x a', OwnFrom w.heap.size (fun (_ : Unit) W => Ax x a' W))
    (hassign : ∀ (l : Nat) (pre : List α) (x : α) (W : World) (K : Act → World → Prop), I pre W → R x W → (∀ a' W', KeepsFrom w.heap.size W W' → Kp W W' → I pre W' → Ax x a' W' → K a' W') →
      assign.wpIn (F.inRound l) (n - 1 - 1) P (Exit.then K (fun _ _ _ => False)) { tmps := (ps.zip (encs x)).foldl (fun t (p, v) => t.setIfInBounds p v) a.tmps, defers := [] } W)
    (hbody : ∀ (l : Nat) (pre : List α) (x : α) (a' : Act) (W : World), w.heap.size ≤ l → (∃ r, W.heap[l]? = some (.loop r)) → I pre W → Ax x a' W → pre.length < N → body.wpIn (F.inRound l) (n - 1 - 1) P (relPost w.heap.size Kp I Ix (pre ++ [x]) W) a' W)
    (hdone : ∀ (D : Nat) (xs : List α) (W : World), w.heap.size ≤ D → S xs → I xs W → W.heap[D]? = some (.deferred (some [])) → Q .normal { a with defers := { target := .collected D, args := #[] } :: a.defers } W)
    (hstop : ∀ (D : Nat) (c : Code) (pre : List α) (W : World), w.heap.size ≤ D → Sp pre → Ix c pre W → W.heap[D]? = some (.deferred (some [])) → c.wpIn F n P Q { a with defers := { target := .collected D, args := #[] } :: a.defers } W) :
    (Code.rangeFunc g ps assign body).wpIn F n P Q a w := by
  refine wpIn_rangeFunc fun fn hfn => ?_
  rw [hro]
  obtain ⟨d, hd⟩ : ∃ d, w.heap.size = d := ⟨_, rfl⟩
  rw [hd] at hKb hI hIx hAx hassign hbody hdone hstop
  obtain ⟨rec, hrec⟩ : ∃ rec : LoopState → Option Code → Loop, ∀ st pe, rec st pe = { state := st, pending := pe, fn, tmps := a.tmps, params := ps, assign, body, defers := d } := ⟨_, fun _ _ => rfl⟩
  have hz : (w.alloc (.deferred (some []))).heap.size = d + 1 := by simp [hd]
  have hB1 : Book (d + 1) d (rec .ready none) ((w.alloc (.deferred (some []))).alloc (.loop (rec .ready none))) := by
    refine ⟨by rw [← hz]; exact World.alloc_heap_new _ _, ?_⟩
    rw [Below.heap_alloc _ _ _ (by omega), ← hd]; exact World.alloc_heap_new w _
  have hI1 : I [] ((w.alloc (.deferred (some []))).alloc (.loop (rec .ready none))) := hI.alloc _ (hI.alloc _ h0)
  have hW1 : Below w0.heap.size w0 ((w.alloc (.deferred (some []))).alloc (.loop (rec .ready none))) := (hb0.alloc hb0.size _).alloc (by have := hb0.size; omega) _
  have hs1 : ((w.alloc (.deferred (some []))).alloc (.loop (rec .ready none))).heap.size = d + 2 := by rw [World.size_alloc, hz]
  have hen := run_enterLoop_outer (P := P) (w := w) fn a.tmps ps assign body
  rw [hd, ← hrec .ready none] at hen
  generalize (w.alloc (.deferred (some []))).alloc (.loop (rec .ready none)) = W1 at hB1 hI1 hW1 hs1 hen
  refine ⟨d + 1, [{ target := .collected d, args := #[] }], W1, { target := .fn (.func gf) lb, args := #[.func (.yield (d + 1)) #[] #[]] }, W1, gf, #[.func (.yield (d + 1)) #[] #[]] ++ lb, W1, hen, ?_, ?_, ?_, fun _ => h1, ?_⟩
  · simp only [resolve, hg]; simp [go_sem]
  · intro f' hf'
    simp [Target.leads] at hf'
    rw [← hf']; exact hFg
  · simp [invoke, go_sem, eg]
  have hrow : ∀ {A : World} {row : Option Nat}, (∀ r, row = some r → W1.heap.size ≤ r ∧ ∃ o : Obj, A.heap[r]? = some o ∧ o.isWalk = true) →
      (∀ r, row = some r → d ≤ r ∧ ∃ o : Obj, A.heap[r]? = some o ∧ o.isCells = false) ∧ (∀ r, row = some r → ∃ o : Obj, A.heap[r]? = some o ∧ o.isWalk = true) := fun hr =>
    ⟨fun r e => by obtain ⟨g1, o, g2, g3⟩ := hr r e; exact ⟨by omega, o, g2, Obj.not_cells_of_walk g3⟩, fun r e => (hr r e).2⟩
  have hcall := hseq (d + 1) (fun pre W => I pre W ∧ Book (d + 1) d (rec .ready none) W) (fun pre W => ∃ c, Ix c pre W ∧ Book (d + 1) d (rec .done (some c)) W) W1 hW1
    (fun s A B row hs hgr hr => ⟨hI s A B row hs.1 hgr (hrow hr).1, hs.2.grown hgr (hrow hr).2⟩)
    (fun s A B row hs hgr hr => by obtain ⟨c, q1, q2⟩ := hs; exact ⟨c, hIx c s A B row q1 hgr (hrow hr).1, q2.grown hgr (hrow hr).2⟩)
  refine (hcall ?_ ⟨hI1, hB1⟩).mono ?_
  · rintro pre x W ⟨hi, hb⟩ hR hlen
    have hy := run_yield (P := P) (args := encs x) hb.loop (by rw [hrec]; exact hps x)
    rw [hrec] at hy
    refine ⟨fn, _, assign, body, hy, roundIn_of_wpIn hfn (hassign (d + 1) pre x W _ hi hR fun a' Wa k1 k2 k3 k4 => ?_)⟩
    have hba := hb.keeps (by omega) (Nat.le_refl _) k1
    refine ⟨_, run_beginRound hba.loop (by rw [hrec]), ?_⟩
    have hb2 : Book (d + 1) d { rec .ready none with state := .busy } (Wa.putObj (d + 1) (.loop { rec .ready none with state := .busy })) := hba.turn (by omega)
    have hk2 : Kp Wa (Wa.putObj (d + 1) (.loop { rec .ready none with state := .busy })) := hKb _ _ _ _ (by omega) hba.loop rfl rfl
    have hi2 := hI.putObj (.loop { rec .ready none with state := .busy }) k3 (by omega) hba.loop rfl
    have ha2 := (hAx x a').putObj (s := ()) (.loop { rec .ready none with state := .busy }) k4 (by omega) hba.loop rfl
    have hend : ∀ (jump : Option Code) (W3 : World), KeepsFrom d (Wa.putObj (d + 1) (.loop { rec .ready none with state := .busy })) W3 →
        (Instr.endRound (d + 1) jump).run P W3 = .ok (.bool jump.isNone) (W3.putObj (d + 1) (.loop (rec (if jump.isNone then .ready else .done) jump))) ∧
        W3.heap[d + 1]? = some (.loop { rec .ready none with state := .busy }) ∧ Book (d + 1) d (rec (if jump.isNone then .ready else .done) jump) (W3.putObj (d + 1) (.loop (rec (if jump.isNone then .ready else .done) jump))) := fun jump W3 k => by
      have hb3 := hb2.keeps (by omega) (Nat.le_refl _) k
      have hr := run_endRound (P := P) jump hb3.loop
      rw [hrec .ready none] at hr
      rw [hrec (if jump.isNone then .ready else .done) jump]
      exact ⟨hr, hb3.loop, hb3.turn (by omega)⟩
    refine wpIn_mono (hbody (d + 1) pre x a' _ (by omega) ⟨_, hb2.loop⟩ hi2 ha2 hlen) fun e a3 W3 hp => ?_
    obtain ⟨⟨q1, q2⟩, q3⟩ := hp
    have hkk : ∀ o', Kp W (W3.putObj (d + 1) o') := fun o' => hKt k2 (hKt (hKt hk2 q2) (hKb _ _ _ _ (by omega) (hb2.keeps (by omega) (Nat.le_refl _) q1).loop rfl rfl))
    cases e with
    | normal =>
      obtain ⟨r1, r2, r3⟩ := hend none W3 q1
      exact ⟨_, _, r1, .inl ⟨rfl, ⟨hI.putObj _ q3 (by omega) r2 rfl, r3⟩, hkk _⟩⟩
    | ret =>
      obtain ⟨r1, r2, r3⟩ := hend (some .ret) W3 q1
      exact ⟨_, _, r1, .inr ⟨rfl, ⟨.ret, (hIx _).putObj _ q3 (by omega) r2 rfl, r3⟩, hkk _⟩⟩
    | exit id =>
      obtain ⟨r1, r2, r3⟩ := hend (some (.exit id)) W3 q1
      exact ⟨_, _, r1, .inr ⟨rfl, ⟨.exit id, (hIx _).putObj _ q3 (by omega) r2 rfl, r3⟩, hkk _⟩⟩
    | goto t =>
      obtain ⟨r1, r2, r3⟩ := hend (some (.goto t)) W3 q1
      exact ⟨_, _, r1, .inr ⟨rfl, ⟨.goto t, (hIx _).putObj _ q3 (by omega) r2 rfl, r3⟩, hkk _⟩⟩
    | panic ch => exact q3.elim
    | outgrown => exact q3.elim
  · rintro e W2 ⟨⟨v, rfl⟩, (⟨xs, hS, hi, hb⟩ | ⟨pre, hSp, c, hi, hb⟩)⟩
    · have hr := run_endLoop (P := P) hb.loop (by rw [hrec]; simp)
      rw [hrec] at hr
      exact ⟨none, _, hr, hdone d xs _ (Nat.le_refl _) hS (hI.putObj _ hi (by omega) hb.loop rfl) ((World.putObj_heap_other (by omega)).trans hb.calls)⟩
    · have hr := run_endLoop (P := P) hb.loop (by rw [hrec]; simp)
      rw [hrec] at hr
      exact ⟨some c, _, hr, hstop d c pre _ (Nat.le_refl _) hSp ((hIx c).putObj _ hi (by omega) hb.loop rfl) ((World.putObj_heap_other (by omega)).trans hb.calls)⟩
end

/-- a list of numbers does not lie in a block that holds no cells -/
theorem Ints.notIn {S : Nat → Prop} {w : World} {a : Option Addr} {c : Nat} {l : List Int} (h : Ints S w a c l) {k : Nat} {o : Obj} (hk : w.heap[k]? = some o) (ho : o.isCells = false) : Ints (fun b => S b ∧ b ≠ k) w a c l := by
  refine ⟨h.cap, h.max, h.nil, fun hne => ?_⟩
  obtain ⟨b, off, ha, hb, hl, hc⟩ := h.dat hne
  refine ⟨b, off, ha, ⟨hb, fun e => ?_⟩, hl, hc⟩
  subst e
  have h0 : 0 < l.length := List.length_pos_iff.2 hne
  obtain ⟨vs, h1, h2, _⟩ := hc 0 h0
  have h3 := h2 0 (by have := intE.pos; omega)
  unfold World.cell? at h3
  rw [hk] at h3
  cases o <;> simp_all [Obj.isCells]
/-- that a list of numbers reads abides whatever turns no cells -/
theorem ints_own {S : Nat → Prop} {a : Option Addr} {c : Nat} {l : List Int} (B : Nat) : OwnFrom B (fun (_ : Unit) W => Ints S W a c l) := by
  intro s A A' row hs hg hr
  cases row with
  | none => exact hs.same (.of_grown hg (fun b _ e => by cases e))
  | some r =>
    obtain ⟨-, o, ho, hc⟩ := hr r rfl
    exact (hs.notIn ho hc).mono (fun _ _ h => h.1) (.of_grown hg (fun b hb e => hb.2 (by cases e; rfl)))
end Go.Proofs.YtpmnnoopoblpgaaGreat
