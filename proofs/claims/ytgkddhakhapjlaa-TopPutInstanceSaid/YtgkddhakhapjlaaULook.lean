/- Walks of package unify: a solver in the world; look. -/
import Derived.Test.YtgkddhakhapjlaaUMatch
import Derived.Test.YtgkddhakhapjlaaUniStep
import Derived.Test.YtgkddhakhapjlaaWalkJ
import Derived.Deep.LoopGhost
namespace Go.Proofs.Ytgkddhakhapjlaa
open Go Go.RowKit Go.Maps

/-- looked up in k steps -/
def LkdN (B : Bd) (p : List Int) : Nat → List Int → Prop
  | 0, t => t = p ∧ ∀ n r, t = n :: r → n < 0 → B n = none
  | k + 1, t => ∃ n r u, t = n :: r ∧ n < 0 ∧ B n = some u ∧ LkdN B p k u
theorem Lkd.num {B : Bd} {t p : List Int} (h : Lkd B t p) : ∃ k, LkdN B p k t := by
  induction h with
  | stop h => exact ⟨0, rfl, h⟩
  | go hn hB _ ih => obtain ⟨k, hk⟩ := ih; exact ⟨k + 1, _, _, _, rfl, hn, hB, hk⟩

/-- the solver's own data: the sign and the map of what is bound -/
structure SolvW (w0 w : World) (xb mb n : Nat) (a1 : Option Addr) (c1 : Nat) (s : Sg) (B : Bd) : Prop where
  k0 : w.cell? ⟨xb, 0, none⟩ = some (.slice a1 s.length c1)
  k1 : w.cell? ⟨xb, 1, none⟩ = some (.map (some mb))
  map : BdMap w0 w mb n B
  bx : w0.heap.size ≤ xb
  bm : w0.heap.size ≤ mb
  ne : xb ≠ mb
  sg : Sign (fun b => b < w0.heap.size) w0 a1 c1 s
  bel : Below w0.heap.size w0 w
  wf : ∀ n u, B n = some u → W1 s u
theorem SolvW.lt {w0 w : World} {xb mb n : Nat} {a1 : Option Addr} {c1 : Nat} {s : Sg} {B : Bd} (h : SolvW w0 w xb mb n a1 c1 s B) : xb < w.heap.size := World.block_lt_of_cell? _ _ h.k0
theorem SolvW.below {w0 w w' : World} {xb mb n : Nat} {a1 : Option Addr} {c1 : Nat} {s : Sg} {B : Bd} (h : SolvW w0 w xb mb n a1 c1 s B) (hb : Below w.heap.size w w') : SolvW w0 w' xb mb n a1 c1 s B :=
  ⟨cell_later hb h.k0, cell_later hb h.k1, h.map.below hb h.map.lt, h.bx, h.bm, h.ne, h.sg, bcall h.bel hb, h.wf⟩

abbrev T0 (w0 : World) (a : Option Addr) (c : Nat) (t : List Int) : Prop := Ints (fun b => b < w0.heap.size) w0 a c t
/-- looked up in k steps, with where it lies -/
def LkF (w0 : World) (f : Int → Option Value) (B : Bd) (p : List Int) (a' : Option Addr) (c' : Nat) : Nat → Option Addr → Nat → List Int → Prop
  | 0, a, c, t => (t = p ∧ a = a' ∧ c = c') ∧ ∀ n r, t = n :: r → n < 0 → B n = none
  | k + 1, _, _, t => ∃ n r u a3 c3, t = n :: r ∧ n < 0 ∧ B n = some u ∧ f n = some (.slice a3 u.length c3) ∧ T0 w0 a3 c3 u ∧ LkF w0 f B p a' c' k a3 c3 u
theorem LkF.ex {w0 : World} {f : Int → Option Value} {B : Bd} {p : List Int} (h3 : ∀ x u, B x = some u → ∃ a c, f x = some (.slice a u.length c) ∧ T0 w0 a c u) :
    ∀ (k : Nat) (t : List Int) (a : Option Addr) (c : Nat), T0 w0 a c t → LkdN B p k t → ∃ a' c', LkF w0 f B p a' c' k a c t ∧ T0 w0 a' c' p
  | 0, t, a, c, hT, ⟨h1, h2⟩ => ⟨a, c, ⟨⟨h1, rfl, rfl⟩, h2⟩, h1 ▸ hT⟩
  | k + 1, t, a, c, hT, ⟨n, r, u, h1, h2, hB, h4⟩ => by
    obtain ⟨a3, c3, g1, g2⟩ := h3 n u hB
    obtain ⟨a', c', g3, g4⟩ := LkF.ex h3 k u a3 c3 g2 h4
    exact ⟨a', c', ⟨n, r, u, a3, c3, h1, h2, hB, g1, g2, g3⟩, g4⟩
def lookRel (w0 w : World) (s : Sg) (f : Int → Option Value) (B : Bd) (p : List Int) (a' : Option Addr) (c' : Nat) (k : Nat) (tv : Value) (wr : World) : Prop :=
  ∃ t a c, tv = .slice a (List.length t) c ∧ T0 w0 a c t ∧ W1 s t ∧ LkF w0 f B p a' c' k a c t ∧ Drew w wr
set_option maxRecDepth 20000 in
set_option maxHeartbeats 4000000 in
theorem look_any {w0 w : World} {xb mb n : Nat} {a1 : Option Addr} {c1 : Nat} {s : Sg} {B : Bd} (hS0 : SolvW w0 w xb mb n a1 c1 s B) {a : Option Addr} {c : Nat} {t p : List Int} (ht : T0 w0 a c t) (hw : W1 s t) (hl : Lkd B t p) :
    ∃ a' c', T0 w0 a' c' p ∧ ∀ m, Calls Try.prog 41 #[.pointer (some ⟨xb, 0, none⟩), .slice a t.length c] (w.drewN m) fun e w' => e = .returned (.slice a' p.length c') ∧ Drew (w.drewN m) w' := by
  obtain ⟨k0, hk0⟩ := hl.num
  obtain ⟨f, f1, f2, f3⟩ := hS0.map
  obtain ⟨a', c', hk1, hTp⟩ := LkF.ex f3 k0 t a c ht hk0
  refine ⟨a', c', hTp, fun m => ?_⟩
  have hS := hS0.below ((Drew.mk w m).below w.heap.size)
  have f1 := f1.below ((Drew.mk w m).below w.heap.size) hS0.map.lt
  generalize w.drewN m = w at *
  have hSH := Lib.hid hS
  have htH := Lib.hid ht
  have hwH := Lib.hid hw
  have hkH := Lib.hid hk1
  have m2 := ht.le
  have f1H := Lib.hid f1
  have f2H := Lib.hid f2
  have hlt := f1.lt
  clear hS ht hw hl hk0 hk1 hTp f1 f2 f3 hS0
  go_enter Try.func41, Try.ntmps41
  go_wp2_with fail
  go_loopg [1] k0 (fun k tv wr => lookRel w0 w s f B p a' c' k tv wr)
  case atStart => exact ⟨t, a, c, rfl, htH.out, hwH.out, hkH.out, .refl _⟩
  case round =>
    obtain ⟨t', a4, c4, rfl, ht', hw', hk, hd⟩ := hrel
    have hB := bcall hSH.out.bel (hd.below _)
    have hlen := hw'.len
    obtain ⟨b, o, rfl, -, q, hr⟩ := (ht'.below hB).int 0 (by omega)
    rw [Nat.add_zero] at q
    have q2 := (hSH.out.below (hd.below _)).k1
    have hlk := fun m => (f1H.out.below (w' := wr.drewN m) ((drew_more hd m).below w.heap.size) hlt).look_ok (tm := 44) (te := 25) Try.underlying44 (zTerm _)
    cases gk with
    | zero =>
      obtain ⟨⟨rfl, rfl, rfl⟩, hstop⟩ := hk
      obtain ⟨x, hx⟩ : ∃ x, t'[0] = x := ⟨_, rfl⟩
      have hxs : x < 0 → B x = none := fun h0 => hstop x t'.tail (by rw [← hx]; cases t' with | nil => simp at hlen | cons _ _ => rfl) h0
      rw [hx] at q hr
      by_cases h0 : x < 0
      · have hl : ∀ m, (Instr.lookup 44 (.map (some mb)) (.int .i64 x) true).run Try.prog (wr.drewN m) = .ok (.tuple #[.slice none 0 0, .bool false]) (wr.drewN m) := fun m => by
          have := hlk m x hr
          rw [f2H.out x (hxs h0)] at this; exact this
        have hdH := Lib.hid hd
        clear hstop hxs hw' hx hB ht' hd hlk
        go_wp2_with fail
        go_quiet (fail)
        clear hl
        all_goals go_wp2_with fail
        all_goals go_ret
        exact ⟨rfl, drew_more hdH.out _⟩
      · have hdH := Lib.hid hd
        clear hstop hxs hw' hx hB ht' hd hlk
        go_wp2_with fail
        go_ret
        exact ⟨rfl, hdH.out⟩
    | succ k =>
      obtain ⟨x, r, u, a3, c3, he, h0, hBx, hfx, hI3, hk⟩ := hk
      subst he
      have hu := hSH.out.wf _ _ hBx
      simp only [List.getElem_cons_zero] at q hr
      have hl : ∀ m, (Instr.lookup 44 (.map (some mb)) (.int .i64 x) true).run Try.prog (wr.drewN m) = .ok (.tuple #[.slice a3 u.length c3, .bool true]) (wr.drewN m) := fun m => by
        have := hlk m x hr
        rw [hfx] at this; exact this
      have hdH := Lib.hid hd
      have hkH2 := Lib.hid hk
      have huH := Lib.hid hu
      have hI3H := Lib.hid hI3
      clear hw' hB ht' hd hk hu hI3 hBx hfx hlk
      go_wp2_with fail
      go_quiet (fail)
      clear hl
      all_goals go_wp2_with fail
      go_roundg k
      case measure => omega
      case rel => exact ⟨u, a3, c3, rfl, hI3H.out, huH.out, hkH2.out, drew_more hdH.out _⟩
end Go.Proofs.Ytgkddhakhapjlaa
