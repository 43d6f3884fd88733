/- The proof of a statement, some of its texts joined in build order: part A. -/
import Derived.Test.YtgkddhakhapjlaaDoorUMatch
import Derived.Test.YtgkddhakhapjlaaDoorUniStep
import Derived.Test.YtgkddhakhapjlaaDoorMath6
import Derived.Test.YtgkddhakhapjlaaDoorWalkQ
import Derived.Test.YtgkddhakhapjlaaDoorWalkJ
import Derived.Deep.LoopGhost
import Derived.Test.YtgkddhakhapjlaaDoorWalkD
import Derived.Test.YtgkddhakhapjlaaDoorUSt
import Derived.Test.YtgkddhakhapjlaaDoorUAfter
import Derived.Test.YtgkddhakhapjlaaDoorRegion
import Derived.Test.YtgkddhakhapjlaaDoorWalkG
import Derived.Test.YtgkddhakhapjlaaDoorBoxList
import Derived.Test.YtgkddhakhapjlaaDoorWalkF
import Derived.Test.YtgkddhakhapjlaaDoorKeys
import Derived.Deep.RegionLaw
import Derived.Test.YtgkddhakhapjlaaDoorShAtoi
/- What unification makes of terms of valid logics, in plain words: renamed apart, unified, the canonical form; a hole in a term. No program is named. -/
namespace Go.Proofs.YtgkddhakhapjlaaDoor

/-- a put that goes well, written out -/
theorem put_form {s : Sg} {t p u : List Int} (h : (putE s t p u).2 = 0) : okT s t = true ∧ okT s u = true ∧ ∃ z r', place s t p 0 = some z ∧ (putE s t p u).1 = t.take z ++ (u ++ r') ∧ okT s (t.take z ++ (u ++ r')) = true ∧ t = t.take z ++ (partAt s (t.drop z) ++ r') ∧ okT s (partAt s (t.drop z)) = true ∧ t.drop (z + (partAt s (t.drop z)).length) = r' := by
  by_cases hok : okT s t = true ∧ okT s u = true
  · cases hp : place s t p 0 with
    | none => rw [putE_8 hok hp] at h; cases h
    | some z =>
      by_cases hl : (putL s t u z).length ≤ 60
      · rw [putE_0 hok hp hl]
        obtain ⟨r', hr, -⟩ := (place_sub p (okT_skip0 hok.1)).1 z hp
        obtain ⟨e1, e2, e3, e4⟩ := part_split hr
        have hu := (okT_parts hok.2).2.2.2
        have htl : (t.take z).length = z := by rw [List.length_take]; omega
        have hc : (putL s t u z).take z = t.take z := by unfold putL; rw [List.take_append_of_le_length (by omega), List.take_of_length_le (by omega)]
        have hd : (putL s t u z).drop z = u ++ r' := by
          unfold putL
          rw [e2, List.drop_append_of_le_length (by omega), List.drop_of_length_le (by omega), List.nil_append]
        have hzc : z ≤ (putL s t u z).length := by unfold putL; rw [List.length_append]; omega
        obtain ⟨-, g2, g3⟩ := place_put (by omega) hzc hc hr hd hu p (okT_skip0 hok.1) hp
        rw [List.drop_zero] at g3
        have hokc : okT s (putL s t u z) = true := okT_of_skip (okT_parts hok.1).1 g3 hl
        have hpl : putL s t u z = t.take z ++ (u ++ r') := by unfold putL; rw [e2]
        rw [hpl] at hokc
        refine ⟨hok.1, hok.2, z, r', rfl, hpl, hokc, ?_, (okT_part hok.1 hr).1, e2⟩
        rw [← (partAt_eq hr).1, List.take_append_drop]
      · rw [putE_4 hok hp hl] at h; cases h
  · rw [putE_1 hok] at h; cases h
/-- a term with a hole has as instances the term with anything in that place -/
theorem hole_inst {s : Sg} {t p u : List Int} {c : Int} (hc : c < 0) (hct : c ∉ t) (h1 : (putE s t p [c]).2 = 0) (h2 : (putE s t p u).2 = 0) :
    okT s (putE s t p [c]).1 = true ∧ okT s (putE s t p u).1 = true ∧ okT s t = true ∧ instB s (putE s t p [c]).1 (putE s t p u).1 = true ∧ instB s (putE s t p [c]).1 t = true := by
  obtain ⟨k1, -, z, r, hz, e1, o1, f1, p1, d1⟩ := put_form h1
  obtain ⟨-, k2, z', r', hz', e2, o2, f2, p2, d2⟩ := put_form h2
  rw [hz] at hz'
  cases hz'
  rw [d1] at d2
  subst d2
  have key : ∀ v : List Int, okT s v = true → instB s (t.take z ++ ([c] ++ r)) (t.take z ++ (v ++ r)) = true := by
    intro v hv
    refine instB_yes (η := fun n => if n = c then v else [n]) (fun n hn => ?_) ?_
    · show W1 s (if n = c then v else [n])
      split
      · exact okT_w1 hv
      · exact W1.var hn
    · have hid : ∀ l : List Int, c ∉ l → ap (fun n => if n = c then v else [n]) l = l := fun l hl => ap_id (fun n hn _ => if_neg (fun e => hl (by rw [← e]; exact hn)))
      rw [ap_append, ap_append, hid (t.take z) (fun hm => hct (List.mem_of_mem_take hm)), hid r (fun hm => hct (by rw [f1]; simp [hm])), ap_one hc, if_pos rfl]
  rw [e1, e2]
  refine ⟨o1, o2, k1, key u k2, ?_⟩
  have := key _ p1
  rw [← f1] at this
  exact this

/-- the variables of a term moved out of the way -/
def apN (n : Int) : Int := if n < 0 then n - 12 else n
def apartT (t : List Int) : List Int := t.map apN
theorem ap_apart {η : Int → List Int} {t : List Int} : ap η (apartT t) = ap (fun n => η (n - 12)) t := by
  induction t with
  | nil => rfl
  | cons n r ih =>
    show ap η (apN n :: apartT r) = _
    by_cases h : n < 0
    · rw [ap_neg h, apN, if_pos h, ap_neg (by omega), ih]
    · rw [ap_pos h, apN, if_neg h, ap_pos h, ih]
theorem apartT_eq (t : List Int) : apartT t = ap (fun n => [n - 12]) t := by
  induction t with
  | nil => rfl
  | cons n r ih =>
    show apN n :: apartT r = _
    by_cases h : n < 0
    · rw [ap_neg h, apN, if_pos h, ih]; rfl
    · rw [ap_pos h, apN, if_neg h, ih]
theorem apartT_w {s : Sg} {t : List Int} (h : W1 s t) : W1 s (apartT t) := by
  rw [apartT_eq]; exact h.ap (fun n hn => W1.var (by omega))
theorem apartT_len (t : List Int) : (apartT t).length = t.length := by unfold apartT; rw [List.length_map]
theorem okT_rg {s : Sg} {t : List Int} (h : okT s t = true) : ∀ n ∈ t, n < 0 → -12 ≤ n := fun n hn _ => (codeOk_bd (okT_parts h).1 (skip_codes s 1 t (okT_parts h).2.2.2 n hn)).1
theorem okT_Rg {s : Sg} {t : List Int} (h : okT s t = true) : Rg t := fun n hn h0 => by have := okT_rg h n hn h0; omega
theorem apartT_rg {s : Sg} {t : List Int} (h : okT s t = true) : Rg (apartT t) := fun n hn h0 => by
  unfold apartT at hn
  obtain ⟨m, hm, rfl⟩ := List.mem_map.1 hn
  unfold apN at h0 ⊢
  split
  · have := okT_rg h m hm ‹_›; omega
  · rename_i hh; rw [if_neg hh] at h0; omega
noncomputable def meetE (s : Sg) (a b : List Int) : List Int × Int := if okT s a = true ∧ okT s b = true then uniE s a (apartT b) a else ([], 1)
noncomputable def meetB (s : Sg) (a b : List Int) : Bool := okT s a && okT s b && uniB s a (apartT b)
noncomputable def unifB (s : Sg) (a b : List Int) : Bool := okT s a && okT s b && uniB s a b
theorem uniB_of_unified {s : Sg} {a b : List Int} (h : (∃ θ, IsMgu s a b θ)) : uniB s a b = true := by obtain ⟨θ, h⟩ := h; exact uniB_some h
end Go.Proofs.YtgkddhakhapjlaaDoor

/- Walks: Built. -/
namespace Go.Proofs.YtgkddhakhapjlaaDoor
open Go Go.RowKit Go.Maps

theorem OwnTs.lit1 {w : World} {a : Option Addr} {c : Nat} {u : List Int} {T : Nat → Prop} (h : Ints T w a c u) :
    OwnTs (fun _ => True) (w.alloc (.cells #[.slice a u.length c] 35)) w.heap.size (.slice (some ⟨w.heap.size, 0, none⟩) 1 1) [u] := by
  have hr := World.ownsRow_lit (base := w.heap.size) (e := 35) (size := 1) w #[.slice a u.length c] 1 (Nat.le_refl _) (by unfold maxLen; omega) (by simp)
  refine ⟨[[.slice a u.length c]], hr, rfl, fun i h1 h2 => ?_⟩
  match i, h1 with
  | 0, _ => exact ⟨a, c, rfl, (h.lt.weak (S' := Off (fun _ => True) (.slice (some ⟨w.heap.size, 0, none⟩) 1 1)) (fun b hb => ⟨trivial, fun e => by simp [Value.ownBlock] at e; omega⟩)).below (below1 _ _)⟩

theorem lit_append {S2 : Nat → Prop} {w w2 : World} {a2 : Option Addr} {c2 : Nat} {L : List (List Int)} (n : Int) (hn : inRange n) (h2 : Terms S2 w a2 c2 L) (hB : Below w.heap.size w w2) (hl : L.length ≤ 1000000) :
    ∃ a c w', RowKit.Hid ((Builtin.append_ #[24, 24] 24 #[.slice (some ⟨w2.heap.size + 1, 0, none⟩) 1 1, .slice a2 L.length c2]).run Tryd.prog ((w2.alloc (.cells #[.int .i64 n] 3)).alloc (.cells #[.slice (some ⟨w2.heap.size, 0, none⟩) 1 1] 35)) = .ok (.slice a (L.length + 1) c) w') ∧
      RowKit.Hid (Terms (fun _ => True) w' a c ([n] :: L)) ∧ RowKit.Hid (Below w2.heap.size w2 w') := by
  have hI : Ints (fun _ => True) (w2.alloc (.cells #[.int .i64 n] 3)) (some ⟨w2.heap.size, 0, none⟩) 1 [n] := by
    have := OwnL.lit (S := fun _ => False) w2 [n] 3 (by simpa using hn) (by unfold maxLen; simp)
    obtain ⟨a, c, he, hI⟩ := OwnI.ints this
    simp at he
    obtain ⟨rfl, rfl⟩ := he
    exact hI.any
  have ho := OwnTs.lit1 hI
  simp only [World.size_alloc] at ho
  have hB' : Below w.heap.size w ((w2.alloc (.cells #[.int .i64 n] 3)).alloc (.cells #[.slice (some ⟨w2.heap.size, 0, none⟩) 1 1] 35)) := hB.trans ((below2 _ _ _).mono hB.size)
  obtain ⟨v', w', hrun, ho', hg, -, -⟩ := ho.append_run (P := Tryd.prog) (t := 24) (ty := 24) Tryd.underlying24 infoTerm rfl (h2.lt.below hB') (fun i hi vs h => (slE intE).mono h (fun b _ hb => ⟨trivial, fun e => by have := hB.size; simp [Value.ownBlock] at e; omega⟩) (.refl _ _)) (by simp; omega) (by unfold big; simp; omega) (by simp)
  have hBn := (below2 w2 (.cells #[.int .i64 n] 3) (.cells #[.slice (some ⟨w2.heap.size, 0, none⟩) 1 1] 35)).grown hg (by simp; omega) (fun k e => by simp [Value.ownBlock] at e; omega)
  obtain ⟨a, c, rfl, hT⟩ := ho'.sl
  refine ⟨a, c, w', Lib.hid ?_, Lib.hid hT.any, Lib.hid hBn⟩
  simpa [Nat.add_comm] using hrun

end Go.Proofs.YtgkddhakhapjlaaDoor

/- Walks of package unify: a solver in the world; look. -/
namespace Go.Proofs.YtgkddhakhapjlaaDoor
open Go Go.RowKit Go.Maps

/-- looked up in k steps -/
def LkdN (B : Bd) (p : List Int) : Nat → List Int → Prop
  | 0, t => t = p ∧ ∀ n r, t = n :: r → n < 0 → B n = none
  | k + 1, t => ∃ n r u, t = n :: r ∧ n < 0 ∧ B n = some u ∧ LkdN B p k u
theorem Lkd.num {B : Bd} {t p : List Int} (h : Lkd B t p) : ∃ k, LkdN B p k t := by
  induction h with
  | stop h => exact ⟨0, rfl, h⟩
  | go hn hB _ ih => obtain ⟨k, hk⟩ := ih; exact ⟨k + 1, _, _, _, rfl, hn, hB, hk⟩

/-- the solver's own data: the sign and the map of what is bound -/
structure SolvW (w0 w : World) (xb mb n : Nat) (a1 : Option Addr) (c1 : Nat) (s : Sg) (B : Bd) : Prop where
  k0 : w.cell? ⟨xb, 0, none⟩ = some (.slice a1 s.length c1)
  k1 : w.cell? ⟨xb, 1, none⟩ = some (.map (some mb))
  map : BdMap w0 w mb n B
  bx : w0.heap.size ≤ xb
  bm : w0.heap.size ≤ mb
  ne : xb ≠ mb
  sg : Sign (fun b => b < w0.heap.size) w0 a1 c1 s
  bel : Below w0.heap.size w0 w
  wf : ∀ n u, B n = some u → W1 s u
theorem SolvW.lt {w0 w : World} {xb mb n : Nat} {a1 : Option Addr} {c1 : Nat} {s : Sg} {B : Bd} (h : SolvW w0 w xb mb n a1 c1 s B) : xb < w.heap.size := World.block_lt_of_cell? _ _ h.k0
theorem SolvW.below {w0 w w' : World} {xb mb n : Nat} {a1 : Option Addr} {c1 : Nat} {s : Sg} {B : Bd} (h : SolvW w0 w xb mb n a1 c1 s B) (hb : Below w.heap.size w w') : SolvW w0 w' xb mb n a1 c1 s B :=
  ⟨cell_later hb h.k0, cell_later hb h.k1, h.map.below hb h.map.lt, h.bx, h.bm, h.ne, h.sg, bcall h.bel hb, h.wf⟩

abbrev T0 (w0 : World) (a : Option Addr) (c : Nat) (t : List Int) : Prop := Ints (fun b => b < w0.heap.size) w0 a c t
/-- looked up in k steps, with where it lies -/
def LkF (w0 : World) (f : Int → Option Value) (B : Bd) (p : List Int) (a' : Option Addr) (c' : Nat) : Nat → Option Addr → Nat → List Int → Prop
  | 0, a, c, t => (t = p ∧ a = a' ∧ c = c') ∧ ∀ n r, t = n :: r → n < 0 → B n = none
  | k + 1, _, _, t => ∃ n r u a3 c3, t = n :: r ∧ n < 0 ∧ B n = some u ∧ f n = some (.slice a3 u.length c3) ∧ T0 w0 a3 c3 u ∧ LkF w0 f B p a' c' k a3 c3 u
theorem LkF.ex {w0 : World} {f : Int → Option Value} {B : Bd} {p : List Int} (h3 : ∀ x u, B x = some u → ∃ a c, f x = some (.slice a u.length c) ∧ T0 w0 a c u) :
    ∀ (k : Nat) (t : List Int) (a : Option Addr) (c : Nat), T0 w0 a c t → LkdN B p k t → ∃ a' c', LkF w0 f B p a' c' k a c t ∧ T0 w0 a' c' p
  | 0, t, a, c, hT, ⟨h1, h2⟩ => ⟨a, c, ⟨⟨h1, rfl, rfl⟩, h2⟩, h1 ▸ hT⟩
  | k + 1, t, a, c, hT, ⟨n, r, u, h1, h2, hB, h4⟩ => by
    obtain ⟨a3, c3, g1, g2⟩ := h3 n u hB
    obtain ⟨a', c', g3, g4⟩ := LkF.ex h3 k u a3 c3 g2 h4
    exact ⟨a', c', ⟨n, r, u, a3, c3, h1, h2, hB, g1, g2, g3⟩, g4⟩
def lookRel (w0 w : World) (s : Sg) (f : Int → Option Value) (B : Bd) (p : List Int) (a' : Option Addr) (c' : Nat) (k : Nat) (tv : Value) (wr : World) : Prop :=
  ∃ t a c, tv = .slice a (List.length t) c ∧ T0 w0 a c t ∧ W1 s t ∧ LkF w0 f B p a' c' k a c t ∧ Drew w wr
set_option maxRecDepth 20000 in
set_option maxHeartbeats 4000000 in
theorem look_any {w0 w : World} {xb mb n : Nat} {a1 : Option Addr} {c1 : Nat} {s : Sg} {B : Bd} (hS0 : SolvW w0 w xb mb n a1 c1 s B) {a : Option Addr} {c : Nat} {t p : List Int} (ht : T0 w0 a c t) (hw : W1 s t) (hl : Lkd B t p) :
    ∃ a' c', T0 w0 a' c' p ∧ ∀ m, Calls Tryd.prog 98 #[.pointer (some ⟨xb, 0, none⟩), .slice a t.length c] (w.drewN m) fun e w' => e = .returned (.slice a' p.length c') ∧ Drew (w.drewN m) w' := by
  obtain ⟨k0, hk0⟩ := hl.num
  obtain ⟨f, f1, f2, f3⟩ := hS0.map
  obtain ⟨a', c', hk1, hTp⟩ := LkF.ex f3 k0 t a c ht hk0
  refine ⟨a', c', hTp, fun m => ?_⟩
  have hS := hS0.below ((Drew.mk w m).below w.heap.size)
  have f1 := f1.below ((Drew.mk w m).below w.heap.size) hS0.map.lt
  generalize w.drewN m = w at *
  have hSH := Lib.hid hS
  have htH := Lib.hid ht
  have hwH := Lib.hid hw
  have hkH := Lib.hid hk1
  have m2 := ht.le
  have f1H := Lib.hid f1
  have f2H := Lib.hid f2
  have hlt := f1.lt
  clear hS ht hw hl hk0 hk1 hTp f1 f2 f3 hS0
  go_enter Tryd.func98, Tryd.ntmps98
  go_wp2_with fail
  go_loopg [1] k0 (fun k tv wr => lookRel w0 w s f B p a' c' k tv wr)
  case atStart => exact ⟨t, a, c, rfl, htH.out, hwH.out, hkH.out, .refl _⟩
  case round =>
    obtain ⟨t', a4, c4, rfl, ht', hw', hk, hd⟩ := hrel
    have hB := bcall hSH.out.bel (hd.below _)
    have hlen := hw'.len
    obtain ⟨b, o, rfl, -, q, hr⟩ := (ht'.below hB).int 0 (by omega)
    rw [Nat.add_zero] at q
    have q2 := (hSH.out.below (hd.below _)).k1
    have hlk := fun m => (f1H.out.below (w' := wr.drewN m) ((drew_more hd m).below w.heap.size) hlt).look_ok (tm := 77) (te := 35) Tryd.underlying77 (zTerm _)
    cases gk with
    | zero =>
      obtain ⟨⟨rfl, rfl, rfl⟩, hstop⟩ := hk
      obtain ⟨x, hx⟩ : ∃ x, t'[0] = x := ⟨_, rfl⟩
      have hxs : x < 0 → B x = none := fun h0 => hstop x t'.tail (by rw [← hx]; cases t' with | nil => simp at hlen | cons _ _ => rfl) h0
      rw [hx] at q hr
      by_cases h0 : x < 0
      · have hl : ∀ m, (Instr.lookup 77 (.map (some mb)) (.int .i64 x) true).run Tryd.prog (wr.drewN m) = .ok (.tuple #[.slice none 0 0, .bool false]) (wr.drewN m) := fun m => by
          have := hlk m x hr
          rw [f2H.out x (hxs h0)] at this; exact this
        have hdH := Lib.hid hd
        clear hstop hxs hw' hx hB ht' hd hlk
        go_wp2_with fail
        go_quiet (fail)
        clear hl
        all_goals go_wp2_with fail
        all_goals go_ret
        exact ⟨rfl, drew_more hdH.out _⟩
      · have hdH := Lib.hid hd
        clear hstop hxs hw' hx hB ht' hd hlk
        go_wp2_with fail
        go_ret
        exact ⟨rfl, hdH.out⟩
    | succ k =>
      obtain ⟨x, r, u, a3, c3, he, h0, hBx, hfx, hI3, hk⟩ := hk
      subst he
      have hu := hSH.out.wf _ _ hBx
      simp only [List.getElem_cons_zero] at q hr
      have hl : ∀ m, (Instr.lookup 77 (.map (some mb)) (.int .i64 x) true).run Tryd.prog (wr.drewN m) = .ok (.tuple #[.slice a3 u.length c3, .bool true]) (wr.drewN m) := fun m => by
        have := hlk m x hr
        rw [hfx] at this; exact this
      have hdH := Lib.hid hd
      have hkH2 := Lib.hid hk
      have huH := Lib.hid hu
      have hI3H := Lib.hid hI3
      clear hw' hB ht' hd hk hu hI3 hBx hfx hlk
      go_wp2_with fail
      go_quiet (fail)
      clear hl
      all_goals go_wp2_with fail
      go_roundg k
      case measure => omega
      case rel => exact ⟨u, a3, c3, rfl, hI3H.out, huH.out, hkH2.out, drew_more hdH.out _⟩
end Go.Proofs.YtgkddhakhapjlaaDoor

/- Walks of package unify: whether a variable comes. -/
namespace Go.Proofs.YtgkddhakhapjlaaDoor
open Go Go.RowKit Go.Maps

/-- what was met from M to M' is not v, and all that stands for it was met, too -/
def Mets (B : Bd) (v : Int) (M M' : Bd) : Prop := ∀ m, M m = none → (M' m).isSome = true → m ≠ v ∧ ∀ u, B m = some u → ∀ k ∈ u, k < 0 → (M' k).isSome = true
def Sub (M M' : Bd) : Prop := ∀ m, (M m).isSome = true → (M' m).isSome = true
theorem Sub.refl (M : Bd) : Sub M M := fun _ h => h
theorem Sub.trans {A B C : Bd} (h : Sub A B) (k : Sub B C) : Sub A C := fun m hm => k m (h m hm)
theorem Sub.up {M : Bd} {x : Int} {q : List Int} : Sub M (upB M x q) := fun m hm => by
  unfold upB; split
  · rfl
  · exact hm
theorem upB_same {M : Bd} {x : Int} {q : List Int} : (upB M x q) x = some q := by unfold upB; rw [if_pos rfl]
theorem upB_other {M : Bd} {x m : Int} {q : List Int} (h : m ≠ x) : (upB M x q) m = M m := by unfold upB; rw [if_neg h]
theorem isSome_none {α : Type} {o : Option α} (h : ¬ o.isSome = true) : o = none := by cases o <;> simp_all
theorem Mets.refl (B : Bd) (v : Int) (M : Bd) : Mets B v M M := fun m h1 h2 => by rw [h1] at h2; cases h2
theorem Mets.leaf {B M M1 : Bd} {v x : Int} (h : Mets B v M M1) (hx : x ≠ v) (hB : B x = none) : Mets B v M (upB M1 x []) := fun m h1 h2 => by
  by_cases e : m = x
  · subst e; exact ⟨hx, fun u hu => by rw [hB] at hu; cases hu⟩
  · rw [upB_other e] at h2
    obtain ⟨g1, g2⟩ := h m h1 h2
    exact ⟨g1, fun u hu k hk h0 => Sub.up _ (g2 u hu k hk h0)⟩
theorem Mets.node {B M M1 M2 : Bd} {v x : Int} {u : List Int} (h : Mets B v M M1) (hx : x ≠ v) (hB : B x = some u) (h2 : Mets B v (upB M1 x []) M2) (hs : Sub (upB M1 x []) M2) (hu : ∀ k ∈ u, k < 0 → (M2 k).isSome = true) : Mets B v M M2 := fun m g1 g2 => by
  by_cases e : m = x
  · subst e; exact ⟨hx, fun u' hu' => by rw [hB] at hu'; cases hu'; exact hu⟩
  · by_cases e1 : (M1 m).isSome = true
    · obtain ⟨k1, k2⟩ := h m g1 e1
      exact ⟨k1, fun u' hu' k hk h0 => hs k (Sub.up k (k2 u' hu' k hk h0))⟩
    · exact h2 m (by rw [upB_other e]; exact isSome_none e1) g2
theorem mets_not {s : Sg} {B : Bd} {θ : Int → List Int} {ρ : Int → Nat} (h : Slv s B θ ρ) {v : Int} {M : Bd} (hm : Mets B v (fun _ => none) M) : ∀ (K : Nat) (t : List Int), (∀ n ∈ t, n < 0 → (M n).isSome = true) → (∀ n ∈ t, n < 0 → ρ n < K) → v < 0 → v ∉ ap θ t
  | K, t, h1, h2, hv, hmem => by
    rcases mem_ap.1 hmem with ⟨-, e⟩ | ⟨n, hn, h0, hvn⟩
    · exact e hv
    · obtain ⟨g1, g2⟩ := hm n rfl (h1 n hn h0)
      cases hB : B n with
      | none => rw [h.free n h0 hB, List.mem_singleton] at hvn; exact g1 hvn.symm
      | some u =>
        rw [h.bnd n u hB] at hvn
        cases K with
        | zero => have := h2 n hn h0; omega
        | succ K =>
          exact mets_not h hm K u (g2 u hB) (fun m hm' h0' => by have := h.rk n u hB m hm' h0'; have := h2 n hn h0; omega) hv hvn

/-- the map of what was met -/
def MetW (w : World) (mm n : Nat) (M : Bd) : Prop := ∃ f, VMap KI w mm n f ∧ ∀ x, f x = (M x).map fun _ => .bool true
theorem MetW.made (w : World) : MetW (w.alloc (.map #[] 0)) w.heap.size 0 (fun _ => none) := ⟨_, VMap.made KI w, fun _ => rfl⟩
theorem MetW.lt {w : World} {mm n : Nat} {M : Bd} (h : MetW w mm n M) : mm < w.heap.size := by obtain ⟨f, h1, -⟩ := h; exact h1.lt
theorem MetW.below {w w' : World} {mm n K : Nat} {M : Bd} (h : MetW w mm n M) (hb : Below K w w') (hm : mm < K) : MetW w' mm n M := by
  obtain ⟨f, h1, h2⟩ := h; exact ⟨f, h1.below hb hm, h2⟩
theorem MetW.look {w : World} {mm n : Nat} {M : Bd} (h : MetW w mm n M) (x : Int) (hx : inRange x) :
    (Instr.lookup 169 (.map (some mm)) (.int .i64 x) false).run Tryd.prog w = .ok (.bool (M x).isSome) w := by
  obtain ⟨f, h1, h2⟩ := h
  have := h1.look (tm := 169) (te := 4) Tryd.underlying169 (zBool w) x hx
  rw [h2 x] at this
  cases hM : M x with
  | none => rw [hM] at this; exact this
  | some u => rw [hM] at this; exact this
theorem MetW.store {w : World} {mm n : Nat} {M : Bd} (h : MetW w mm n M) (hn : n < maxLen) (x : Int) (hx : inRange x) (hM : M x = none) :
    ∃ w', RowKit.Hid ((Instr.mapUpdate 169 (.map (some mm)) (.int .i64 x) (.bool true)).run Tryd.prog w = .ok () w') ∧ RowKit.Hid (MetW w' mm (n + 1) (upB M x [])) ∧ RowKit.Hid (w.grownBy w' (some mm)) := by
  obtain ⟨f, h1, h2⟩ := h
  obtain ⟨w', r, hv, hg⟩ := h1.store (tm := 169) (te := 4) Tryd.underlying169 hn x hx (.bool true)
  rw [if_neg (by rw [h2 x, hM]; simp)] at hv
  refine ⟨w', Lib.hid r, Lib.hid ⟨_, hv, fun y => ?_⟩, Lib.hid hg⟩
  unfold upB
  by_cases e : y = x
  · rw [if_pos e, if_pos e]; rfl
  · rw [if_neg e, if_neg e]; exact h2 y
theorem SolvW.grown {w0 w w' : World} {xb mb n k : Nat} {a1 : Option Addr} {c1 : Nat} {s : Sg} {B : Bd} (h : SolvW w0 w xb mb n a1 c1 s B) (hg : w.grownBy w' (some k)) (h1 : k ≠ xb) (h2 : k ≠ mb) (h3 : w0.heap.size ≤ k) : SolvW w0 w' xb mb n a1 c1 s B := by
  have hx : w'.heap[xb]? = w.heap[xb]? := hg.block xb h.lt (fun e => h1 (by injection e with e; exact e.symm))
  obtain ⟨f, m1, m2, m3⟩ := h.map
  exact ⟨(World.cell?_of_block (a := ⟨xb, 0, none⟩) hx).trans h.k0, (World.cell?_of_block (a := ⟨xb, 1, none⟩) hx).trans h.k1, ⟨f, m1.same (hg.block mb m1.lt (fun e => h2 (by injection e with e; exact e.symm))), m2, m3⟩, h.bx, h.bm, h.ne, h.sg,
    h.bel.grown hg h.bel.size (fun j e => by injection e with e; omega), h.wf⟩

/-- the captured variables of comes -/
structure CapW (w : World) (vb tb xx wb xb mm : Nat) (v : Int) : Prop where
  v : w.cell? ⟨vb, 0, none⟩ = some (.int .i64 v)
  t : w.cell? ⟨tb, 0, none⟩ = some (.map (some mm))
  x : w.cell? ⟨xx, 0, none⟩ = some (.pointer (some ⟨xb, 0, none⟩))
  f : w.cell? ⟨wb, 0, none⟩ = some (.func (.func 112) #[] #[.pointer (some ⟨vb, 0, none⟩), .pointer (some ⟨tb, 0, none⟩), .pointer (some ⟨xx, 0, none⟩), .pointer (some ⟨wb, 0, none⟩)])
  n1 : vb ≠ mm
  n2 : tb ≠ mm
  n3 : xx ≠ mm
  n4 : wb ≠ mm
theorem CapW.grown {w w' : World} {vb tb xx wb xb mm : Nat} {v : Int} (h : CapW w vb tb xx wb xb mm v) (hg : w.grownBy w' (some mm)) : CapW w' vb tb xx wb xb mm v := by
  have hk : ∀ b o u, b ≠ mm → w.cell? ⟨b, o, none⟩ = some u → w'.cell? ⟨b, o, none⟩ = some u := fun b o u hb hu =>
    (World.cell?_of_block (a := ⟨b, o, none⟩) (hg.block b (World.block_lt_of_cell? _ _ hu) (fun e => hb (by injection e)))).trans hu
  exact ⟨hk _ _ _ h.n1 h.v, hk _ _ _ h.n2 h.t, hk _ _ _ h.n3 h.x, hk _ _ _ h.n4 h.f, h.n1, h.n2, h.n3, h.n4⟩
theorem MetW.drawn {w : World} {mm n : Nat} {M : Bd} (h : MetW w mm n M) (m : Nat) : MetW (w.drewN m) mm n M := h.below ((Drew.mk w m).below w.heap.size) h.lt
end Go.Proofs.YtgkddhakhapjlaaDoor

/- Walks of package unify: comes, walked. -/
namespace Go.Proofs.YtgkddhakhapjlaaDoor
open Go Go.RowKit Go.Maps

def comesRet (B : Bd) (θ : Int → List Int) (v : Int) (t : List Int) (mm : Nat) (M : Bd) (w : World) (e : Ending) (w' : World) : Prop :=
  ∃ (M' : Bd) (n' : Nat) (r : Bool), e = .returned (.bool r) ∧ MetW w' mm n' M' ∧ n' + free M' ≤ 24 ∧ w.grownBy w' (some mm) ∧ Sub M M' ∧ (r = true → v ∈ ap θ t) ∧
    (r = false → (∀ n ∈ t, n < 0 → (M' n).isSome = true) ∧ Mets B v M M')
def comesRel (B : Bd) (v : Int) (t : List Int) (mm : Nat) (M : Bd) (w : World) (jv : Value) (wr : World) : Prop :=
  ∃ (j n : Nat) (M' : Bd), jv = .int .i64 j ∧ j ≤ t.length ∧ MetW wr mm n M' ∧ n + free M' ≤ 24 ∧ w.grownBy wr (some mm) ∧ Sub M M' ∧ (∀ n ∈ t.take j, n < 0 → (M' n).isSome = true) ∧ Mets B v M M'
theorem take_all {t : List Int} {j : Nat} {P : Int → Prop} (h : ∀ n ∈ t.take j, P n) (hj : j < t.length) (hp : P t[j]) : ∀ n ∈ t.take (j + 1), P n := by
  intro n hn
  rw [List.take_succ_eq_append_getElem hj, List.mem_append, List.mem_singleton] at hn
  rcases hn with e | e
  · exact h n e
  · rw [e]; exact hp

theorem grown_by' {w w1 w2 : World} {o : Option Nat} (h : w.grownBy w1 o) (b : w1.grownBy w2 o) : w.grownBy w2 o :=
  ⟨b.os.trans h.os, b.tape.trans h.tape, b.output.trans h.output, Nat.le_trans h.size b.size, fun x hx hne => (b.block x (Nat.lt_of_lt_of_le hx h.size) hne).trans (h.block x hx hne)⟩
set_option maxRecDepth 20000 in
set_option maxHeartbeats 8000000 in
theorem comes1_any {w0 : World} {xb mb nb : Nat} {a1 : Option Addr} {c1 : Nat} {s : Sg} {B : Bd} {θ : Int → List Int} {ρ : Int → Nat} (hSl : Slv s B θ ρ) (hRg : RgB B) {v : Int} (hv : v < 0) (hBv : B v = none) (vb tb xx wb mm : Nat) (hmx : mm ≠ xb) (hmb : mm ≠ mb) (hm0 : w0.heap.size ≤ mm) :
    ∀ (K : Nat) (t : List Int) (a : Option Addr) (c n : Nat) (M : Bd) (w : World), (∀ m ∈ t, m < 0 → ρ m < K) → Rg t → T0 w0 a c t → SolvW w0 w xb mb nb a1 c1 s B → CapW w vb tb xx wb xb mm v → MetW w mm n M → n + free M ≤ 24 →
      Calls Tryd.prog 112 #[.slice a t.length c, .pointer (some ⟨vb, 0, none⟩), .pointer (some ⟨tb, 0, none⟩), .pointer (some ⟨xx, 0, none⟩), .pointer (some ⟨wb, 0, none⟩)] w (comesRet B θ v t mm M w) := by
  intro K
  induction K using Nat.strongRecOn with
  | _ K ih =>
    intro t a c n M w hK hR hT hS hC hM hn
    have ihH := Lib.hid ih
    have hKH := Lib.hid hK
    have hRH := Lib.hid hR
    have hTH := Lib.hid hT
    have hSH := Lib.hid hS
    have hCH := Lib.hid hC
    have hMH := Lib.hid hM
    have hnH := Lib.hid hn
    have m2 := hT.le
    clear ih hK hR hT hS hC hM hn
    go_enter Tryd.func112, Tryd.ntmps112
    go_wp2_with fail
    go_loopw [13] (fun jv wr => comesRel B v t mm M w jv wr) (fun jv _ => t.length - (intOf jv).toNat)
    case atStart => exact ⟨0, n, M, rfl, Nat.zero_le _, hMH.out, hnH.out, ⟨rfl, rfl, rfl, Nat.le_refl _, fun _ _ _ => rfl⟩, .refl _, (fun _ h => by cases h), .refl _ _ _⟩
    case round =>
      obtain ⟨j, n1, M1, rfl, hj, hM1, hn1, hg, hs1, ht1, hMt⟩ := hrel
      have hS1 := hSH.out.grown hg hmx hmb hm0
      have hC1 := hCH.out.grown hg
      by_cases hlt : j < t.length
      · obtain ⟨b, o, rfl, -, q, hr⟩ := (hTH.out.below hS1.bel).int j hlt
        obtain ⟨x, hx⟩ : ∃ x, t[j] = x := ⟨_, rfl⟩
        have hxm : x ∈ t := hx ▸ List.getElem_mem hlt
        have htk : x < 0 → ∀ M2 : Bd, Sub M1 M2 → (M2 x).isSome = true → ∀ n ∈ t.take (j + 1), n < 0 → (M2 n).isSome = true := fun _ M2 hsb hx2 => take_all (fun n hn h0 => hsb n (ht1 n hn h0)) hlt (by rw [hx]; exact fun _ => hx2)
        have htp : ¬ x < 0 → ∀ n ∈ t.take (j + 1), n < 0 → (M1 n).isSome = true := fun hx0 => take_all ht1 hlt (by rw [hx]; exact fun h => (hx0 h).elim)
        rw [hx] at q hr
        have qv := hC1.v
        have qt := hC1.t
        have qx := hC1.x
        have qf := hC1.f
        have hM1H := Lib.hid hM1
        have hgH := Lib.hid hg
        have hs1H := Lib.hid hs1
        have hMtH := Lib.hid hMt
        have htkH := Lib.hid htk
        have htpH := Lib.hid htp
        have hS1H := Lib.hid hS1
        have hC1H := Lib.hid hC1
        have hn1H := Lib.hid hn1
        clear hM1 hg hs1 hMt htk htp hS1 hC1 hx ht1
        by_cases hxv : x = v
        · subst hxv
          have hin : x ∈ ap θ t := mem_ap.2 (.inr ⟨x, hxm, hv, by rw [hSl.free x hv hBv]; simp⟩)
          have hinH := Lib.hid hin
          have hxx : (x == x) = true := by simp
          clear hin hxm
          go_wp2_with fail
          go_ret
          exact ⟨M1, n1, true, rfl, hM1H.out, hn1H.out, hgH.out, hs1H.out, fun _ => hinH.out, fun h => by cases h⟩
        · have hxvb : (x == v) = false := by simpa using hxv
          by_cases hx0 : x < 0
          · have hlk := hM1H.out.look x hr
            by_cases hmet : (M1 x).isSome = true
            · rw [hmet] at hlk
              have htk := Lib.hid (htkH.out hx0 M1 (.refl _) hmet)
              clear hxm hmet
              go_wp2_with fail
              go_roundw
              case rel => exact ⟨j + 1, n1, M1, by go_num, by omega, hM1H.out, hn1H.out, hgH.out, hs1H.out, htk.out, hMtH.out⟩
              case measure => simp [intOf]; omega
            · have hnone := isSome_none hmet
              rw [hnone] at hlk
              have hx24 := hRH.out x hxm hx0
              have hfr := free_bind (q := []) hx0 hx24 hnone
              obtain ⟨w2, hst, hM2, hg2⟩ := hM1H.out.store (by have := hn1H.out; unfold maxLen; omega) x hr hnone
              have hst2 := hst.out
              have hgg := grown_by' hgH.out hg2.out
              have hS2 := hSH.out.grown hgg hmx hmb hm0
              have hC2 := hCH.out.grown hgg
              have p1 := hS2.k1
              have qx2 := hC2.x
              have qf2 := hC2.f
              have hn2 : n1 + 1 + free (upB M1 x []) ≤ 24 := by have := hn1H.out; omega
              have htk := htkH.out hx0 (upB M1 x []) Sub.up (by rw [upB_same]; rfl)
              have hin : ∀ u, B x = some u → v ∈ ap θ u → v ∈ ap θ t := fun u hu hvu => mem_ap.2 (.inr ⟨x, hxm, hx0, by rw [hSl.bnd x u hu]; exact hvu⟩)
              have hKx := hKH.out x hxm hx0
              cases hBx : B x with
              | none =>
                have hlk2 := hS2.map.look_none x hr hBx
                have hMts := Lib.hid (hMtH.out.leaf hxv hBx)
                have htkH2 := Lib.hid htk
                have hggH := Lib.hid hgg
                have hn2H := Lib.hid hn2
                clear hgg hS2 hC2 hn2 hin htk hnone hfr hxm hxv hBx hmet
                go_wp2_with fail
                go_roundw
                case rel => exact ⟨j + 1, n1 + 1, _, by go_num, by omega, hM2.out, hn2H.out, hggH.out, hs1H.out.trans Sub.up, htkH2.out, hMts.out⟩
                case measure => simp [intOf]; omega
              | some u =>
                obtain ⟨a3, c3, hlk2, hI3⟩ := hS2.map.look_some x hr hBx
                have cw := ihH.out (ρ x) hKx u a3 c3 (n1 + 1) (upB M1 x []) w2 (fun m hm h0 => hSl.rk x u hBx m hm h0) (hRg x u hBx).1 hI3 hS2 hC2 hM2.out hn2
                have hMts := Lib.hid fun M3 h1 h2 h3 => hMtH.out.node (M2 := M3) hxv hBx h1 h2 h3
                have hinH := Lib.hid (hin u hBx)
                have cwH := Lib.hid cw
                have htkH2 := Lib.hid htk
                have hggH := Lib.hid hgg
                have hn2H := Lib.hid hn2
                clear hgg hS2 hC2 hn2 hin htk hnone hfr hxm hxv hBx hmet cw hI3
                go_wp2_with fail
                (with_reducible refine cwH.out.mono ?_)
                rintro e w3 ⟨M3, n3, r3, rfl, hM3, hn3, hg3, hs3, ht3, hf3⟩
                have hM3H := Lib.hid hM3
                have hn3H := Lib.hid hn3
                have hg3H := Lib.hid (grown_by' hggH.out hg3)
                have hs3H := Lib.hid hs3
                cases r3 with
                | true =>
                  have hrH := Lib.hid (hinH.out (ht3 rfl))
                  clear hM3 hn3 hg3 hs3 ht3 hf3
                  go_wp2_with fail
                  go_ret
                  exact ⟨M3, n3, true, rfl, hM3H.out, hn3H.out, hg3H.out, (hs1H.out.trans Sub.up).trans hs3H.out, fun _ => hrH.out, fun h => by cases h⟩
                | false =>
                  have hrH := Lib.hid (hf3 rfl)
                  clear hM3 hn3 hg3 hs3 ht3 hf3
                  go_wp2_with fail
                  go_roundw
                  case rel => exact ⟨j + 1, n3, M3, by go_num, by omega, hM3H.out, hn3H.out, hg3H.out, (hs1H.out.trans Sub.up).trans hs3H.out, fun n hn h0 => hs3H.out n (htkH2.out n hn h0), hMts.out M3 hrH.out.2 hs3H.out hrH.out.1⟩
                  case measure => simp [intOf]; omega
          · have htk := Lib.hid (htpH.out hx0)
            clear hxm hxv
            go_wp2_with fail
            go_roundw
            case rel => exact ⟨j + 1, n1, M1, by go_num, by omega, hM1H.out, hn1H.out, hgH.out, hs1H.out, htk.out, hMtH.out⟩
            case measure => simp [intOf]; omega
      · obtain rfl : j = t.length := by omega
        rw [List.take_length] at ht1
        have ht1H := Lib.hid ht1
        have hM1H := Lib.hid hM1
        have hgH := Lib.hid hg
        have hs1H := Lib.hid hs1
        have hMtH := Lib.hid hMt
        have hn1H := Lib.hid hn1
        clear hM1 hg hs1 hMt ht1 hS1 hC1
        go_wp2_with fail
        go_ret
        exact ⟨M1, n1, false, rfl, hM1H.out, hn1H.out, hgH.out, hs1H.out, (fun h => by cases h), fun _ => ⟨ht1H.out, hMtH.out⟩⟩
theorem cap_made (w W : World) (xb : Nat) (v : Int) (t1 t2 t3 t4 : TypeId)
    (hW : ((((w.alloc (.cells #[.pointer (some ⟨xb, 0, none⟩)] t1)).alloc (.cells #[.int .i64 v] t2)).alloc (.map #[] 0)).alloc (.cells #[.map (some (w.heap.size + 1 + 1))] t3)).alloc
      (.cells #[.func (.func 112) #[] #[.pointer (some ⟨w.heap.size + 1, 0, none⟩), .pointer (some ⟨w.heap.size + 1 + 1 + 1, 0, none⟩), .pointer (some ⟨w.heap.size, 0, none⟩), .pointer (some ⟨w.heap.size + 1 + 1 + 1 + 1, 0, none⟩)]] t4) = W) :
    CapW W (w.heap.size + 1) (w.heap.size + 1 + 1 + 1) w.heap.size (w.heap.size + 1 + 1 + 1 + 1) xb (w.heap.size + 1 + 1) v ∧ MetW W (w.heap.size + 1 + 1) 0 (fun _ => none) ∧ Below w.heap.size w W := by
  have e1 : W.cell? ⟨w.heap.size + 1, 0, none⟩ = some (.int .i64 v) := by rw [← hW]; clear hW; go_simp
  have e2 : W.cell? ⟨w.heap.size + 1 + 1 + 1, 0, none⟩ = some (.map (some (w.heap.size + 1 + 1))) := by rw [← hW]; clear hW; go_simp
  have e3 : W.cell? ⟨w.heap.size, 0, none⟩ = some (.pointer (some ⟨xb, 0, none⟩)) := by rw [← hW]; clear hW; go_simp
  have e4 : W.cell? ⟨w.heap.size + 1 + 1 + 1 + 1, 0, none⟩ = some (.func (.func 112) #[] #[.pointer (some ⟨w.heap.size + 1, 0, none⟩), .pointer (some ⟨w.heap.size + 1 + 1 + 1, 0, none⟩), .pointer (some ⟨w.heap.size, 0, none⟩), .pointer (some ⟨w.heap.size + 1 + 1 + 1 + 1, 0, none⟩)]) := by rw [← hW]; clear hW; go_simp
  refine ⟨⟨e1, e2, e3, e4, by omega, by omega, by omega, by omega⟩, ?_, ?_⟩
  · have h := MetW.made ((w.alloc (.cells #[.pointer (some ⟨xb, 0, none⟩)] t1)).alloc (.cells #[.int .i64 v] t2))
    have h2 := h.below (below2 _ (.cells #[.map (some (w.heap.size + 1 + 1))] t3) (.cells #[.func (.func 112) #[] #[.pointer (some ⟨w.heap.size + 1, 0, none⟩), .pointer (some ⟨w.heap.size + 1 + 1 + 1, 0, none⟩), .pointer (some ⟨w.heap.size, 0, none⟩), .pointer (some ⟨w.heap.size + 1 + 1 + 1 + 1, 0, none⟩)]] t4)) (by simp)
    rw [hW] at h2
    simpa using h2
  · rw [← hW]
    exact (((((Below.refl _ w).alloc (by simp) _).alloc (by simp <;> omega) _).alloc (by simp <;> omega) _).alloc (by simp <;> omega) _).alloc (by simp <;> omega) _
theorem free_none : free (fun _ => none) = 24 := by decide
theorem rank_bound (ρ : Int → Nat) : ∀ t : List Int, ∃ K, ∀ m ∈ t, m < 0 → ρ m < K
  | [] => ⟨0, fun _ h => by cases h⟩
  | x :: t => by
    obtain ⟨K, hK⟩ := rank_bound ρ t
    refine ⟨max K (ρ x + 1), fun m hm h0 => ?_⟩
    rcases List.mem_cons.1 hm with e | e
    · subst e; omega
    · have := hK m e h0; omega
set_option maxRecDepth 20000 in
set_option maxHeartbeats 4000000 in
theorem comes_any {w0 w : World} {xb mb nb : Nat} {a1 : Option Addr} {c1 : Nat} {s : Sg} {B : Bd} {θ : Int → List Int} {ρ : Int → Nat} (hS : SolvW w0 w xb mb nb a1 c1 s B) (hSl : Slv s B θ ρ) (hRg : RgB B) {v : Int} (hv : v < 0) (hBv : B v = none) {a : Option Addr} {c : Nat} {t : List Int} (ht : T0 w0 a c t) (hR : Rg t) :
    Calls Tryd.prog 99 #[.pointer (some ⟨xb, 0, none⟩), .int .i64 v, .slice a t.length c] w fun e w' => ∃ r, e = .returned (.bool r) ∧ (r = true ↔ v ∈ ap θ t) ∧ Below w.heap.size w w' := by
  obtain ⟨K, hK⟩ := rank_bound ρ t
  have hmm := @run_makeMap Tryd.prog
  have hx1 := hS.lt
  have hm1 := hS.map.lt
  have hz := hS.bel.size
  have hSH := Lib.hid hS
  have m2 := ht.le
  have key := fun vb tb xx wb mm hmx hmb hm0 n M W => comes1_any (w0 := w0) (xb := xb) (mb := mb) (nb := nb) (a1 := a1) (c1 := c1) hSl hRg hv hBv vb tb xx wb mm hmx hmb hm0 K t a c n M W hK hR ht
  have keyH := Lib.hid key
  clear key hS
  go_enter Tryd.func99, Tryd.ntmps99
  go_wp2_with fail
  obtain ⟨hC, hM, hB⟩ := cap_made w _ xb v _ _ _ _ rfl
  (with_reducible refine (keyH.out _ _ _ _ _ (by omega) (by omega) (by omega) 0 _ _ (hSH.out.below hB) hC hM (by rw [free_none]; omega)).mono ?_)
  rintro e w3 ⟨M3, n3, r3, rfl, -, -, hg3, -, ht3, hf3⟩
  have hB3 : Below w.heap.size w w3 := hB.grown hg3 hB.size (fun j e => by injection e with e; omega)
  have hiff : r3 = true ↔ v ∈ ap θ t := ⟨ht3, fun hin => by
    cases r3 with
    | true => rfl
    | false => obtain ⟨k1, k2⟩ := hf3 rfl; exact (mets_not hSl k2 K t k1 hK hv hin).elim⟩
  have hiffH := Lib.hid hiff
  have hB3H := Lib.hid hB3
  clear hiff hB3 ht3 hf3 hg3 hC hM hB
  go_wp2_with fail
  go_ret
  exact ⟨_, rfl, hiffH.out, hB3H.out⟩
end Go.Proofs.YtgkddhakhapjlaaDoor

/- Two terms that can be made equal have a most general unifier; what it makes of terms is valid; names of variables do not matter. No program is named. -/
namespace Go.Proofs.YtgkddhakhapjlaaDoor

theorem arW_le3 {s : Sg} (hok : okSign s = true) {n : Int} (h : n < s.length) : arW s n ≤ 3 := by
  by_cases h0 : n < 0
  · rw [arW_neg h0]; omega
  · obtain ⟨m, rfl⟩ := Int.eq_ofNat_of_zero_le (show 0 ≤ n by omega)
    have hm : m < s.length := by omega
    have h1 := okSign_ars hok m hm
    have h2 := arW_sym hm h1.1
    omega
theorem argsW_le3 {s : Sg} (hok : okSign s = true) {P : List Int} (h : W1 s P) : (argsW s P).length ≤ 3 := by
  cases P with
  | nil => exact (h.ne rfl).elim
  | cons n r => rw [h.args.1]; exact arW_le3 hok h.args.2.2.2
theorem last_snoc' {α : Type} (L : List α) : L = [] ∨ ∃ L0 e, L = L0 ++ [e] := by
  rcases List.eq_nil_or_concat L with rfl | ⟨L0, e, rfl⟩
  · exact .inl rfl
  · exact .inr ⟨L0, e, by rw [List.concat_eq_append]⟩
theorem mgu_run {s : Sg} (hok : okSign s = true) {a b : List Int} : ∀ (k : Nat) (B : Bd) (θ : Int → List Int) (ρ : Int → Nat) (L : Prs), St s a b k B θ ρ L → (∃ θ', IsMgu s a b θ') ∨ ∀ η, Wsub s η → ap η a ≠ ap η b := by
  intro k
  induction k with
  | zero =>
    intro B θ ρ L h
    have hL : L = [] := h.halts
    subst hL
    exact .inl ⟨θ, B, ρ, h.slv, h.eq.done⟩
  | succ k ih =>
    intro B θ ρ L h
    rcases last_snoc' L with rfl | ⟨L0, ⟨x, y⟩, rfl⟩
    · exact .inl ⟨θ, B, ρ, h.slv, h.eq.done⟩
    · have hrk : ∀ t : List Int, ∀ n r, t = n :: r → n < 0 → ρ n < ρ (t.headD 0) + 1 := fun t n r e _ => by rw [e]; simp
      obtain ⟨p, hp⟩ := Lkd.ex h.slv _ x (hrk x)
      obtain ⟨q, hq⟩ := Lkd.ex h.slv _ y (hrk y)
      have hN := h.nxt hp hq
      generalize (turned p q).1 = P at hN
      generalize (turned p q).2 = Q at hN
      by_cases h0 : P.headD 0 < 0
      · by_cases he : Q.headD 0 = P.headD 0
        · exact ih _ _ _ _ (hN.same h0 he)
        · by_cases ho : P.headD 0 ∈ ap θ Q
          · exact .inr (hN.occ h0 he ho)
          · obtain ⟨θ', ρ', h'⟩ := hN.bind h0 he ho
            exact ih _ _ _ _ h'
      · by_cases he : Q.headD 0 = P.headD 0
        · exact ih _ _ _ _ (hN.args (by omega) he (argsW_le3 hok hN.sP.w))
        · exact .inr (hN.clash (by omega) (fun e => he e.symm))
theorem mgu_ex {s : Sg} (hok : okSign s = true) {a b : List Int} (ha : W1 s a) (hb : W1 s b) (ra : Rg a) (rb : Rg b) {η : Int → List Int} (hw : Wsub s η) (he : ap η a = ap η b) : ∃ θ, IsMgu s a b θ := by
  obtain ⟨k, hk⟩ := St.start ha hb ra rb
  rcases mgu_run hok k _ _ _ _ hk with h | h
  · exact h
  · exact (h η hw he).elim
theorem uniB_iff {s : Sg} (hok : okSign s = true) {a b : List Int} (ha : W1 s a) (hb : W1 s b) (ra : Rg a) (rb : Rg b) : uniB s a b = true ↔ ∃ η, Wsub s η ∧ ap η a = ap η b := by
  constructor
  · intro h
    cases hm : mgu s a b with
    | none => unfold uniB at h; rw [hm] at h; cases h
    | some θ => exact ⟨θ, (mgu_some hm).th, (mgu_some hm).eq⟩
  · rintro ⟨η, hw, he⟩
    obtain ⟨θ, hθ⟩ := mgu_ex hok ha hb ra rb hw he
    exact uniB_some hθ
/-- the two ways of a unification -/
theorem uni_cases {s : Sg} (hok : okSign s = true) {a b : List Int} (ha : W1 s a) (hb : W1 s b) (ra : Rg a) (rb : Rg b) :
    (∃ θ, IsMgu s a b θ) ∨ ((∀ η, Wsub s η → ap η a ≠ ap η b) ∧ uniB s a b = false ∧ ∀ t, uniE s a b t = ([], 8)) := by
  by_cases h : ∃ η, Wsub s η ∧ ap η a = ap η b
  · obtain ⟨η, hw, he⟩ := h
    exact .inl (mgu_ex hok ha hb ra rb hw he)
  · have h' : ∀ η, Wsub s η → ap η a ≠ ap η b := fun η hw he => h ⟨η, hw, he⟩
    exact .inr ⟨h', uniB_none h', uniE_none h'⟩
/-- renamed: a, b, t by one substitution that another one takes back -/
theorem uniE_turn {s : Sg} (hok : okSign s = true) {a b t a' b' t' : List Int} {σ τ : Int → List Int} (hσ : Wsub s σ) (hτ : Wsub s τ) (ha : W1 s a) (hb : W1 s b) (ra : Rg a) (rb : Rg b) (ha' : W1 s a') (hb' : W1 s b') (ra' : Rg a') (rb' : Rg b')
    (e1 : ap σ a = a') (e2 : ap σ b = b') (e3 : ap σ t = t') (f1 : ap τ a' = a) (f2 : ap τ b' = b) (f3 : ap τ t' = t) : uniE s a b t = uniE s a' b' t' ∧ uniB s a b = uniB s a' b' := by
  have cmp : ∀ {η ξ : Int → List Int}, Wsub s η → Wsub s ξ → Wsub s (fun n => ap ξ (η n)) := fun h1 h2 n hn => (h1 n hn).ap h2
  rcases uni_cases hok ha hb ra rb with ⟨θ, hθ⟩ | ⟨h1, h2, h3⟩
  · have w1 := cmp hτ hθ.th
    have q1 : ap (fun n => ap θ (τ n)) a' = ap (fun n => ap θ (τ n)) b' := by rw [← ap_ap, ← ap_ap, f1, f2]; exact hθ.eq
    obtain ⟨θ', hθ'⟩ := mgu_ex hok ha' hb' ra' rb' w1 q1
    have w2 := cmp hσ hθ'.th
    have q2 : ap (fun n => ap θ' (σ n)) a = ap (fun n => ap θ' (σ n)) b := by rw [← ap_ap, ← ap_ap, e1, e2]; exact hθ'.eq
    rw [uniE_some hθ, uniE_some hθ', uniB_some hθ, uniB_some hθ']
    have g1 := hθ.most w2 q2 t
    have k1 : ap (fun n => ap θ' (σ n)) (ap θ t) = ap θ' t' := by rw [g1, ← ap_ap, e3]
    have k2 : ap (fun n => ap θ (τ n)) (ap θ' t') = ap θ t := by
      have := hθ'.most w1 q1 t'
      rw [this, ← ap_ap, f3]
    obtain ⟨c1, c2, c3⟩ := canon_two w1 w2 k1 k2
    exact ⟨by unfold madeE; rw [c1, c2, c3], rfl⟩
  · have h' : ∀ η, Wsub s η → ap η a' ≠ ap η b' := fun η hw he => h1 _ (cmp hσ hw) (by rw [← ap_ap, ← ap_ap, e1, e2]; exact he)
    rw [h2, h3 t, uniB_none h', uniE_none h' t']
    exact ⟨rfl, rfl⟩

theorem skip_of_skw {s : Sg} : ∀ {k : Nat} {l r : List Int}, (∀ n ∈ l, n < 0 → -12 ≤ n) → skw s k l = some r → skip s k l = some r
  | 0, l, r, _, h => by rw [skw_zero] at h; rw [skip_zero]; exact h
  | k + 1, [], r, _, h => by simp [skw_nil] at h
  | k + 1, n :: l, r, hr, h => by
    rw [skw_cons] at h
    split at h
    · rename_i hc
      have hn := hr n (by simp)
      have hco : codeOk s n = true := by
        unfold cw at hc
        simp only [decide_eq_true_eq] at hc
        unfold codeOk
        simp only [Bool.or_eq_true, decide_eq_true_eq]
        omega
      rw [skip_cons, if_pos hco, (codeOk_w hco).2]
      exact skip_of_skw (fun m hm => hr m (by simp [hm])) h
    · cases h
theorem okT_of_w1 {s : Sg} {t : List Int} (hok : okSign s = true) (h : W1 s t) (hl : t.length ≤ 60) (hr : ∀ n ∈ t, n < 0 → -12 ≤ n) : okT s t = true := okT_of_skip hok (skip_of_skw hr h) hl
theorem canon_ap (t : List Int) : canon t = ap (fun n => [canonW (varsC t) n]) t := by
  unfold canon
  generalize varsC t = v
  induction t with
  | nil => rfl
  | cons n r ih =>
    rw [List.map_cons, ih]
    by_cases h : n < 0
    · rw [ap_neg h]; rfl
    · rw [ap_pos h, canonW_pos (by omega)]
theorem canon_w {s : Sg} {t : List Int} (h : W1 s t) : W1 s (canon t) := by
  rw [canon_ap]
  exact h.ap (fun n hn => W1.var (canonW_lt hn))
theorem canon_len (t : List Int) : (canon t).length = t.length := by unfold canon; rw [List.length_map]
/-- the canonical form is undone by putting the names back -/
theorem canon_back {s : Sg} (t : List Int) : ∃ τ, Wsub s τ ∧ ap τ (canon t) = t := by
  refine ⟨fun n => [if n < 0 then (varsC t).getD (-n - 1).toNat (-1) else n], fun n hn => ?_, ?_⟩
  · refine W1.var ?_
    rw [if_pos hn, List.getD_eq_getElem?_getD]
    cases h : (varsC t)[(-n - 1).toNat]? with
    | none => simp
    | some x => exact varsC_neg x (List.mem_of_getElem? h)
  · rw [canon_ap, ap_ap]
    refine ap_id (fun n hn h0 => ?_)
    have hm : n ∈ varsC t := mem_varsC.2 ⟨hn, h0⟩
    have hc := canonW_neg (v := varsC t) h0
    have hlt := canonW_lt (v := varsC t) h0
    rw [ap_one hlt, if_pos hlt]
    have hi := List.idxOf_lt_length_of_mem hm
    have : (-(canonW (varsC t) n) - 1).toNat = (varsC t).idxOf n := by rw [hc]; omega
    rw [this, List.getD_eq_getElem?_getD, List.getElem?_eq_getElem hi]
    simp
theorem canon_rg {t : List Int} (h : (varsC t).length ≤ 12) : ∀ n ∈ canon t, n < 0 → -12 ≤ n := by
  intro n hn h0
  unfold canon at hn
  obtain ⟨m, hm, rfl⟩ := List.mem_map.1 hn
  by_cases hm0 : m < 0
  · have hi := List.idxOf_lt_length_of_mem (mem_varsC.2 ⟨hm, hm0⟩)
    rw [canonW_neg hm0]; omega
  · rw [canonW_pos (by omega)] at h0; omega
theorem madeE_ok {s : Sg} {θ : Int → List Int} {t : List Int} (hok : okSign s = true) (hθ : Wsub s θ) (ht : W1 s t) (h : (madeE θ t).2 = 0) :
    okT s (madeE θ t).1 = true ∧ (madeE θ t).1 = canon (ap θ t) := by
  unfold madeE at h ⊢
  split
  · rename_i hc
    exact ⟨okT_of_w1 hok (canon_w (ht.ap hθ)) (by rw [canon_len]; exact hc.1) (canon_rg hc.2), rfl⟩
  · rename_i hc; rw [if_neg hc] at h; cases h
/-- what an instance of a renamed term makes of a -/
theorem meet_inst {s : Sg} {a j : List Int} (ha : okT s a = true) (hj : okT s j = true) {η : Int → List Int} (hw : Wsub s η) (he : ap η j = a) : meetE s a j = (canon a, 0) := by
  have hok := (okT_parts ha).1
  unfold meetE
  rw [if_pos ⟨ha, hj⟩]
  have hθ0 : Wsub s (fun n => if n < -12 then η (n + 12) else [n]) := fun n hn => by
    show W1 s (if n < -12 then η (n + 12) else [n])
    split
    · exact hw _ (by omega)
    · exact W1.var hn
  have e1 : ap (fun n => if n < -12 then η (n + 12) else [n]) a = a := ap_id (fun n hn h0 => if_neg (by have := okT_rg ha n hn h0; omega))
  have e2 : ap (fun n => if n < -12 then η (n + 12) else [n]) (apartT j) = a := by
    rw [ap_apart, ← he]
    refine ap_congr (fun n _ h0 => ?_)
    rw [if_pos (by omega)]; congr 1; omega
  obtain ⟨θ, hθ⟩ := mgu_ex hok (okT_w1 ha) (apartT_w (okT_w1 hj)) (okT_Rg ha) (apartT_rg hj) hθ0 (e1.trans e2.symm)
  have k := hθ.most hθ0 (e1.trans e2.symm) a
  rw [e1] at k
  obtain ⟨c1, c2, c3⟩ := canon_two hθ0 hθ.th (u1 := a) (u2 := ap θ a) rfl k
  rw [uniE_some hθ]
  unfold madeE
  rw [← c1, ← c2, ← c3, if_pos ⟨(okT_parts ha).2.2.1, varsC_le12 (skip_codes s 1 a (okT_parts ha).2.2.2)⟩]
end Go.Proofs.YtgkddhakhapjlaaDoor

/- Detachment and proofs step by step, in plain words. No program is named. -/
namespace Go.Proofs.YtgkddhakhapjlaaDoor

abbrev Stp := Int × Int × Int
/-- the detachment of a major and a minor -/
noncomputable def detE (s : Sg) (m n : List Int) : List Int × Int :=
  if okT s m = true ∧ okT s n = true then (if m.headD 0 = 0 then uniE s ((argsT s m).getD 0 []) (apartT n) ((argsT s m).getD 1 []) else ([], 10)) else ([], 1)
theorem ar_zero {s : Sg} (hok : okSign s = true) : ar s 0 = 2 := by
  have hl := (okSign_len hok).1
  unfold okSign at hok
  simp only [Bool.and_eq_true, decide_eq_true_eq] at hok
  unfold ar arC
  rw [if_neg (by omega), if_pos ⟨by omega, by omega⟩]
  have := hok.2
  simp only [Int.toNat_zero] at *
  rw [this]; rfl
theorem halves {s : Sg} {m : List Int} (h : okT s m = true) (h0 : m.headD 0 = 0) : ∃ A B, argsT s m = [A, B] ∧ m = 0 :: (A ++ B) ∧ okT s A = true ∧ okT s B = true := by
  obtain ⟨h1, h2, h3⟩ := argsT_spec h
  rw [h0] at h1 h2
  rw [ar_zero (okT_parts h).1] at h1
  obtain ⟨L, hL⟩ : ∃ L, argsT s m = L := ⟨_, rfl⟩
  rw [hL] at h1 h2 h3
  match L, h1 with
  | [A, B], _ =>
    refine ⟨A, B, hL, ?_, h3 A (by simp), h3 B (by simp)⟩
    rw [h2]; simp
theorem halves_of {s : Sg} {m A B : List Int} (h : okT s m = true) (e : m = 0 :: (A ++ B)) (hA : W1 s A) : argsT s m = [A, B] ∧ okT s A = true ∧ okT s B = true := by
  obtain ⟨A', B', h1, h2, h3, h4⟩ := halves h (by rw [e]; rfl)
  rw [e] at h2
  obtain ⟨e1, e2⟩ := W1.uniq hA (okT_w1 h3) (List.cons.inj h2).2
  subst e1 e2
  exact ⟨h1, h3, h4⟩
theorem detE_at {s : Sg} {m n A B : List Int} (h : okT s m = true) (hn : okT s n = true) (e : m = 0 :: (A ++ B)) (hA : W1 s A) : detE s m n = uniE s A (apartT n) B := by
  unfold detE
  rw [if_pos ⟨h, hn⟩, if_pos (by rw [e]; rfl), (halves_of h e hA).1]; rfl
theorem detE_state {s : Sg} {m n : List Int} (h : okT s m = true) (hn : okT s n = true) (h0 : m.headD 0 ≠ 0) : detE s m n = ([], 10) := by
  unfold detE
  rw [if_pos ⟨h, hn⟩, if_neg h0]
theorem det_cases {s : Sg} {m n : List Int} (h : okT s m = true) (hn : okT s n = true) :
    (m.headD 0 ≠ 0 ∧ detE s m n = ([], 10)) ∨ ∃ A B, argsT s m = [A, B] ∧ m = 0 :: (A ++ B) ∧ okT s A = true ∧ okT s B = true ∧
      ((∃ θ, IsMgu s A (apartT n) θ ∧ detE s m n = madeE θ B ∧ uniB s A (apartT n) = true) ∨ ((∀ η, Wsub s η → ap η A ≠ ap η (apartT n)) ∧ detE s m n = ([], 8) ∧ uniB s A (apartT n) = false)) := by
  by_cases h0 : m.headD 0 = 0
  · obtain ⟨A, B, h1, h2, h3, h4⟩ := halves h h0
    refine .inr ⟨A, B, h1, h2, h3, h4, ?_⟩
    rw [detE_at h hn h2 (okT_w1 h3)]
    rcases uni_cases (okT_parts h).1 (okT_w1 h3) (apartT_w (okT_w1 hn)) (okT_Rg h3) (apartT_rg hn) with ⟨θ, hθ⟩ | ⟨k1, k2, k3⟩
    · exact .inl ⟨θ, hθ, uniE_some hθ B, uniB_some hθ⟩
    · exact .inr ⟨k1, k3 B, k2⟩
  · exact .inl ⟨h0, detE_state h hn h0⟩
theorem det_ok {s : Sg} {m n : List Int} (h : (detE s m n).2 = 0) : okT s m = true ∧ okT s n = true ∧ okT s (detE s m n).1 = true := by
  by_cases hk : okT s m = true ∧ okT s n = true
  · refine ⟨hk.1, hk.2, ?_⟩
    rcases det_cases hk.1 hk.2 with ⟨-, e⟩ | ⟨A, B, -, -, -, hB, (⟨θ, hθ, e, -⟩ | ⟨-, e, -⟩)⟩
    · rw [e] at h; cases h
    · rw [e] at h ⊢; exact (madeE_ok (okT_parts hk.1).1 hθ.th (okT_w1 hB) h).1
    · rw [e] at h; cases h
  · unfold detE at h; rw [if_neg hk] at h; cases h
theorem det_err {s : Sg} {m n : List Int} (hm : okT s m = true) (hn : okT s n = true) : (detE s m n).2 = 0 ∨ ((detE s m n).1 = [] ∧ ((detE s m n).2 = 4 ∨ (detE s m n).2 = 8 ∨ (detE s m n).2 = 10)) := by
  rcases det_cases hm hn with ⟨-, e⟩ | ⟨A, B, -, -, -, hB, (⟨θ, hθ, e, -⟩ | ⟨-, e, -⟩)⟩
  · rw [e]; exact .inr ⟨rfl, .inr (.inr rfl)⟩
  · rw [e]; unfold madeE; split
    · exact .inl rfl
    · exact .inr ⟨rfl, .inl rfl⟩
  · rw [e]; exact .inr ⟨rfl, .inr (.inl rfl)⟩
/-- b is an instance of a -/
def Ins (s : Sg) (a b : List Int) : Prop := ∃ η, Wsub s η ∧ ap η a = b
theorem Ins.canon {s : Sg} {a b : List Int} (h : Ins s a b) : Ins s (canon a) (canon b) := by
  obtain ⟨η, hw, he⟩ := h
  obtain ⟨τ, ht, hb⟩ := canon_back (s := s) a
  refine ⟨fun n => ap (fun n => [canonW (varsC b) n]) (ap η (τ n)), fun n hn => ((ht n hn).ap hw).ap (fun m hm => W1.var (canonW_lt hm)), ?_⟩
  rw [← ap_ap (fun n => ap η (τ n)), ← ap_ap τ η, hb, he, ← canon_ap]
/-- more general ones say more -/
theorem det_mono {s : Sg} {M N M' N' : List Int} (hM : okT s M = true) (hN : okT s N = true) (iM : Ins s M M') (iN : Ins s N N') (h : (detE s M' N').2 = 0) :
    (detE s M N).2 = 4 ∨ (detE s M N).2 = 10 ∨ ((detE s M N).2 = 0 ∧ Ins s (detE s M N).1 (detE s M' N').1) := by
  obtain ⟨hM', hN', -⟩ := det_ok h
  obtain ⟨η, hη, rfl⟩ := iM
  obtain ⟨ζ, hζ, rfl⟩ := iN
  rcases det_cases hM hN with ⟨-, e⟩ | ⟨A, B, -, eM, hA, hB, hU⟩
  · rw [e]; exact .inr (.inl rfl)
  · have eM' : ap η M = 0 :: (ap η A ++ ap η B) := by rw [eM, ap_pos (by decide), ap_append]
    have hd := detE_at hM' hN' eM' ((okT_w1 hA).ap hη)
    have hok := (okT_parts hM).1
    have hA' := (halves_of hM' eM' ((okT_w1 hA).ap hη)).2.1
    have hB' := (halves_of hM' eM' ((okT_w1 hA).ap hη)).2.2
    rcases uni_cases hok (okT_w1 hA') (apartT_w (okT_w1 hN')) (okT_Rg hA') (apartT_rg hN') with ⟨θ', hθ'⟩ | ⟨-, -, k3⟩
    · rw [hd, uniE_some hθ'] at h ⊢
      have hξ : Wsub s (fun n => if n < -12 then ap θ' (apartT (ζ (n + 12))) else ap θ' (η n)) := fun n hn => by
        show W1 s (if n < -12 then ap θ' (apartT (ζ (n + 12))) else ap θ' (η n))
        split
        · exact (apartT_w (hζ _ (by omega))).ap hθ'.th
        · exact (hη n hn).ap hθ'.th
      have low : ∀ t : List Int, okT s t = true → ap (fun n => if n < -12 then ap θ' (apartT (ζ (n + 12))) else ap θ' (η n)) t = ap θ' (ap η t) := fun t ht => by
        rw [ap_ap]
        refine ap_congr (fun n hn h0 => if_neg ?_)
        have := okT_rg ht n hn h0; omega
      have hi : ap (fun n => if n < -12 then ap θ' (apartT (ζ (n + 12))) else ap θ' (η n)) (apartT N) = ap θ' (apartT (ap ζ N)) := by
        rw [ap_apart, apartT_eq (ap ζ N), ap_ap ζ, ap_ap]
        refine ap_congr (fun n hn h0 => ?_)
        rw [if_pos (by omega), show n - 12 + 12 = n by omega, apartT_eq]
      have heq := (low A hA).trans (hθ'.eq.trans hi.symm)
      rcases hU with ⟨θ, hθ, e, -⟩ | ⟨k1, -, -⟩
      · rw [e]
        by_cases hz : (madeE θ B).2 = 0
        · refine .inr (.inr ⟨hz, ?_⟩)
          rw [(madeE_ok hok hθ.th (okT_w1 hB) hz).2, (madeE_ok hok hθ'.th (okT_w1 hB') h).2]
          refine Ins.canon ⟨_, hξ, ?_⟩
          rw [hθ.most hξ heq B, low B hB]
        · refine .inl ?_
          unfold madeE at hz ⊢
          split
          · rename_i hc; rw [if_pos hc] at hz; exact (hz rfl).elim
          · rfl
      · exact (k1 _ hξ heq).elim
    · rw [hd, k3] at h; cases h

/-! ### proofs -/
def rightB (G : Int) (n : Nat) (x : Stp) : Bool := (decide (x.1 = 1) && (decide (0 ≤ x.2.1) && decide (x.2.1 ≤ G - 1)) && decide (x.2.2 = 0)) || (decide (x.1 = 2) && (decide (0 ≤ x.2.1) && decide (x.2.1 ≤ (n : Int) - 1)) && (decide (0 ≤ x.2.2) && decide (x.2.2 ≤ (n : Int) - 1)))
def okSteps (G : Int) : Nat → List Stp → Bool
  | _, [] => true
  | n, x :: p => rightB G n x && okSteps G (n + 1) p
def validP (G : Int) (p : List Stp) : Bool := okSteps G 0 p && (decide (1 ≤ p.length) && decide (p.length ≤ 60))
def proofB (G : Int) (p : List Stp) : Bool := (decide (0 ≤ G) && decide (G ≤ 60)) && validP G p
def givensB (s : Sg) (g : List (List Int)) : Bool := okSign s && decide (g.length ≤ 60) && g.all (okT s)
noncomputable def stepE (s : Sg) (g l : List (List Int)) (x : Stp) : List Int × Int :=
  if x.1 = 1 then (canon (g.getD x.2.1.toNat []), 0) else detE s (l.getD x.2.1.toNat []) (l.getD x.2.2.toNat [])
noncomputable def runL (s : Sg) (g : List (List Int)) : List Stp → List (List Int) → List (List Int) × Int
  | [], l => (l, 0)
  | x :: p, l => if (stepE s g l x).2 = 0 then runL s g p (l ++ [(stepE s g l x).1]) else (l, (stepE s g l x).2)
def askedB (s : Sg) (g : List (List Int)) (p : List Stp) : Bool := givensB s g && validP g.length p
noncomputable def runR (s : Sg) (g : List (List Int)) (p : List Stp) : List (List Int) × Int × Int :=
  if askedB s g p = true then (if (runL s g p []).2 = 0 then ((runL s g p []).1, -1, 0) else ((runL s g p []).1, ((runL s g p []).1.length : Int), (runL s g p []).2)) else ([], 0, 1)
noncomputable def saysE (s : Sg) (g : List (List Int)) (p : List Stp) : List Int × Int :=
  if askedB s g p = true then (if (runL s g p []).2 = 0 then ((runL s g p []).1.getLastD [], 0) else ([], (runL s g p []).2)) else ([], 1)
theorem rightB_cite {G : Int} {n : Nat} {x : Stp} (h : rightB G n x = true) (h1 : x.1 = 1) : 0 ≤ x.2.1 ∧ x.2.1 < G ∧ x.2.2 = 0 := by
  simp only [rightB, Bool.or_eq_true, Bool.and_eq_true, decide_eq_true_eq] at h; omega
theorem rightB_detach {G : Int} {n : Nat} {x : Stp} (h : rightB G n x = true) (h1 : x.1 ≠ 1) : x.1 = 2 ∧ 0 ≤ x.2.1 ∧ x.2.1 < n ∧ 0 ≤ x.2.2 ∧ x.2.2 < n := by
  simp only [rightB, Bool.or_eq_true, Bool.and_eq_true, decide_eq_true_eq] at h; omega
theorem givensB_parts {s : Sg} {g : List (List Int)} (h : givensB s g = true) : okSign s = true ∧ g.length ≤ 60 ∧ ∀ t ∈ g, okT s t = true := by
  simp only [givensB, Bool.and_eq_true, decide_eq_true_eq, List.all_eq_true] at h
  exact ⟨h.1.1, h.1.2, h.2⟩
theorem getD_mem {α : Type} {l : List α} {n : Nat} (d : α) (h : n < l.length) : l.getD n d ∈ l := by
  rw [List.getD_eq_getElem?_getD, List.getElem?_eq_getElem h]; exact List.getElem_mem h
/-- what a right step says is valid -/
theorem step_okT {s : Sg} {g l : List (List Int)} {x : Stp} (hg : ∀ t ∈ g, okT s t = true) (hr : rightB g.length l.length x = true) (h : (stepE s g l x).2 = 0) : okT s (stepE s g l x).1 = true := by
  unfold stepE at h ⊢
  by_cases h1 : x.1 = 1
  · rw [if_pos h1]
    obtain ⟨g1, g2, -⟩ := rightB_cite hr h1
    exact okT_canon (hg _ (getD_mem [] (by omega)))
  · rw [if_neg h1] at h ⊢
    exact (det_ok h).2.2
theorem runL_okT {s : Sg} {g : List (List Int)} (hg : ∀ t ∈ g, okT s t = true) : ∀ (p : List Stp) (l : List (List Int)), (∀ t ∈ l, okT s t = true) → okSteps g.length l.length p = true → (∀ t ∈ (runL s g p l).1, okT s t = true) ∧ ((runL s g p l).2 = 0 → (runL s g p l).1.length = l.length + p.length) ∧ (runL s g p l).1.length ≤ l.length + p.length
  | [], l, hl, _ => ⟨hl, fun _ => rfl, Nat.le_refl _⟩
  | x :: p, l, hl, ho => by
    simp only [okSteps, Bool.and_eq_true] at ho
    rw [runL]
    split
    · rename_i hz
      have hx := step_okT hg ho.1 hz
      have hl' : ∀ t ∈ l ++ [(stepE s g l x).1], okT s t = true := fun t ht => by
        rcases List.mem_append.1 ht with h | h
        · exact hl t h
        · rw [List.mem_singleton] at h; rw [h]; exact hx
      have ih := runL_okT hg p (l ++ [(stepE s g l x).1]) hl' (by rw [List.length_append, List.length_singleton]; exact ho.2)
      rw [List.length_append, List.length_singleton] at ih
      refine ⟨ih.1, fun h => ?_, ?_⟩
      · rw [ih.2.1 h, List.length_cons]; omega
      · rw [List.length_cons]; omega
    · rename_i hz
      exact ⟨hl, fun h => (hz h).elim, by simp⟩
theorem runL_append {s : Sg} {g : List (List Int)} : ∀ (p q : List Stp) (l : List (List Int)), runL s g (p ++ q) l = if (runL s g p l).2 = 0 then runL s g q (runL s g p l).1 else runL s g p l
  | [], q, l => by simp [runL]
  | x :: p, q, l => by
    rw [List.cons_append, runL, runL]
    split
    · exact runL_append p q _
    · rfl
theorem runL_more {s : Sg} {g : List (List Int)} : ∀ (p : List Stp) (l : List (List Int)), l <+: (runL s g p l).1
  | [], l => List.prefix_refl _
  | x :: p, l => by
    rw [runL]
    split
    · exact (List.prefix_append _ _).trans (runL_more p _)
    · exact List.prefix_refl _
/-- P4.3 -/
theorem run_mono {s : Sg} {g g' : List (List Int)} (hg : ∀ t ∈ g, okT s t = true) (hg' : ∀ t ∈ g', okT s t = true) (hlen : g.length = g'.length) (hi : ∀ i, i < g.length → Ins s (g.getD i []) (g'.getD i [])) :
    ∀ (p : List Stp) (l l' : List (List Int)), (∀ t ∈ l, okT s t = true) → (∀ t ∈ l', okT s t = true) → l.length = l'.length → (∀ i, i < l.length → Ins s (l.getD i []) (l'.getD i [])) → okSteps g.length l.length p = true → (runL s g' p l').2 = 0 →
      (runL s g p l).2 = 4 ∨ (runL s g p l).2 = 10 ∨ ((runL s g p l).2 = 0 ∧ (runL s g p l).1.length = (runL s g' p l').1.length ∧ ∀ i, i < (runL s g p l).1.length → Ins s ((runL s g p l).1.getD i []) ((runL s g' p l').1.getD i []))
  | [], l, l', hl, hl', hll, hii, _, _ => .inr (.inr ⟨rfl, hll, hii⟩)
  | x :: p, l, l', hl, hl', hll, hii, ho, hz => by
    simp only [okSteps, Bool.and_eq_true] at ho
    rw [runL] at hz
    by_cases hx' : (stepE s g' l' x).2 = 0
    · rw [if_pos hx'] at hz
      have hs : (stepE s g l x).2 = 4 ∨ (stepE s g l x).2 = 10 ∨ ((stepE s g l x).2 = 0 ∧ Ins s (stepE s g l x).1 (stepE s g' l' x).1) := by
        unfold stepE at hx' ⊢
        by_cases h1 : x.1 = 1
        · simp only [if_pos h1]
          obtain ⟨g1, g2, -⟩ := rightB_cite ho.1 h1
          exact .inr (.inr ⟨trivial, (hi _ (by omega)).canon⟩)
        · simp only [if_neg h1] at hx' ⊢
          obtain ⟨-, d1, d2, d3, d4⟩ := rightB_detach ho.1 h1
          exact det_mono (hl _ (getD_mem [] (by omega))) (hl _ (getD_mem [] (by omega))) (hii _ (by omega)) (hii _ (by omega)) hx'
      rw [runL, runL, if_pos hx']
      rcases hs with h | h | ⟨h, hI⟩
      · rw [if_neg (by omega)]; exact .inl h
      · rw [if_neg (by omega)]; exact .inr (.inl h)
      · rw [if_pos h]
        have o1 := step_okT hg ho.1 h
        have o2 := step_okT hg' (by rw [← hlen, ← hll]; exact ho.1) hx'
        refine run_mono hg hg' hlen hi p _ _ (fun t ht => ?_) (fun t ht => ?_) (by simp [hll]) (fun i hil => ?_) (by rw [List.length_append, List.length_singleton]; exact ho.2) hz
        · rcases List.mem_append.1 ht with k | k
          · exact hl t k
          · rw [List.mem_singleton] at k; rw [k]; exact o1
        · rcases List.mem_append.1 ht with k | k
          · exact hl' t k
          · rw [List.mem_singleton] at k; rw [k]; exact o2
        · rw [List.length_append, List.length_singleton] at hil
          by_cases hlt : i < l.length
          · rw [List.getD_eq_getElem?_getD, List.getD_eq_getElem?_getD, List.getElem?_append_left hlt, List.getElem?_append_left (by omega), ← List.getD_eq_getElem?_getD, ← List.getD_eq_getElem?_getD]
            exact hii i hlt
          · obtain rfl : i = l.length := by omega
            rw [List.getD_eq_getElem?_getD, List.getD_eq_getElem?_getD, List.getElem?_append_right (Nat.le_refl _), List.getElem?_append_right (by omega), hll]
            simpa using hI
    · rw [if_neg hx'] at hz; exact (hx' hz).elim
end Go.Proofs.YtgkddhakhapjlaaDoor

/- Proofs joined and moved, in plain words. No program is named. -/
namespace Go.Proofs.YtgkddhakhapjlaaDoor

def shS (k : Nat) (x : Stp) : Stp := if x.1 = 2 then (x.1, x.2.1 + k, x.2.2 + k) else x
def mvS (to : List Int) (x : Stp) : Stp := if x.1 = 1 then (x.1, to.getD x.2.1.toNat 0, x.2.2) else x
def joinedL (p q : List Stp) : List Stp := p ++ q.map (shS p.length) ++ [(2, (p.length : Int) - 1, (p.length : Int) + q.length - 1)]
def joinedE (G : Int) (p q : List Stp) : List Stp × Int := if proofB G p = true ∧ proofB G q = true then (if p.length + q.length + 1 ≤ 60 then (joinedL p q, 0) else ([], 4)) else ([], 1)
def movedE (G : Int) (p : List Stp) (to : List Int) (count : Int) : List Stp × Int :=
  if proofB G p = true then (if (to.length : Int) = G then (if (decide (0 ≤ count) && decide (count ≤ 60) && to.all (fun n => decide (0 ≤ n) && decide (n ≤ count - 1))) = true then (p.map (mvS to), 0) else ([], 7)) else ([], 9)) else ([], 1)

theorem okSteps_append {G : Int} : ∀ (p q : List Stp) (n : Nat), okSteps G n (p ++ q) = (okSteps G n p && okSteps G (n + p.length) q)
  | [], q, n => by simp [okSteps]
  | x :: p, q, n => by
    rw [List.cons_append, okSteps, okSteps, okSteps_append p q (n + 1), Bool.and_assoc, List.length_cons, show n + 1 + p.length = n + (p.length + 1) by omega]
theorem rightB_sh {G : Int} {n k : Nat} {x : Stp} (h : rightB G n x = true) : rightB G (n + k) (shS k x) = true := by
  unfold shS
  by_cases h2 : x.1 = 2
  · rw [if_pos h2]
    obtain ⟨-, d1, d2, d3, d4⟩ := rightB_detach h (by omega)
    simp only [rightB, Bool.or_eq_true, Bool.and_eq_true, decide_eq_true_eq]
    right
    exact ⟨⟨h2, by omega, by omega⟩, by omega, by omega⟩
  · rw [if_neg h2]
    have h1 : x.1 = 1 := by
      simp only [rightB, Bool.or_eq_true, Bool.and_eq_true, decide_eq_true_eq] at h; omega
    obtain ⟨g1, g2, g3⟩ := rightB_cite h h1
    simp only [rightB, Bool.or_eq_true, Bool.and_eq_true, decide_eq_true_eq]
    left
    exact ⟨⟨h1, by omega, by omega⟩, g3⟩
theorem okSteps_sh {G : Int} {k : Nat} : ∀ (q : List Stp) (n : Nat), okSteps G n q = true → okSteps G (n + k) (q.map (shS k)) = true
  | [], _, _ => rfl
  | x :: q, n, h => by
    simp only [okSteps, Bool.and_eq_true] at h
    rw [List.map_cons, okSteps, Bool.and_eq_true, show n + k + 1 = n + 1 + k by omega]
    exact ⟨rightB_sh h.1, okSteps_sh q (n + 1) h.2⟩
theorem joined_ok {G : Int} {p q : List Stp} (hp : validP G p = true) (hq : validP G q = true) (hl : p.length + q.length + 1 ≤ 60) : validP G (joinedL p q) = true := by
  simp only [validP, Bool.and_eq_true, decide_eq_true_eq] at hp hq ⊢
  refine ⟨?_, ?_, ?_⟩
  · unfold joinedL
    rw [okSteps_append, okSteps_append, Bool.and_eq_true, Bool.and_eq_true]
    refine ⟨⟨hp.1, okSteps_sh q 0 hq.1⟩, ?_⟩
    simp only [okSteps, rightB, Bool.or_eq_true, Bool.and_eq_true, decide_eq_true_eq, List.length_append, List.length_map, and_true]
    right
    exact ⟨⟨trivial, by omega, by omega⟩, by omega, by omega⟩
  · unfold joinedL; simp; omega
  · unfold joinedL; simp; omega
theorem getD_app {α : Type} {l m : List α} (d : α) (n : Nat) : (l ++ m).getD (l.length + n) d = m.getD n d := by
  rw [List.getD_eq_getElem?_getD, List.getElem?_append_right (by omega), List.getD_eq_getElem?_getD]; congr 2; omega
theorem run_sh {s : Sg} {g lp : List (List Int)} : ∀ (q : List Stp) (l : List (List Int)), okSteps g.length l.length q = true → runL s g (q.map (shS lp.length)) (lp ++ l) = (lp ++ (runL s g q l).1, (runL s g q l).2)
  | [], l, _ => rfl
  | x :: q, l, h => by
    simp only [okSteps, Bool.and_eq_true] at h
    have hs : stepE s g (lp ++ l) (shS lp.length x) = stepE s g l x := by
      by_cases h1 : x.1 = 1
      · have e1 : shS lp.length x = x := by unfold shS; exact if_neg (by omega)
        rw [e1]
        unfold stepE
        rw [if_pos h1, if_pos h1]
      · obtain ⟨h2, d1, d2, d3, d4⟩ := rightB_detach h.1 h1
        have e1 : shS lp.length x = (x.1, x.2.1 + lp.length, x.2.2 + lp.length) := by unfold shS; exact if_pos h2
        rw [e1]
        unfold stepE
        simp only
        rw [if_neg h1, if_neg h1, show (x.2.1 + (lp.length : Int)).toNat = lp.length + x.2.1.toNat by omega, show (x.2.2 + (lp.length : Int)).toNat = lp.length + x.2.2.toNat by omega, getD_app, getD_app]
    rw [List.map_cons, runL, runL, hs]
    split
    · have := run_sh (s := s) (g := g) (lp := lp) q (l ++ [(stepE s g l x).1]) (by rw [List.length_append, List.length_singleton]; exact h.2)
      rw [← List.append_assoc] at this
      exact this
    · rfl
theorem validP_parts {G : Int} {p : List Stp} (h : validP G p = true) : okSteps G 0 p = true ∧ 1 ≤ p.length ∧ p.length ≤ 60 := by
  simp only [validP, Bool.and_eq_true, decide_eq_true_eq] at h; exact h
theorem askedB_parts {s : Sg} {g : List (List Int)} {p : List Stp} (h : askedB s g p = true) : givensB s g = true ∧ validP g.length p = true := by
  simpa only [askedB, Bool.and_eq_true] using h
theorem says_ok {s : Sg} {g : List (List Int)} {p : List Stp} (h : (saysE s g p).2 = 0) : askedB s g p = true ∧ (runL s g p []).2 = 0 ∧ (saysE s g p).1 = (runL s g p []).1.getLastD [] ∧ (runL s g p []).1.length = p.length ∧ okT s (saysE s g p).1 = true := by
  unfold saysE at h ⊢
  by_cases ha : askedB s g p = true
  · rw [if_pos ha] at h ⊢
    by_cases hz : (runL s g p []).2 = 0
    · rw [if_pos hz] at h ⊢
      obtain ⟨hg, hv⟩ := askedB_parts ha
      have h3 := (givensB_parts hg).2.2
      have hr := runL_okT h3 p [] (by simp) (validP_parts hv).1
      have hlen := hr.2.1 hz
      simp only [List.length_nil, Nat.zero_add] at hlen
      refine ⟨ha, hz, rfl, hlen, hr.1 _ ?_⟩
      have := (validP_parts hv).2.1
      rw [List.getLastD_eq_getLast?]
      cases hh : (runL s g p []).1.getLast? with
      | none => rw [List.getLast?_eq_none_iff] at hh; rw [hh] at hlen; simp at hlen; omega
      | some y => exact List.mem_of_getLast? hh
    · rw [if_neg hz] at h; exact (hz h).elim
  · rw [if_neg ha] at h; cases h
theorem lastD_getD {l : List (List Int)} : l.getD (l.length - 1) [] = l.getLastD [] := by
  rw [List.getLastD_eq_getLast?, List.getLast?_eq_getElem?, List.getD_eq_getElem?_getD]
/-- joined proofs say the detachment of what both say -/
theorem says_joined {s : Sg} {g : List (List Int)} {p q : List Stp} (hp : (saysE s g p).2 = 0) (hq : (saysE s g q).2 = 0) (hl : p.length + q.length + 1 ≤ 60) : saysE s g (joinedL p q) = detE s (saysE s g p).1 (saysE s g q).1 := by
  obtain ⟨a1, a2, a3, a4, a5⟩ := says_ok hp
  obtain ⟨b1, b2, b3, b4, b5⟩ := says_ok hq
  obtain ⟨hg, vp⟩ := askedB_parts a1
  obtain ⟨-, vq⟩ := askedB_parts b1
  have hask : askedB s g (joinedL p q) = true := by unfold askedB; rw [hg, joined_ok vp vq hl]; rfl
  rw [a3, b3]
  rw [a3] at a5
  rw [b3] at b5
  have hpl := (validP_parts vp).2.1
  have hql := (validP_parts vq).2.1
  obtain ⟨LP, hLP⟩ : ∃ L, (runL s g p []).1 = L := ⟨_, rfl⟩
  obtain ⟨LQ, hLQ⟩ : ∃ L, (runL s g q []).1 = L := ⟨_, rfl⟩
  rw [hLP] at a4 a5 ⊢
  rw [hLQ] at b4 b5 ⊢
  have hrun : runL s g (p ++ q.map (shS p.length)) [] = (LP ++ LQ, 0) := by
    rw [runL_append, if_pos a2, hLP]
    have := run_sh (s := s) (g := g) (lp := LP) q [] (validP_parts vq).1
    rw [List.append_nil, a4, hLQ, b2] at this
    exact this
  have hstep : stepE s g (LP ++ LQ) (2, (p.length : Int) - 1, (p.length : Int) + q.length - 1) = detE s (LP.getLastD []) (LQ.getLastD []) := by
    unfold stepE
    rw [if_neg (fun h => by cases h)]
    simp only
    rw [show ((p.length : Int) - 1).toNat = p.length - 1 by omega, show ((p.length : Int) + q.length - 1).toNat = LP.length + (q.length - 1) by omega, getD_app, ← lastD_getD, ← lastD_getD (l := LQ), a4, b4]
    congr 1
    rw [List.getD_eq_getElem?_getD, List.getElem?_append_left (by omega), ← List.getD_eq_getElem?_getD]
  have hd := det_err a5 b5
  unfold saysE
  rw [if_pos hask]
  unfold joinedL
  rw [runL_append, hrun, if_pos rfl]
  simp only [runL, hstep]
  rcases hd with h | ⟨h1, h2⟩
  · rw [if_pos h]
    simp only [if_true]
    rw [List.getLastD_concat, ← h]
  · have : ¬ (detE s (LP.getLastD []) (LQ.getLastD [])).2 = 0 := by omega
    rw [if_neg this]
    simp only
    rw [if_neg this]
    exact Prod.ext h1.symm rfl
/-- moved proofs say of the moved givens what the proofs say -/
theorem run_moved {s : Sg} {g : List (List Int)} {to : List Int} : ∀ (p : List Stp) (l : List (List Int)), okSteps to.length l.length p = true → runL s (to.map (fun n => g.getD n.toNat [])) p l = runL s g (p.map (mvS to)) l
  | [], l, _ => rfl
  | x :: p, l, h => by
    simp only [okSteps, Bool.and_eq_true] at h
    have hs : stepE s (to.map (fun n => g.getD n.toNat [])) l x = stepE s g l (mvS to x) := by
      by_cases h1 : x.1 = 1
      · obtain ⟨g1, g2, -⟩ := rightB_cite h.1 h1
        have e1 : mvS to x = (x.1, to.getD x.2.1.toNat 0, x.2.2) := by unfold mvS; exact if_pos h1
        rw [e1]
        unfold stepE
        simp only [if_pos h1]
        rw [List.getD_eq_getElem?_getD, List.getElem?_map, List.getD_eq_getElem?_getD (l := to), List.getElem?_eq_getElem (by omega)]
        rfl
      · have e1 : mvS to x = x := by unfold mvS; exact if_neg h1
        rw [e1]
        unfold stepE
        rw [if_neg h1, if_neg h1]
    rw [List.map_cons, runL, runL, hs]
    split
    · exact run_moved p _ (by rw [List.length_append, List.length_singleton]; exact h.2)
    · rfl
theorem moved_ok {G : Int} {to : List Int} {count : Int} (hG : (to.length : Int) = G) (hto : ∀ n ∈ to, 0 ≤ n ∧ n ≤ count - 1) : ∀ (p : List Stp) (n : Nat), okSteps G n p = true → okSteps count n (p.map (mvS to)) = true
  | [], _, _ => rfl
  | x :: p, n, h => by
    simp only [okSteps, Bool.and_eq_true] at h
    rw [List.map_cons, okSteps, Bool.and_eq_true]
    refine ⟨?_, moved_ok hG hto p (n + 1) h.2⟩
    unfold mvS
    by_cases h1 : x.1 = 1
    · obtain ⟨g1, g2, g3⟩ := rightB_cite h.1 h1
      rw [if_pos h1]
      have := hto (to.getD x.2.1.toNat 0) (getD_mem 0 (by omega))
      simp only [rightB, Bool.or_eq_true, Bool.and_eq_true, decide_eq_true_eq]
      left
      exact ⟨⟨h1, by omega, by omega⟩, g3⟩
    · obtain ⟨h2, d1, d2, d3, d4⟩ := rightB_detach h.1 h1
      rw [if_neg h1]
      simp only [rightB, Bool.or_eq_true, Bool.and_eq_true, decide_eq_true_eq]
      right
      exact ⟨⟨h2, by omega, by omega⟩, by omega, by omega⟩
theorem says_moved {s : Sg} {g : List (List Int)} {p : List Stp} {to : List Int} (hg : givensB s g = true) (hto : ∀ n ∈ to, 0 ≤ n ∧ n < g.length) (hp : proofB to.length p = true) :
    saysE s (to.map (fun n => g.getD n.toNat [])) p = saysE s g (p.map (mvS to)) := by
  obtain ⟨g1, g2, g3⟩ := givensB_parts hg
  have hp' := hp
  simp only [proofB, Bool.and_eq_true, decide_eq_true_eq] at hp'
  obtain ⟨⟨-, h60⟩, hv⟩ := hp'
  have a1 : askedB s (to.map (fun n => g.getD n.toNat [])) p = true := by
    unfold askedB givensB
    simp only [Bool.and_eq_true, decide_eq_true_eq, List.all_eq_true, List.length_map]
    refine ⟨⟨⟨g1, by omega⟩, fun t ht => ?_⟩, hv⟩
    obtain ⟨n, hn, rfl⟩ := List.mem_map.1 ht
    have := hto n hn
    exact g3 _ (getD_mem [] (by omega))
  have a2 : askedB s g (p.map (mvS to)) = true := by
    unfold askedB
    rw [hg, Bool.true_and]
    unfold validP
    have := moved_ok rfl (fun n hn => by have := hto n hn; exact ⟨this.1, by omega⟩) p 0 (validP_parts hv).1 (count := (g.length : Int))
    rw [this, List.length_map]
    have h2 := (validP_parts hv).2
    simp only [Bool.true_and, Bool.and_eq_true, decide_eq_true_eq]
    exact h2
  unfold saysE
  rw [if_pos a1, if_pos a2, run_moved p [] (validP_parts hv).1]
end Go.Proofs.YtgkddhakhapjlaaDoor

/- Trees of proofs as texts, and proofs read back from such texts, in plain words. No program is named. -/
namespace Go.Proofs.YtgkddhakhapjlaaDoor

/-! ### trees -/
inductive Tr where
  | g (n : Nat)
  | d (a b : Tr)
def digs (n : Nat) : List UInt8 := [UInt8.ofNat (48 + n / 10), UInt8.ofNat (48 + n % 10)]
def Tr.text : Tr → List UInt8
  | .g n => 103 :: digs n
  | .d a b => 68 :: (a.text ++ b.text)
def Tr.leaves : Tr → List Nat
  | .g n => [n]
  | .d a b => a.leaves ++ b.leaves
def Tr.subs : Tr → List Tr
  | .g n => [.g n]
  | .d a b => .d a b :: (a.subs ++ b.subs)
theorem Tr.text_len (t : Tr) : 3 ≤ t.text.length := by
  induction t with
  | g n => simp [Tr.text, digs]
  | d a b iha ihb => simp [Tr.text]; omega
theorem Tr.sub_self (t : Tr) : t ∈ t.subs := by cases t <;> simp [Tr.subs]
/-- the tree of a step, from those of the steps before it -/
def trS (ts : List Tr) (x : Stp) : Tr := if x.1 = 2 then .d (ts.getD x.2.1.toNat (.g 0)) (ts.getD x.2.2.toNat (.g 0)) else .g x.2.1.toNat
def trL : List Stp → List Tr → List Tr
  | [], ts => ts
  | x :: p, ts => trL p (ts ++ [trS ts x])
def trees (p : List Stp) : List Tr := trL p []
theorem trL_append : ∀ (p q : List Stp) (ts : List Tr), trL (p ++ q) ts = trL q (trL p ts)
  | [], _, _ => rfl
  | x :: p, q, ts => by rw [List.cons_append, trL, trL, trL_append p q]
theorem trL_len : ∀ (p : List Stp) (ts : List Tr), (trL p ts).length = ts.length + p.length
  | [], _ => rfl
  | x :: p, ts => by rw [trL, trL_len p, List.length_append, List.length_singleton, List.length_cons]; omega
theorem trees_len (p : List Stp) : (trees p).length = p.length := by unfold trees; rw [trL_len]; simp
theorem trees_snoc (p : List Stp) (x : Stp) : trees (p ++ [x]) = trees p ++ [trS (trees p) x] := by unfold trees; rw [trL_append]; rfl
theorem trees_more : ∀ (q p : List Stp), ∃ us, trees (p ++ q) = trees p ++ us := by
  intro q
  induction q with
  | nil => intro p; exact ⟨[], by simp⟩
  | cons x q ih =>
    intro p
    obtain ⟨us, h⟩ := ih (p ++ [x])
    rw [trees_snoc, List.append_assoc, List.append_assoc] at h
    exact ⟨_, h⟩
theorem getD_more {α : Type} {ts us : List α} {k : Nat} (d : α) (h : k < ts.length) : (ts ++ us).getD k d = ts.getD k d := by
  rw [List.getD_eq_getElem?_getD, List.getD_eq_getElem?_getD, List.getElem?_append_left h]
theorem getD_end {α : Type} (ts : List α) (x d : α) : (ts ++ [x]).getD ts.length d = x := by
  rw [List.getD_eq_getElem?_getD, List.getElem?_append_right (Nat.le_refl _)]; simp
theorem trS_more {G : Int} {n : Nat} {x : Stp} {ts us : List Tr} (h : rightB G n x = true) (hn : n ≤ ts.length) : trS (ts ++ us) x = trS ts x := by
  unfold trS
  by_cases h2 : x.1 = 2
  · obtain ⟨-, d1, d2, d3, d4⟩ := rightB_detach h (by omega)
    rw [if_pos h2, if_pos h2, getD_more _ (by omega), getD_more _ (by omega)]
  · rw [if_neg h2, if_neg h2]
theorem okS_snoc {G : Int} : ∀ (p : List Stp) (n : Nat) (x : Stp), okSteps G n (p ++ [x]) = (okSteps G n p && rightB G (n + p.length) x)
  | [], n, x => by simp [okSteps]
  | y :: p, n, x => by
    rw [List.cons_append, okSteps, okSteps, okS_snoc p (n + 1) x, Bool.and_assoc, List.length_cons, show n + 1 + p.length = n + (p.length + 1) by omega]
theorem okS_get {G : Int} : ∀ (p : List Stp) (n k : Nat) (hk : k < p.length), okSteps G n p = true → rightB G (n + k) p[k] = true
  | x :: p, n, 0, _, h => by simp only [okSteps, Bool.and_eq_true] at h; exact h.1
  | x :: p, n, k + 1, hk, h => by
    simp only [okSteps, Bool.and_eq_true] at h
    have := okS_get p (n + 1) k (by simpa using hk) h.2
    rw [show n + (k + 1) = n + 1 + k by omega]
    simpa using this
theorem trees_get {G : Int} : ∀ (q p : List Stp), okSteps G 0 (p ++ q) = true → (∀ k (hk : k < p.length), (trees p).getD k (.g 0) = trS (trees p) p[k]) → ∀ k (hk : k < (p ++ q).length), (trees (p ++ q)).getD k (.g 0) = trS (trees (p ++ q)) (p ++ q)[k]
  | [], p, _, h, k, hk => by
    simp only [List.append_nil] at hk ⊢
    exact h k hk
  | x :: q, p, ho, h, k, hk => by
    have e : p ++ x :: q = (p ++ [x]) ++ q := by simp
    have ho' : okSteps G 0 ((p ++ [x]) ++ q) = true := by rw [← e]; exact ho
    have hx : rightB G p.length x = true := by
      have := okS_get (p ++ x :: q) 0 p.length (by simp) ho
      simpa using this
    have hp : ∀ j (hj : j < p.length), rightB G j p[j] = true := fun j hj => by
      have := okS_get (p ++ x :: q) 0 j (by simp; omega) ho
      rw [List.getElem_append_left hj] at this
      simpa using this
    have ih := trees_get q (p ++ [x]) ho' (fun j hj => by
      rw [trees_snoc]
      rw [List.length_append, List.length_singleton] at hj
      by_cases hj' : j < p.length
      · rw [getD_more _ (by rw [trees_len]; exact hj'), h j hj', List.getElem_append_left hj', trS_more (hp j hj') (by rw [trees_len]; omega)]
      · obtain rfl : j = p.length := by omega
        have := getD_end (trees p) (trS (trees p) x) (.g 0)
        rw [trees_len] at this
        rw [this, List.getElem_append_right (Nat.le_refl _)]
        simp only [Nat.sub_self, List.getElem_singleton]
        rw [trS_more hx (by rw [trees_len]; omega)]) k (by rw [← e]; exact hk)
    simp only [← e] at ih
    exact ih
theorem trees_at {G : Int} {p : List Stp} (h : okSteps G 0 p = true) (k : Nat) (hk : k < p.length) : (trees p).getD k (.g 0) = trS (trees p) p[k] := by
  have := trees_get (G := G) p [] (by simpa using h) (fun k hk => by simp at hk) k (by simpa using hk)
  simpa using this

/-! ### reading a tree -/
def addP (p : List Stp) (x : Stp) : List Stp × Nat := if x ∈ p then (p, p.idxOf x) else (p ++ [x], p.length)
structure AddP (G : Int) (p : List Stp) (x : Stp) (p' : List Stp) (k : Nat) : Prop where
  nd : p'.Nodup
  ok : okSteps G 0 p' = true
  more : ∃ us, trees p' = trees p ++ us
  le : p.length ≤ p'.length
  lt : k < p'.length
  len : p'.length ≤ p.length + 1
  new : x ∉ p → k + 1 = p'.length
  tr : (trees p').getD k (.g 0) = trS (trees p) x
  all : ∀ t ∈ trees p', t ∈ trees p ∨ t = trS (trees p) x
  old : x ∈ p → p' = p
  pre : p <+: p'
theorem addP_spec {G : Int} {p : List Stp} {x : Stp} (nd : p.Nodup) (ok : okSteps G 0 p = true) (hx : rightB G p.length x = true) : AddP G p x (addP p x).1 (addP p x).2 := by
  unfold addP
  by_cases hm : x ∈ p
  · rw [if_pos hm]
    have hi := List.idxOf_lt_length_of_mem hm
    exact ⟨nd, ok, ⟨[], by simp⟩, Nat.le_refl _, hi, Nat.le_succ _, fun h => (h hm).elim, by rw [trees_at ok _ hi]; simp, fun t ht => .inl ht, fun _ => rfl, List.prefix_refl _⟩
  · rw [if_neg hm]
    refine ⟨?_, ?_, ⟨_, trees_snoc _ _⟩, by simp, by simp, by simp, fun _ => by simp, ?_, fun t ht => ?_, fun h => (hm h).elim, List.prefix_append _ _⟩
    · rw [List.nodup_append]
      exact ⟨nd, by simp, fun a ha b hb e => by rw [List.mem_singleton] at hb; subst hb; subst e; exact hm ha⟩
    · rw [okS_snoc, ok, Nat.zero_add, hx]; rfl
    · rw [trees_snoc]
      have := getD_end (trees p) (trS (trees p) x) (.g 0)
      rw [trees_len] at this; exact this
    · rw [trees_snoc, List.mem_append, List.mem_singleton] at ht; exact ht
def closeP : List (Option Nat) → List Stp → Nat → List (Option Nat) × List Stp × Option Nat
  | [], p, k => ([], p, some k)
  | none :: st, p, k => (some k :: st, p, none)
  | some m :: st, p, k => closeP st (addP p (2, m, k)).1 (addP p (2, m, k)).2
def isDig (b : UInt8) : Bool := decide (48 ≤ b.toNat) && decide (b.toNat ≤ 57)
def numOf (a b : UInt8) : Nat := 10 * (a.toNat - 48) + (b.toNat - 48)
def untR (G : Int) : List UInt8 → List (Option Nat) → List Stp → Option Nat → List Stp × Int
  | [], _, _, none => ([], 2)
  | [], _, p, some _ => if p.length ≤ 60 then (p, 0) else ([], 4)
  | _ :: _, _, _, some _ => ([], 2)
  | c :: r, st, p, none =>
    if c = 68 then untR G r (none :: st) p none
    else if c = 103 then
      match r with
      | a :: b :: r' => if isDig a = true ∧ isDig b = true ∧ (numOf a b : Int) < G then untR G r' (closeP st (addP p (1, numOf a b, 0)).1 (addP p (1, numOf a b, 0)).2).1 (closeP st (addP p (1, numOf a b, 0)).1 (addP p (1, numOf a b, 0)).2).2.1 (closeP st (addP p (1, numOf a b, 0)).1 (addP p (1, numOf a b, 0)).2).2.2 else ([], 2)
      | _ => ([], 2)
    else ([], 2)
theorem untR_D (G : Int) (r : List UInt8) (st : List (Option Nat)) (p : List Stp) : untR G (68 :: r) st p none = untR G r (none :: st) p none := by
  rw [untR.eq_def]; simp
theorem untR_g (G : Int) (a b : UInt8) (r : List UInt8) (st : List (Option Nat)) (p : List Stp) : untR G (103 :: a :: b :: r) st p none = if isDig a = true ∧ isDig b = true ∧ (numOf a b : Int) < G then untR G r (closeP st (addP p (1, numOf a b, 0)).1 (addP p (1, numOf a b, 0)).2).1 (closeP st (addP p (1, numOf a b, 0)).1 (addP p (1, numOf a b, 0)).2).2.1 (closeP st (addP p (1, numOf a b, 0)).1 (addP p (1, numOf a b, 0)).2).2.2 else ([], 2) := by
  rw [untR.eq_def]; simp
theorem untR_g0 (G : Int) (st : List (Option Nat)) (p : List Stp) : untR G [103] st p none = ([], 2) := by rw [untR.eq_def]; simp
theorem untR_g1 (G : Int) (a : UInt8) (st : List (Option Nat)) (p : List Stp) : untR G [103, a] st p none = ([], 2) := by rw [untR.eq_def]; simp
theorem untR_no (G : Int) (c : UInt8) (r : List UInt8) (st : List (Option Nat)) (p : List Stp) (h1 : c ≠ 68) (h2 : c ≠ 103) : untR G (c :: r) st p none = ([], 2) := by rw [untR.eq_def]; simp [h1, h2]
theorem untR_over (G : Int) (c : UInt8) (r : List UInt8) (st : List (Option Nat)) (p : List Stp) (k : Nat) : untR G (c :: r) st p (some k) = ([], 2) := by rw [untR.eq_def]
theorem untR_end (G : Int) (st : List (Option Nat)) (p : List Stp) (k : Nat) : untR G [] st p (some k) = if p.length ≤ 60 then (p, 0) else ([], 4) := by rw [untR.eq_def]
theorem untR_short (G : Int) (st : List (Option Nat)) (p : List Stp) : untR G [] st p none = ([], 2) := by rw [untR.eq_def]
def untE (G : Int) (t : ByteArray) : List Stp × Int :=
  if 0 ≤ G ∧ G ≤ 60 then (if t.size ≤ 65536 then untR G t.data.toList [] [] none else ([], 3)) else ([], 1)
theorem digs_num {a b : UInt8} (ha : isDig a = true) (hb : isDig b = true) : digs (numOf a b) = [a, b] := by
  simp only [isDig, Bool.and_eq_true, decide_eq_true_eq] at ha hb
  unfold digs numOf
  have e1 : 48 + (10 * (a.toNat - 48) + (b.toNat - 48)) / 10 = a.toNat := by omega
  have e2 : 48 + (10 * (a.toNat - 48) + (b.toNat - 48)) % 10 = b.toNat := by omega
  rw [e1, e2]; simp
theorem num_digs {n : Nat} (h : n < 100) : isDig (UInt8.ofNat (48 + n / 10)) = true ∧ isDig (UInt8.ofNat (48 + n % 10)) = true ∧ numOf (UInt8.ofNat (48 + n / 10)) (UInt8.ofNat (48 + n % 10)) = n := by
  have e1 : (UInt8.ofNat (48 + n / 10)).toNat = 48 + n / 10 := UInt8.toNat_ofNat_of_lt' (by show _ < 256; omega)
  have e2 : (UInt8.ofNat (48 + n % 10)).toNat = 48 + n % 10 := UInt8.toNat_ofNat_of_lt' (by show _ < 256; omega)
  unfold isDig numOf
  rw [e1, e2]
  simp only [Bool.and_eq_true, decide_eq_true_eq]
  omega

def rend (ts : List Tr) : List (Option Nat) → List UInt8
  | [] => []
  | none :: st => rend ts st ++ [68]
  | some m :: st => rend ts st ++ 68 :: (ts.getD m (.g 0)).text
theorem rend_more {ts us : List Tr} : ∀ {st : List (Option Nat)}, (∀ m, some m ∈ st → m < ts.length) → rend (ts ++ us) st = rend ts st
  | [], _ => rfl
  | none :: st, h => by rw [rend, rend, rend_more (fun m hm => h m (by simp [hm]))]
  | some m :: st, h => by rw [rend, rend, rend_more (fun m hm => h m (by simp [hm])), getD_more _ (h m (by simp))]
/-- between two parts of a text -/
structure Jo (G : Int) (st : List (Option Nat)) (p : List Stp) (w : Option Nat) (c : List UInt8) : Prop where
  nd : p.Nodup
  ok : okSteps G 0 p = true
  stl : ∀ m, some m ∈ st → m < p.length
  open_ : w = none → c = rend (trees p) st
  whole : ∀ k, w = some k → st = [] ∧ k + 1 = p.length ∧ c = ((trees p).getD k (.g 0)).text
  le : ∀ t ∈ trees p, t.text.length ≤ c.length
  cnt : p.length + st.length ≤ c.length
/-- behind the end of the part k -/
structure Jc (G : Int) (st : List (Option Nat)) (p : List Stp) (k b : Nat) (c : List UInt8) : Prop where
  nd : p.Nodup
  ok : okSteps G 0 p = true
  stl : ∀ m, some m ∈ st → m < p.length
  kl : k < p.length
  txt : c = rend (trees p) st ++ ((trees p).getD k (.g 0)).text
  le : ∀ t ∈ trees p, t.text.length ≤ b ∨ t.text.length ≤ ((trees p).getD k (.g 0)).text.length
  bl : b < c.length
  last : st = [] → k + 1 = p.length
  cnt : p.length + st.length ≤ c.length
theorem Jo.start (G : Int) : Jo G [] [] none [] := ⟨.nil, rfl, (fun m h => by cases h), fun _ => rfl, (fun k h => by cases h), (fun t h => by cases h), Nat.le_refl _⟩
theorem Jo.d {G : Int} {st : List (Option Nat)} {p : List Stp} {c : List UInt8} (h : Jo G st p none c) : Jo G (none :: st) p none (c ++ [68]) :=
  ⟨h.nd, h.ok, fun m hm => h.stl m (by simpa using hm), fun _ => by rw [rend, ← h.open_ rfl], (fun k e => by cases e), fun t ht => by have := h.le t ht; simp; omega, by have := h.cnt; simp; omega⟩
theorem right_cite {G : Int} {n i : Nat} (h : (n : Int) < G) : rightB G i (1, (n : Int), 0) = true := by
  simp only [rightB, Bool.or_eq_true, Bool.and_eq_true, decide_eq_true_eq]; left; exact ⟨⟨trivial, by omega, by omega⟩, trivial⟩
theorem right_det {G : Int} {m k n : Nat} (hm : m < n) (hk : k < n) : rightB G n (2, (m : Int), (k : Int)) = true := by
  simp only [rightB, Bool.or_eq_true, Bool.and_eq_true, decide_eq_true_eq]; right; exact ⟨⟨trivial, by omega, by omega⟩, by omega, by omega⟩
theorem trS_cite (ts : List Tr) (n : Nat) : trS ts (1, (n : Int), 0) = .g n := by unfold trS; rw [if_neg (by simp)]; rfl
theorem trS_det (ts : List Tr) (m k : Nat) : trS ts (2, (m : Int), (k : Int)) = .d (ts.getD m (.g 0)) (ts.getD k (.g 0)) := by unfold trS; rw [if_pos rfl]; rfl
theorem mem_trees {G : Int} {p : List Stp} {x : Stp} (ok : okSteps G 0 p = true) (h : x ∈ p) : trS (trees p) x ∈ trees p := by
  obtain ⟨i, hi, rfl⟩ := List.getElem_of_mem h
  rw [← trees_at ok i hi, List.getD_eq_getElem?_getD, List.getElem?_eq_getElem (by rw [trees_len]; exact hi)]
  exact List.getElem_mem _
theorem Jo.g {G : Int} {st : List (Option Nat)} {p : List Stp} {c : List UInt8} {a b : UInt8} (h : Jo G st p none c) (ha : isDig a = true) (hb : isDig b = true) (hG : (numOf a b : Int) < G) :
    Jc G st (addP p (1, (numOf a b : Int), 0)).1 (addP p (1, (numOf a b : Int), 0)).2 c.length (c ++ [103, a, b]) := by
  have hS := addP_spec h.nd h.ok (right_cite (i := p.length) hG)
  obtain ⟨us, hus⟩ := hS.more
  have htr := hS.tr
  rw [trS_cite] at htr
  have htx : (Tr.g (numOf a b)).text = [103, a, b] := by rw [Tr.text, digs_num ha hb]
  refine ⟨hS.nd, hS.ok, fun m hm => Nat.lt_of_lt_of_le (h.stl m hm) hS.le, hS.lt, ?_, fun t ht => ?_, by simp, fun hst => hS.new fun hm => ?_, ?_⟩
  · rw [htr, htx, hus, rend_more (by rw [trees_len]; exact h.stl), ← h.open_ rfl]
  · rcases hS.all t ht with h1 | h1
    · exact .inl (h.le t h1)
    · rw [htr, h1, trS_cite]; exact .inr (Nat.le_refl _)
  · have h1 := h.le _ (mem_trees h.ok hm)
    have h2 := Tr.text_len (trS (trees p) (1, (numOf a b : Int), 0))
    rw [h.open_ rfl, hst] at h1
    simp only [rend, List.length_nil] at h1
    omega
  · have := h.cnt
    have := hS.len
    simp; omega
theorem Jc.close {G : Int} {st : List (Option Nat)} {p : List Stp} {m k b : Nat} {c : List UInt8} (h : Jc G (some m :: st) p k b c) : Jc G st (addP p (2, (m : Int), (k : Int))).1 (addP p (2, (m : Int), (k : Int))).2 b c := by
  have hm := h.stl m (by simp)
  have hS := addP_spec h.nd h.ok (right_det (G := G) hm h.kl)
  obtain ⟨us, hus⟩ := hS.more
  have htr := hS.tr
  rw [trS_det] at htr
  have hc := h.txt
  rw [rend] at hc
  have hst : ∀ j, some j ∈ st → j < p.length := fun j hj => h.stl j (by simp [hj])
  have hcl := congrArg List.length hc
  simp only [List.length_append, List.length_cons] at hcl
  refine ⟨hS.nd, hS.ok, fun j hj => Nat.lt_of_lt_of_le (hst j hj) hS.le, hS.lt, ?_, fun t ht => ?_, h.bl, fun e => hS.new fun hx => ?_, ?_⟩
  · rw [htr, hus, rend_more (by rw [trees_len]; exact hst), hc, Tr.text]; simp
  · rw [htr]
    rcases hS.all t ht with h1 | h1
    · rcases h.le t h1 with h2 | h2
      · exact .inl h2
      · right; simp only [Tr.text, List.length_cons, List.length_append]; omega
    · rw [h1, trS_det]; exact .inr (Nat.le_refl _)
  · have h1 := h.le _ (mem_trees h.ok hx)
    rw [trS_det] at h1
    have hb := h.bl
    subst e
    simp only [rend, List.length_nil] at hcl
    simp only [Tr.text, List.length_cons, List.length_append] at h1
    omega
  · have := h.cnt
    have := hS.len
    simp at *; omega
theorem Jc.wait {G : Int} {st : List (Option Nat)} {p : List Stp} {k b : Nat} {c : List UInt8} (h : Jc G (none :: st) p k b c) : Jo G (some k :: st) p none c := by
  have hc := h.txt
  rw [rend] at hc
  have hcl := congrArg List.length hc
  simp only [List.length_append] at hcl
  refine ⟨h.nd, h.ok, fun m hm => ?_, fun _ => by rw [rend, hc]; simp, (fun k e => by cases e), fun t ht => ?_, by simpa using h.cnt⟩
  · rcases List.mem_cons.1 hm with e | e
    · cases e; exact h.kl
    · exact h.stl m (by simp [e])
  · have hb := h.bl
    rcases h.le t ht with h1 | h1 <;> omega
theorem Jc.done {G : Int} {p : List Stp} {k b : Nat} {c : List UInt8} (h : Jc G [] p k b c) : Jo G [] p (some k) c := by
  have hc := h.txt
  rw [rend, List.nil_append] at hc
  refine ⟨h.nd, h.ok, h.stl, (fun e => by cases e), fun j e => by cases e; exact ⟨rfl, h.last rfl, hc⟩, fun t ht => ?_, h.cnt⟩
  have hb := h.bl
  rw [hc] at hb ⊢
  rcases h.le t ht with h1 | h1 <;> omega
theorem closeP_ok {G : Int} {b : Nat} {c : List UInt8} : ∀ (st : List (Option Nat)) (p : List Stp) (k : Nat), Jc G st p k b c → Jo G (closeP st p k).1 (closeP st p k).2.1 (closeP st p k).2.2 c
  | [], _, _, h => h.done
  | none :: _, _, _, h => h.wait
  | some _ :: st, _, _, h => closeP_ok st _ _ h.close
theorem untR_ok {G : Int} {q : List Stp} : ∀ (n : Nat) (r : List UInt8) (st : List (Option Nat)) (p : List Stp) (w : Option Nat) (c : List UInt8), r.length ≤ n → Jo G st p w c → untR G r st p w = (q, 0) → ∃ k, Jo G [] q (some k) (c ++ r) ∧ q.length ≤ 60
  | _, [], st, p, none, c, _, h, e => by rw [untR_short] at e; cases e
  | _, [], st, p, some k, c, _, h, e => by
    rw [untR_end] at e
    split at e
    · cases e
      obtain ⟨rfl, -⟩ := h.whole k rfl
      exact ⟨k, by simpa using h, ‹_›⟩
    · cases e
  | _, x :: r, st, p, some k, c, _, h, e => by rw [untR_over] at e; cases e
  | 0, x :: r, st, p, none, c, hn, h, e => by simp at hn
  | n + 1, x :: r, st, p, none, c, hn, h, e => by
    by_cases hx : x = 68
    · subst hx
      rw [untR_D] at e
      obtain ⟨k, h1, h2⟩ := untR_ok n r _ _ _ _ (by simpa using hn) h.d e
      exact ⟨k, by simpa using h1, h2⟩
    · by_cases hg : x = 103
      · subst hg
        match r with
        | a :: b :: r' =>
          rw [untR_g] at e
          split at e
          · rename_i hc
            obtain ⟨k, h1, h2⟩ := untR_ok n r' _ _ _ _ (by simp at hn; omega) (closeP_ok _ _ _ (h.g hc.1 hc.2.1 hc.2.2)) e
            exact ⟨k, by simpa using h1, h2⟩
          · cases e
        | [] => rw [untR_g0] at e; cases e
        | [a] => rw [untR_g1] at e; cases e
      · rw [untR_no _ _ _ _ _ hx hg] at e; cases e
end Go.Proofs.YtgkddhakhapjlaaDoor

/- Walks of package unify: the stack of pairs; where arguments lie; after of a logic; the step of unification. -/
namespace Go.Proofs.YtgkddhakhapjlaaDoor
open Go Go.RowKit Go.Maps

abbrev prE : Enc (List Int × List Int) := pairE (slE intE) (slE intE)
abbrev OwnPr (S : Nat → Prop) (w : World) (base : Nat) (v : Value) (L : Prs) : Prop := OwnL prE S w base 149 v L
theorem infoPair : (Tryd.prog.info? 149).map (fun i => (i.zero, i.size, i.bytes)) = some (some (.agg #[.slice none 0 0, .slice none 0 0]), 2, 48) := by kernel_rfl

section
variable {S : Nat → Prop} {w : World} {base g n cap : Nat} {L : Prs}
theorem pr_len {xs : List (List Value)} {T : Nat → Prop} (hl : xs.length = L.length) (hx : ∀ i (h1 : i < xs.length) (h2 : i < L.length), prE.R T w xs[i] L[i]) : ∀ x ∈ xs, x.length = 2 := by
  intro x hxm
  obtain ⟨i, hi, rfl⟩ := List.getElem_of_mem hxm
  exact prE.len (hx i hi (by omega))
theorem OwnPr.cell (h : OwnPr S w base (.slice (some ⟨g, 0, none⟩) n cap) L) (hn : n = L.length) (i : Nat) (hi : i < L.length) :
    ∃ a c a' c', w.cell? ⟨g, i * 2, none⟩ = some (.slice a L[i].1.length c) ∧ w.cell? ⟨g, i * 2 + 1, none⟩ = some (.slice a' L[i].2.length c') ∧ Ints (Off S (.slice (some ⟨g, 0, none⟩) n cap)) w a c L[i].1 ∧ Ints (Off S (.slice (some ⟨g, 0, none⟩) n cap)) w a' c' L[i].2 := by
  subst hn
  obtain ⟨xs, ho, hl, hx⟩ := h
  have hi' : i < xs.length := by omega
  have h1 := pr_len hl hx
  obtain ⟨us, ts, he, ⟨a, c, rfl, hI⟩, ⟨a', c', rfl, hI'⟩⟩ := hx i hi' hi
  refine ⟨a, c, a', c', ?_, ?_, hI, hI'⟩
  · rw [ho.cellAt (i * 2) (by show i * 2 < L.length * 2; omega)]
    have := flatten_get h1 i hi' 0 (by rw [he]; simp)
    rw [Nat.add_zero] at this
    rw [this]; simp [he]
  · rw [ho.cellAt (i * 2 + 1) (by show i * 2 + 1 < L.length * 2; omega)]
    have := flatten_get h1 i hi' 1 (by rw [he]; simp)
    rw [this]; simp [he]
theorem OwnPr.take (h : OwnPr S w base (.slice (some ⟨g, 0, none⟩) n cap) L) (hn : n = L.length) {k : Nat} (hk : k ≤ n) : OwnPr S w base (.slice (some ⟨g, 0, none⟩) k cap) (L.take k) := by
  subst hn
  obtain ⟨xs, ho, hl, hx⟩ := h
  have h1 := pr_len hl hx
  have hlk : (L.take k).length = k := by simp; omega
  have hfl : (xs.take k).flatten = xs.flatten.take (k * 2) := by
    clear ho hx hl hk hlk
    induction xs generalizing k with
    | nil => simp
    | cons x r ih =>
      have hx2 := h1 x (by simp)
      cases k with
      | zero => simp
      | succ k => rw [List.take_succ_cons, List.flatten_cons, List.flatten_cons, ih (fun z hz => h1 z (by simp [hz])), show (k + 1) * 2 = x.length + k * 2 by omega, List.take_length_add_append]
  refine ⟨xs.take k, ?_, by simp [hl], fun i g1 g2 => ?_⟩
  · rw [hlk, hfl]
    obtain ⟨e1, e2⟩ := ho
    have hs : prE.size = 2 := rfl
    rw [hs] at e1 e2 ⊢
    refine ⟨by rw [List.length_take, e1]; omega, ?_⟩
    rcases e2 with ⟨e2, -⟩ | ⟨g', cap', cur, e3, e4, e5, e6, e7, e8, e9⟩
    · cases e2
    · cases e3
      refine .inr ⟨g, cap, cur, rfl, e4, e5, by omega, e7, e8, ?_⟩
      rw [← e9, List.take_take, Nat.min_eq_left (by omega)]
  · simp only [List.getElem_take]
    exact hx i (by simp at g1; omega) (by simp at g2; omega)
end

/-- the places of the arguments -/
def apos (s : Sg) (t : List Int) (m : Nat) : Nat := 1 + ((argsW s t).take m).flatten.length
theorem apos_zero (s : Sg) (t : List Int) : apos s t 0 = 1 := rfl
theorem args_at {s : Sg} {n : Int} {x : List Int} (h : W1 s (n :: x)) {m : Nat} (hm : m < arW s n) (hl : m < (argsW s (n :: x)).length) :
    skw s 1 ((n :: x).drop (apos s (n :: x) m)) = some ((n :: x).drop (apos s (n :: x) (m + 1))) ∧ apos s (n :: x) m < apos s (n :: x) (m + 1) ∧ apos s (n :: x) (m + 1) ≤ (n :: x).length ∧
      ((n :: x).drop (apos s (n :: x) m)).take (apos s (n :: x) (m + 1) - apos s (n :: x) m) = (argsW s (n :: x))[m] := by
  obtain ⟨h1, h2, h3, -⟩ := h.args
  obtain ⟨A, hA⟩ : ∃ A, argsW s (n :: x) = A := ⟨_, rfl⟩
  rw [hA] at h1 h2 h3
  simp only [apos, hA]
  have hd : ∀ k, (n :: x).drop (1 + (A.take k).flatten.length) = (A.drop k).flatten := fun k => by
    rw [Nat.add_comm, List.drop_succ_cons, ← h2]
    conv => lhs; rw [← List.take_append_drop k A]
    rw [List.flatten_append]
    have : ((A.take k ++ A.drop k).take k) = A.take k := by rw [List.take_append_drop]
    rw [this, List.drop_left]
  have ht : (A.take (m + 1)).flatten.length = (A.take m).flatten.length + (A[m]'(by omega)).length := by
    rw [List.take_succ_eq_append_getElem (by omega), List.flatten_append, List.length_append]; simp
  have hdm : (A.drop m).flatten = A[m]'(by omega) ++ (A.drop (m + 1)).flatten := by rw [List.drop_eq_getElem_cons (by omega), List.flatten_cons]
  have hw := h3 _ (List.getElem_mem (by omega : m < A.length))
  have hle : (A.take (m + 1)).flatten.length ≤ x.length := by
    rw [← h2]
    conv => rhs; rw [← List.take_append_drop (m + 1) A]
    rw [List.flatten_append, List.length_append]; omega
  have hwl := hw.len
  refine ⟨?_, by omega, by rw [List.length_cons]; omega, ?_⟩
  · rw [hd, hd, hdm, skw_append s 1 _ _ _ hw]; rfl
  · rw [hd, ht, hdm, show 1 + ((A.take m).flatten.length + (A[m]'(by omega)).length) - (1 + (A.take m).flatten.length) = (A[m]'(by omega)).length by omega, List.take_left]
theorem args_all {s : Sg} {t : List Int} (h : W1 s t) {n : Int} (hn : t.headD 0 = n) : (argsW s t).length = arW s n ∧ n < s.length ∧ ∀ m (hm : m < (argsW s t).length), skw s 1 (t.drop (apos s t m)) = some (t.drop (apos s t (m + 1))) ∧ apos s t m < apos s t (m + 1) ∧ apos s t (m + 1) ≤ t.length ∧
    (t.drop (apos s t m)).take (apos s t (m + 1) - apos s t m) = (argsW s t)[m] := by
  cases t with
  | nil => exact (h.ne rfl).elim
  | cons k x =>
    simp only [List.headD_cons] at hn
    subst hn
    exact ⟨h.args.1, h.args.2.2.2, fun m hm => args_at h (by rw [← h.args.1]; exact hm) hm⟩
theorem drop_len {t : List Int} {k : Nat} (h : k ≤ t.length) : t.length - (t.drop k).length = k := by rw [List.length_drop]; omega

set_option maxHeartbeats 1000000 in
theorem lafter_any {S1 S2 : Nat → Prop} (a1 a2 : Option Addr) (c1 c2 : Nat) (s : Sg) (t : List Int) (p : Nat) (r : List Int) (w : World) (h1 : Sign S1 w a1 c1 s) (h2 : Ints S2 w a2 c2 t) (hok : okSign s = true) (hp : skw s 1 (t.drop p) = some r) :
    Calls Tryd.prog 100 #[.agg #[.slice a1 s.length c1], .slice a2 t.length c2, .int .i64 p] w fun e w' => e = .returned (.int .i64 (t.length - r.length : Nat)) ∧ Below w.heap.size w w' := by
  have cf := fun W hb => after_any a1 a2 c1 c2 s t p r W (h1.below (w' := W) hb) (h2.below hb) hok hp
  have cfH := Lib.hid cf
  clear cf h1 h2 hp
  go_enter Tryd.func100, Tryd.ntmps100
  go_wp2_with fail
  refine (cfH.out _ (below1 _ _)).mono ?_
  rintro e w1 ⟨rfl, rfl⟩
  go_wp2_with fail
  go_ret
  exact ⟨rfl, below1 _ _⟩

end Go.Proofs.YtgkddhakhapjlaaDoor

/- Walks of package unify: solve. -/
namespace Go.Proofs.YtgkddhakhapjlaaDoor
open Go Go.RowKit Go.Maps

theorem OwnPr.lit1 {w : World} {S : Nat → Prop} {a a' : Option Addr} {c c' : Nat} {t u : List Int} (h : Ints S w a c t) (h' : Ints S w a' c' u) :
    OwnPr S (w.alloc (.cells #[.slice a t.length c, .slice a' u.length c'] 149)) w.heap.size (.slice (some ⟨w.heap.size, 0, none⟩) 1 1) [(t, u)] := by
  have hr := World.ownsRow_lit (base := w.heap.size) (e := 149) (size := 2) w #[.slice a t.length c, .slice a' u.length c'] 1 (Nat.le_refl _) (by unfold maxLen; omega) (by simp)
  refine ⟨[[.slice a t.length c, .slice a' u.length c']], hr, rfl, fun i g1 g2 => ?_⟩
  obtain rfl : i = 0 := by simp at g1; omega
  have hA := Agree.all (S := S) (below1 w (.cells #[.slice a t.length c, .slice a' u.length c'] 149))
  have hm : ∀ b, b < w.heap.size → S b → Off S (.slice (some ⟨w.heap.size, 0, none⟩) 1 1) b := fun b hb hs => ⟨hs, fun e => by simp [Value.ownBlock] at e; omega⟩
  exact ⟨[_], [_], rfl, ⟨a, c, rfl, h.mono hm hA⟩, ⟨a', c', rfl, h'.mono hm hA⟩⟩
theorem T0.back {w0 w : World} (hB : Below w0.heap.size w0 w) {S : Nat → Prop} {a : Option Addr} {c : Nat} {t : List Int} (h : Ints S w a c t) (hS : ∀ b, S b → b < w0.heap.size) : T0 w0 a c t :=
  h.mono (fun b _ hb => hS b hb) (fun b hb _ => (hB.block b (hS b hb)).symm)

def solRel (w0 wS : World) (xb mb : Nat) (a1 : Option Addr) (c1 : Nat) (s : Sg) (a b : List Int) (k : Nat) (lv : Value) (wr : World) : Prop :=
  ∃ B θ ρ n L, St s a b k B θ ρ L ∧ n + free B ≤ 24 ∧ SolvW w0 wr xb mb n a1 c1 s B ∧ OwnPr (fun b => b < w0.heap.size) wr wS.heap.size lv L ∧ wS.heap.size ≤ wr.heap.size
def solRet (w0 : World) (xb mb : Nat) (a1 : Option Addr) (c1 : Nat) (s : Sg) (a b : List Int) (e : Ending) (w' : World) : Prop :=
  ∃ r, e = .returned (.bool r) ∧ Below w0.heap.size w0 w' ∧ (r = false → ∀ η, Wsub s η → ap η a ≠ ap η b) ∧
    (r = true → ∃ B θ ρ n, Slv s B θ ρ ∧ RgB B ∧ (∀ η, Wsub s η → (Sat B η ↔ ap η a = ap η b)) ∧ SolvW w0 w' xb mb n a1 c1 s B ∧ ∀ n u, B n = some u → InfT a b u)
section
variable {P : Program} {Q : Exit → Act → World → Prop} {md : Region.Mode} {S : World → Prop} {l : List Oper} {listed : Array Bool} {fuel : Nat} {a : Act} {w : World}
/-- two operations either of which may come up -/
theorem region_2 (i j : Nat) {o o' : Oper} (hi : l[i]? = some o) (hj : l[j]? = some o') (hr : Region.ready md l.toArray listed = [i, j])
    (h : ∀ K' : Act → World → Prop, Shut (∀ a w, S w → (S w → wpAnyH P md l.toArray Q S fuel (listed.setIfInBounds i true) a w) → K' a w) → if Region.wanted o (yielded l.toArray a.tmps) = true then Oper.wp P o a w K' Q else K' (a.put o.dst undef) w)
    (h' : ∀ K' : Act → World → Prop, Shut (∀ a w, S w → (S w → wpAnyH P md l.toArray Q S fuel (listed.setIfInBounds j true) a w) → K' a w) → if Region.wanted o' (yielded l.toArray a.tmps) = true then Oper.wp P o' a w K' Q else K' (a.put o'.dst undef) w) :
    wpAnyH P md l.toArray Q S (fuel + 1) listed a w :=
  wpAnyH_ready hr (by simp) (AllReadyH.cons (by simpa using hi) h (AllReadyH.cons (by simpa using hj) h' AllReadyH.nil))
end
theorem SolvW.keep {w0 w w' : World} {xb mb n K : Nat} {a1 : Option Addr} {c1 : Nat} {s : Sg} {B : Bd} (h : SolvW w0 w xb mb n a1 c1 s B) (hb : Below K w w') (h1 : xb < K) (h2 : mb < K) (h3 : w0.heap.size ≤ K) : SolvW w0 w' xb mb n a1 c1 s B :=
  ⟨(World.cell?_of_block (a := ⟨xb, 0, none⟩) (hb.block xb h1)).trans h.k0, (World.cell?_of_block (a := ⟨xb, 1, none⟩) (hb.block xb h1)).trans h.k1, h.map.below hb h2, h.bx, h.bm, h.ne, h.sg, h.bel.trans (hb.mono h3), h.wf⟩
theorem SolvW.stored {w0 w w' : World} {xb mb n n' : Nat} {a1 : Option Addr} {c1 : Nat} {s : Sg} {B : Bd} {v : Int} {q : List Int} (h : SolvW w0 w xb mb n a1 c1 s B) (hg : w.grownBy w' (some mb)) (hD : BdMap w0 w' mb n' (upB B v q)) (hq : W1 s q) : SolvW w0 w' xb mb n' a1 c1 s (upB B v q) := by
  have hx : w'.heap[xb]? = w.heap[xb]? := hg.block xb h.lt (fun e => h.ne (by injection e))
  refine ⟨(World.cell?_of_block (a := ⟨xb, 0, none⟩) hx).trans h.k0, (World.cell?_of_block (a := ⟨xb, 1, none⟩) hx).trans h.k1, hD, h.bx, h.bm, h.ne, h.sg, h.bel.grown hg h.bel.size (fun j e => by have := h.bm; injection e with e; omega), fun m u hu => ?_⟩
  unfold upB at hu
  split at hu
  · cases hu; exact hq
  · exact h.wf m u hu
def inRel (w0 wS : World) (xb mb n : Nat) (a1 : Option Addr) (c1 : Nat) (s : Sg) (B : Bd) (L0 : Prs) (P Q : List Int) (N : Nat) (lv iv jv cv : Value) (wr : World) : Prop :=
  ∃ m : Nat, cv = .int .i64 m ∧ m ≤ N ∧ iv = .int .i64 (apos s P m : Nat) ∧ jv = .int .i64 (apos s Q m : Nat) ∧ OwnPr (fun b => b < w0.heap.size) wr wS.heap.size lv (L0 ++ ((argsW s P).zip (argsW s Q)).take m) ∧ SolvW w0 wr xb mb n a1 c1 s B ∧ wS.heap.size ≤ wr.heap.size
theorem Pr_push {S : Nat → Prop} {w : World} {base : Nat} {v : Value} {L : Prs} (ho : OwnPr S w base v L) (hS : ∀ b, S b → b < base) (hbs : base ≤ w.heap.size) {a a' : Option Addr} {c c' : Nat} {t u : List Int} (h : Ints S w a c t) (h' : Ints S w a' c' u) (hl : L.length + 1 ≤ 100000000) :
    ∃ v' w', RowKit.Hid ((Builtin.append_ #[150, 150] 150 #[v, .slice (some ⟨w.heap.size, 0, none⟩) 1 1]).run Tryd.prog (w.alloc (.cells #[.slice a t.length c, .slice a' u.length c'] 149)) = .ok v' w') ∧ RowKit.Hid (OwnPr S w' base v' (L ++ [(t, u)])) ∧ RowKit.Hid (Below base w w') := by
  have hw : ∀ b, S b → Off S v b := fun b hb => ⟨hb, fun e => by have := (OwnL.lt ho b e.symm).1; have := hS b hb; omega⟩
  obtain ⟨v', w', hrun, ho', hg, -⟩ := OwnL.push (P := Tryd.prog) (t := 150) (ty := 150) ho Tryd.underlying150 infoPair rfl (vs := [.slice a t.length c, .slice a' u.length c']) (x := (t, u)) ⟨[_], [_], rfl, ⟨a, c, rfl, h.weak hw⟩, ⟨a', c', rfl, h'.weak hw⟩⟩ (by omega) (by unfold big; omega) hbs
  exact ⟨v', w', Lib.hid hrun, Lib.hid ho', Lib.hid ((Below.refl base w).grown hg hbs (fun k e => (OwnL.lt ho k e).1))⟩
theorem rank_head (ρ : Int → Nat) (t : List Int) : ∀ n r, t = n :: r → n < 0 → ρ n < ρ (t.headD 0) + 1 := fun n r e _ => by rw [e]; simp
theorem last_snoc {α : Type} {L : List α} (h : 0 < L.length) : ∃ L0 e, L = L0 ++ [e] ∧ L0.length + 1 = L.length := by
  rcases List.eq_nil_or_concat L with rfl | ⟨L0, e, rfl⟩
  · simp at h
  · exact ⟨L0, e, by rw [List.concat_eq_append], by simp⟩
set_option maxRecDepth 20000 in
set_option maxHeartbeats 1000000 in
theorem solve_any {w0 wS : World} {xb mb : Nat} {a1 : Option Addr} {c1 : Nat} {s : Sg} (hok : okSign s = true) (hS : SolvW w0 wS xb mb 0 a1 c1 s (fun _ => none)) {a2 a3 : Option Addr} {c2 c3 : Nat} {a b : List Int} (ta : T0 w0 a2 c2 a) (tb : T0 w0 a3 c3 b)
    (ha : W1 s a) (hb : W1 s b) (ra : Rg a) (rb : Rg b) (la : a.length ≤ 1000) (lb : b.length ≤ 1000) :
    Calls Tryd.prog 80 #[.pointer (some ⟨xb, 0, none⟩), .slice a2 a.length c2, .slice a3 b.length c3] wS (solRet w0 xb mb a1 c1 s a b) := by
  obtain ⟨k0, hst⟩ := St.start ha hb ra rb
  have hxS := hS.lt
  have hmS := hS.map.lt
  have hz := hS.bel.size
  have hSH := Lib.hid hS
  have hstH := Lib.hid hst
  have hokH := Lib.hid hok
  have m2 := ta.le
  have m3 := tb.le
  have hlit := Lib.hid (OwnPr.lit1 (w := wS) (ta.below hS.bel) (tb.below hS.bel))
  clear ha hb ra rb hst hS hok ta tb
  go_enter Tryd.func80, Tryd.ntmps80
  go_wp2_with fail
  go_loopg [7] k0 (fun k lv wr => solRel w0 wS xb mb a1 c1 s a b k lv wr)
  case atStart => exact ⟨_, _, _, 0, _, hstH.out, by rw [free_none]; omega, hSH.out.below (below1 _ _), hlit.out, by simp⟩
  case round =>
    obtain ⟨B, θ, ρ, n, L, hst, hn, hS, ho, hsz⟩ := hrel
    obtain ⟨al, cl, hv, hsl⟩ := OwnL.sl ho
    by_cases hL : 0 < L.length
    · obtain ⟨g, cap, hvv, hg1, hg2⟩ := OwnL.form ho (by intro e; rw [e] at hL; simp at hL)
      subst hvv
      obtain ⟨L0, ⟨x, y⟩, hLe, hLl⟩ := last_snoc hL
      have hll := hst.len la lb
      obtain ⟨ax, cx, ay, cy, qx, qy, hIx, hIy⟩ := OwnPr.cell ho rfl L0.length (by omega)
      have hi : L[L0.length]'(by omega) = (x, y) := by
        have : L[L0.length]? = some (x, y) := by rw [hLe]; simp
        rw [List.getElem?_eq_getElem (by omega)] at this
        exact Option.some.inj this
      rw [hi] at qx qy hIx hIy
      simp only at qx qy hIx hIy
      have hot := OwnPr.take ho rfl (k := L0.length) (by omega)
      rw [hLe, List.take_left] at hot
      have tx := T0.back hS.bel hIx (fun b hb => hb.1)
      have ty := T0.back hS.bel hIy (fun b hb => hb.1)
      have hsg : IntKind.i64.wrap (((L.length : Nat) : Int) - 1) = (L0.length : Nat) := by rw [show (((L.length : Nat) : Int) - 1) = (L0.length : Nat) by omega]; exact IntWalk.i64_in _ (by omega)
      have hlt1 : ((L0.length : Nat) : Int) < L.length := by omega
      have hlt0 : (0 : Int) ≤ (L0.length : Nat) := by omega
      have hcap : L.length ≤ cap := by have := hsl.cap; simp at hv; omega
      subst hLe
      obtain ⟨gk', rfl⟩ := hst.pos
      obtain ⟨hx, hy, -⟩ := hst.item
      obtain ⟨px, hpx⟩ := Lkd.ex hst.slv _ x (rank_head ρ x)
      obtain ⟨py, hpy⟩ := Lkd.ex hst.slv _ y (rank_head ρ y)
      obtain ⟨ap, cp, hTp, clx⟩ := look_any (hS.below (below1 wr (.cells #[.slice ax x.length cx, .slice ay y.length cy] 149))) tx hx.1 hpx
      obtain ⟨aq, cq, hTq, cly⟩ := look_any (hS.below (below1 wr (.cells #[.slice ax x.length cx, .slice ay y.length cy] 149))) ty hy hpy
      obtain ⟨lL, hlL⟩ : ∃ l, (L0 ++ [(x, y)]).length = l := ⟨_, rfl⟩
      rw [hlL] at hsg hlt1 hcap hLl hL hll
      simp only [hlL]
      obtain ⟨W1, hW1⟩ : ∃ W1, wr.alloc (.cells #[.slice ax x.length cx, .slice ay y.length cy] 149) = W1 := ⟨_, rfl⟩
      have hb1 : Below wr.heap.size wr W1 := by rw [← hW1]; exact below1 _ _
      rw [hW1] at clx cly
      have u0 : W1.cell? ⟨wr.heap.size, 0, none⟩ = some (.slice ax x.length cx) := by rw [← hW1]; clear hW1; go_simp
      have u1 : W1.cell? ⟨wr.heap.size, 1, none⟩ = some (.slice ay y.length cy) := by rw [← hW1]; clear hW1; go_simp
      have hS1 := hS.below hb1
      have hot1 := OwnL.call hot hb1
      have hsz1 := Nat.le_trans hsz hb1.size
      have hN := hst.nxt hpx hpy
      obtain ⟨sp, sq⟩ := hst.seen hpx hpy
      have lp := sp.w.len
      have lq := sq.w.len
      obtain ⟨bp, op, rfl, hbp, qp, rp⟩ := (hTp.below hS1.bel).int 0 (by omega)
      obtain ⟨bq, oq, rfl, hbq, qq, rq⟩ := (hTq.below hS1.bel).int 0 (by omega)
      rw [Nat.add_zero] at qp qq
      have hp0 : px[0] = px.headD 0 := by cases px with | nil => simp at lp | cons _ _ => rfl
      have hq0 : py[0] = py.headD 0 := by cases py with | nil => simp at lq | cons _ _ => rfl
      rw [hp0] at qp rp
      rw [hq0] at qq rq
      have hturn : turned px py = if py.headD 0 < 0 then (py, px) else (px, py) := rfl
      obtain ⟨p0, hp0⟩ : ∃ p0, px.headD 0 = p0 := ⟨_, rfl⟩
      obtain ⟨q0, hq0⟩ : ∃ q0, py.headD 0 = q0 := ⟨_, rfl⟩
      rw [hp0] at qp rp
      rw [hq0] at qq rq hturn
      have hNH := Lib.hid hN
      have hturnH := Lib.hid hturn
      have clxH := Lib.hid clx
      have clyH := Lib.hid cly
      have hS1H := Lib.hid hS1
      have hotH := Lib.hid hot1
      have hTpH := Lib.hid hTp
      have hTqH := Lib.hid hTq
      have hnH := Lib.hid hn
      have hW1H := Lib.hid hW1
      have hp0H := Lib.hid hp0
      have hq0H := Lib.hid hq0
      have hrpH := Lib.hid rp
      have hrqH := Lib.hid rq
      clear clx cly hst hS hot ho hTp hTq hpx hpy hn tx ty hIx hIy hi hlL hx hy hv hsl hll hb1 hS1 hot1 hN sp sq hturn hp0 hq0 rp rq hW1
      go_wp2_with fail
      rw [hW1H.out]
      clear hW1H qx qy
      go_quiet ((go_at_call 98; first | (with_reducible exact quiet_drew (clxH.out _)) | (with_reducible exact quiet_drew (clyH.out _))))
      clear clxH clyH u0 u1
      obtain ⟨W2, hW2⟩ : ∃ W2, W1.drewN nq = W2 := ⟨_, rfl⟩
      have hb2 : Below W1.heap.size W1 W2 := by rw [← hW2]; exact (Drew.mk _ _).below _
      rw [hW2]
      have hS2H := Lib.hid (hS1H.out.below hb2)
      have hot2H := Lib.hid (OwnL.call hotH.out hb2)
      have qp := cell_later hb2 qp
      have qq := cell_later hb2 qq
      have hsz2 := Nat.le_trans hsz1 hb2.size
      clear hb2 hW2 hS1H hotH hsz1
      by_cases hq : q0 < 0
      · have hN2H := Lib.hid (show Nxt s a b gk' B θ ρ L0 py px q0 p0 by
          have h := hNH.out
          rw [hturnH.out, if_pos hq] at h
          simp only [hp0H.out, hq0H.out] at h
          exact h)
        have TPH := Lib.hid hTqH.out
        have TQH := Lib.hid hTpH.out
        have lP := lq
        have lQ := lp
        have rPH := Lib.hid hrqH.out
        have rQH := Lib.hid hrpH.out
        have hcase : (q0 < 0 ∧ p0 = q0) ∨ (q0 < 0 ∧ p0 ≠ q0) ∨ (0 ≤ q0 ∧ p0 = q0) ∨ (0 ≤ q0 ∧ q0 ≠ p0) := by omega
        have hcaseH := Lib.hid hcase
        clear hNH hturnH hTpH hTqH hrpH hrqH hp0H hq0H hcase
        go_wp2_with fail
        rcases hcaseH.out with ⟨hv, hw⟩ | ⟨hv, hw⟩ | ⟨hv, hw⟩ | ⟨hv, hw⟩
        · have hnx := Lib.hid (hN2H.out.same hv hw)
          have hb : (p0 == q0) = true := by simpa using hw
          have hdv : decide (q0 < 0) = true := by simpa using hv
          clear hcaseH hw hN2H
          go_quiet (fail)
          all_goals go_wp2_with fail
          go_roundg gk'
          case measure => omega
          case rel => exact ⟨B, θ, ρ, n, L0, hnx.out, hnH.out, hS2H.out.below ((Drew.mk _ _).below _), OwnL.call hot2H.out ((Drew.mk _ _).below _), hsz2⟩
        · have hbd := Lib.hid (hN2H.out.bind hv hw)
          have hoc := Lib.hid (hN2H.out.occ hv hw)
          have hBv : B q0 = none := by have := (hN2H.out.sP.v (by rw [hN2H.out.hP]; exact hv)).2.1; rwa [hN2H.out.hP] at this
          have hV24 : -24 ≤ q0 := by have := (hN2H.out.sP.v (by rw [hN2H.out.hP]; exact hv)).2.2; rwa [hN2H.out.hP] at this
          have hfr := free_bind (q := px) hv hV24 hBv
          have cc := fun W hb => comes_any (w := W) (hS2H.out.below hb) hN2H.out.slv hN2H.out.rg hv hBv TQH.out hN2H.out.sQ.r
          have ccH := Lib.hid cc
          have hBvH := Lib.hid hBv
          have hN4H := Lib.hid hN2H.out.sQ.w
          have hb : (p0 == q0) = false := by simpa using hw
          have hdv : decide (q0 < 0) = true := by simpa using hv
          clear hcaseH hw hN2H cc hBv
          go_quiet (fail)
          all_goals go_wp2_with fail
          obtain ⟨W3, hW3⟩ : ∃ W3, W2.drewN nq = W3 := ⟨_, rfl⟩
          have hb3 : Below W2.heap.size W2 W3 := by rw [← hW3]; exact (Drew.mk _ _).below _
          rw [hW3]
          (with_reducible refine (ccH.out W3 hb3).mono ?_)
          rintro e w4 ⟨r, rfl, hr, hb4⟩
          have hb24 := bcall hb3 hb4
          have hS4H := Lib.hid (hS2H.out.below hb24)
          have hrH := Lib.hid hr
          cases r with
          | true =>
            clear hr hb3 hb4 hW3 hb24
            go_wp2_with fail
            go_ret
            exact ⟨false, rfl, hS4H.out.bel, fun _ => hoc.out (hrH.out.1 (by simp)), fun h => by cases h⟩
          | false =>
            have hot4H := Lib.hid (OwnL.call hot2H.out hb24)
            have qp4 := cell_later hb24 qq
            have k1 := hS4H.out.k1
            have hsz4 := Nat.le_trans hsz2 hb24.size
            clear hr hb3 hb4 hW3 hb24
            go_wp2_with fail
            have hnoc : q0 ∉ ap θ px := fun h => by have := hrH.out.2 h; cases this
            obtain ⟨θ', ρ', hst'⟩ := hbd.out hnoc
            have hst'H := Lib.hid hst'
            obtain ⟨w5, n5, hup, hn5, hD5, hg5, -⟩ := (hS4H.out.map.below (w' := w4.drew) (Below.drew (.refl w4.heap.size _)) hS4H.out.map.lt).store (by have := hnH.out; unfold maxLen; omega) q0 rPH.out TQH.out
            have hup2 := hup.out
            clear hst' hnoc
            have hlPi : 0 < py.length := lP
            have hxw := hS4H.out.lt
            have hbw : bq < w4.drew.heap.size := World.block_lt_of_cell? _ _ qp4
            have hBm : bq ≠ mb := by have := hS4H.out.bm; omega
            refine wp_region_held_drew (S := (fun w' => w'.cell? ⟨xb, 1, none⟩ = some (.map (some mb)) ∧ w'.cell? ⟨bq, oq, none⟩ = some (.int .i64 q0))) (by kernel_rfl) ⟨k1, qp4⟩ (fun hS => ?_)
            refine region_take 0 (some 116) (v := ?_) rfl rfl (by kernel_rfl) (by kernel_rfl) (by kernel_rfl) (fun _ _ _ h => h) rfl ?_ hS ?_
            rotate_left
            · (intro w9 hS9; go_simp; try (with_reducible rfl))
            simp only [Act.put, List.setIfInBounds_toArray, List.set_cons_zero, List.set_cons_succ]
            refine region_take 1 (some 117) (v := ?_) rfl rfl (by kernel_rfl) (by kernel_rfl) (by kernel_rfl) (fun _ _ _ h => h) rfl ?_ hS ?_
            rotate_left
            · (intro w9 hS9; go_simp; try (with_reducible rfl))
            simp only [Act.put, List.setIfInBounds_toArray, List.set_cons_zero, List.set_cons_succ]
            refine region_take 2 (some 118) (v := ?_) rfl rfl (by kernel_rfl) (by kernel_rfl) (by kernel_rfl) (fun _ _ _ h => h) rfl ?_ hS ?_
            rotate_left
            · (intro w9 hS9; go_simp; try (with_reducible rfl))
            simp only [Act.put, List.setIfInBounds_toArray, List.set_cons_zero, List.set_cons_succ]
            refine region_take 3 (some 119) (v := ?_) rfl rfl (by kernel_rfl) (by kernel_rfl) (by kernel_rfl) (fun _ _ _ h => h) rfl ?_ hS ?_
            rotate_left
            · (intro w9 hS9; go_simp; try (with_reducible rfl))
            simp only [Act.put, List.setIfInBounds_toArray, List.set_cons_zero, List.set_cons_succ]
            refine region_take 4 (some 120) (v := ?_) rfl rfl (by kernel_rfl) (by kernel_rfl) (by kernel_rfl) (fun _ _ _ h => h) rfl ?_ hS ?_
            rotate_left
            · (intro w9 hS9; go_simp; try (with_reducible rfl))
            simp only [Act.put, List.setIfInBounds_toArray, List.set_cons_zero, List.set_cons_succ]
            refine region_take 5 (some 121) (v := ?_) rfl rfl (by kernel_rfl) (by kernel_rfl) (by kernel_rfl) (fun _ _ _ h => h) rfl ?_ hS ?_
            rotate_left
            · (intro w9 hS9; go_simp; try (with_reducible rfl))
            simp only [Act.put, List.setIfInBounds_toArray, List.set_cons_zero, List.set_cons_succ]
            refine region_take 6 (some 122) (v := ?_) rfl rfl (by kernel_rfl) (by kernel_rfl) (by kernel_rfl) (fun _ _ _ h => h) rfl ?_ hS ?_
            rotate_left
            · (intro w9 hS9; go_simp; try (with_reducible rfl))
            simp only [Act.put, List.setIfInBounds_toArray, List.set_cons_zero, List.set_cons_succ]
            refine region_take 7 (some 123) (v := ?_) rfl rfl (by kernel_rfl) (by kernel_rfl) (by kernel_rfl) (fun _ _ _ h => h) rfl ?_ hS ?_
            rotate_left
            · (intro w9 hS9; go_simp; try (with_reducible rfl))
            simp only [Act.put, List.setIfInBounds_toArray, List.set_cons_zero, List.set_cons_succ]
            refine region_call 8 rfl (by kernel_rfl) (fun K hK => ?_)
            go_simp
            refine hK.out _ _ ⟨(World.cell?_of_block (hg5.out.block xb hxw (fun e => hS4H.out.ne (by injection e)))).trans k1, (World.cell?_of_block (hg5.out.block bq hbw (fun e => hBm (by injection e)))).trans qp4⟩ ?_
            clear hS hK
            intro hS
            refine wpAnyH_done (by kernel_rfl) ?_ _
            have hrel : solRel w0 wS xb mb a1 c1 s a b gk' (.slice (some ⟨g, 0, none⟩) L0.length cap) w5 :=
              ⟨_, θ', ρ', n5, L0, hst'H.out, by have := hnH.out; have := hn5.out; omega, (hS4H.out.below (Below.drew (.refl w4.heap.size _))).stored hg5.out hD5.out hN4H.out,
                OwnL.grown (OwnL.call hot4H.out (Below.drew (.refl w4.heap.size _))) hg5.out (fun j e e' => by simp [Value.ownBlock] at e; injection e' with e'; omega) (fun j hj _ e => by have := hS4H.out.bm; have hj' : j < w0.heap.size := hj; injection e with e; omega), Nat.le_trans hsz4 hg5.out.size⟩
            have hrelH := Lib.hid hrel
            clear hrel hS hup2
            go_wp2_with fail
            go_roundg gk'
            case measure => omega
            case rel => exact hrelH.out
        · omega
        · have hnx := Lib.hid (hN2H.out.clash hv hw)
          have hb : (q0 != p0) = true := by simpa using hw
          have hdv : decide (q0 < 0) = false := by simp; omega
          clear hcaseH hw hN2H
          go_quiet (fail)
          all_goals go_wp2_with fail
          all_goals go_quiet (fail)
          all_goals go_wp2_with fail
          all_goals go_ret
          all_goals exact ⟨false, rfl, bcall hS2H.out.bel ((Drew.mk2 _ _ _).below _), fun _ => hnx.out, fun h => by cases h⟩
      · have hN2H := Lib.hid (show Nxt s a b gk' B θ ρ L0 px py p0 q0 by
          have h := hNH.out
          rw [hturnH.out, if_neg hq] at h
          simp only [hp0H.out, hq0H.out] at h
          exact h)
        have TPH := Lib.hid hTpH.out
        have TQH := Lib.hid hTqH.out
        have lP := lp
        have lQ := lq
        have rPH := Lib.hid hrpH.out
        have rQH := Lib.hid hrqH.out
        have hcase : (p0 < 0 ∧ q0 = p0) ∨ (p0 < 0 ∧ q0 ≠ p0) ∨ (0 ≤ p0 ∧ q0 = p0) ∨ (0 ≤ p0 ∧ p0 ≠ q0) := by omega
        have hcaseH := Lib.hid hcase
        clear hNH hturnH hTpH hTqH hrpH hrqH hp0H hq0H hcase
        go_wp2_with fail
        rcases hcaseH.out with ⟨hv, hw⟩ | ⟨hv, hw⟩ | ⟨hv, hw⟩ | ⟨hv, hw⟩
        · have hnx := Lib.hid (hN2H.out.same hv hw)
          have hb : (q0 == p0) = true := by simpa using hw
          have hdv : decide (p0 < 0) = true := by simpa using hv
          clear hcaseH hw hN2H
          go_quiet (fail)
          all_goals go_wp2_with fail
          go_roundg gk'
          case measure => omega
          case rel => exact ⟨B, θ, ρ, n, L0, hnx.out, hnH.out, hS2H.out.below ((Drew.mk _ _).below _), OwnL.call hot2H.out ((Drew.mk _ _).below _), hsz2⟩
        · have hbd := Lib.hid (hN2H.out.bind hv hw)
          have hoc := Lib.hid (hN2H.out.occ hv hw)
          have hBv : B p0 = none := by have := (hN2H.out.sP.v (by rw [hN2H.out.hP]; exact hv)).2.1; rwa [hN2H.out.hP] at this
          have hV24 : -24 ≤ p0 := by have := (hN2H.out.sP.v (by rw [hN2H.out.hP]; exact hv)).2.2; rwa [hN2H.out.hP] at this
          have hfr := free_bind (q := py) hv hV24 hBv
          have cc := fun W hb => comes_any (w := W) (hS2H.out.below hb) hN2H.out.slv hN2H.out.rg hv hBv TQH.out hN2H.out.sQ.r
          have ccH := Lib.hid cc
          have hBvH := Lib.hid hBv
          have hN4H := Lib.hid hN2H.out.sQ.w
          have hb : (q0 == p0) = false := by simpa using hw
          have hdv : decide (p0 < 0) = true := by simpa using hv
          clear hcaseH hw hN2H cc hBv
          go_quiet (fail)
          all_goals go_wp2_with fail
          obtain ⟨W3, hW3⟩ : ∃ W3, W2.drewN nq = W3 := ⟨_, rfl⟩
          have hb3 : Below W2.heap.size W2 W3 := by rw [← hW3]; exact (Drew.mk _ _).below _
          rw [hW3]
          (with_reducible refine (ccH.out W3 hb3).mono ?_)
          rintro e w4 ⟨r, rfl, hr, hb4⟩
          have hb24 := bcall hb3 hb4
          have hS4H := Lib.hid (hS2H.out.below hb24)
          have hrH := Lib.hid hr
          cases r with
          | true =>
            clear hr hb3 hb4 hW3 hb24
            go_wp2_with fail
            go_ret
            exact ⟨false, rfl, hS4H.out.bel, fun _ => hoc.out (hrH.out.1 (by simp)), fun h => by cases h⟩
          | false =>
            have hot4H := Lib.hid (OwnL.call hot2H.out hb24)
            have QP4 := cell_later hb24 qp
            have k1 := hS4H.out.k1
            have hsz4 := Nat.le_trans hsz2 hb24.size
            clear hr hb3 hb4 hW3 hb24
            go_wp2_with fail
            have hnoc : p0 ∉ ap θ py := fun h => by have := hrH.out.2 h; cases this
            obtain ⟨θ', ρ', hst'⟩ := hbd.out hnoc
            have hst'H := Lib.hid hst'
            obtain ⟨w5, n5, hup, hn5, hD5, hg5, -⟩ := (hS4H.out.map.below (w' := w4.drew) (Below.drew (.refl w4.heap.size _)) hS4H.out.map.lt).store (by have := hnH.out; unfold maxLen; omega) p0 rPH.out TQH.out
            have hup2 := hup.out
            clear hst' hnoc
            have hlPi : 0 < px.length := lP
            have hxw := hS4H.out.lt
            have hbw : bp < w4.drew.heap.size := World.block_lt_of_cell? _ _ QP4
            have hBm : bp ≠ mb := by have := hS4H.out.bm; omega
            refine wp_region_held_drew (S := (fun w' => w'.cell? ⟨xb, 1, none⟩ = some (.map (some mb)) ∧ w'.cell? ⟨bp, op, none⟩ = some (.int .i64 p0))) (by kernel_rfl) ⟨k1, QP4⟩ (fun hS => ?_)
            refine region_take 0 (some 116) (v := ?_) rfl rfl (by kernel_rfl) (by kernel_rfl) (by kernel_rfl) (fun _ _ _ h => h) rfl ?_ hS ?_
            rotate_left
            · (intro w9 hS9; go_simp; try (with_reducible rfl))
            simp only [Act.put, List.setIfInBounds_toArray, List.set_cons_zero, List.set_cons_succ]
            refine region_take 1 (some 117) (v := ?_) rfl rfl (by kernel_rfl) (by kernel_rfl) (by kernel_rfl) (fun _ _ _ h => h) rfl ?_ hS ?_
            rotate_left
            · (intro w9 hS9; go_simp; try (with_reducible rfl))
            simp only [Act.put, List.setIfInBounds_toArray, List.set_cons_zero, List.set_cons_succ]
            refine region_take 2 (some 118) (v := ?_) rfl rfl (by kernel_rfl) (by kernel_rfl) (by kernel_rfl) (fun _ _ _ h => h) rfl ?_ hS ?_
            rotate_left
            · (intro w9 hS9; go_simp; try (with_reducible rfl))
            simp only [Act.put, List.setIfInBounds_toArray, List.set_cons_zero, List.set_cons_succ]
            refine region_take 3 (some 119) (v := ?_) rfl rfl (by kernel_rfl) (by kernel_rfl) (by kernel_rfl) (fun _ _ _ h => h) rfl ?_ hS ?_
            rotate_left
            · (intro w9 hS9; go_simp; try (with_reducible rfl))
            simp only [Act.put, List.setIfInBounds_toArray, List.set_cons_zero, List.set_cons_succ]
            refine region_take 4 (some 120) (v := ?_) rfl rfl (by kernel_rfl) (by kernel_rfl) (by kernel_rfl) (fun _ _ _ h => h) rfl ?_ hS ?_
            rotate_left
            · (intro w9 hS9; go_simp; try (with_reducible rfl))
            simp only [Act.put, List.setIfInBounds_toArray, List.set_cons_zero, List.set_cons_succ]
            refine region_take 5 (some 121) (v := ?_) rfl rfl (by kernel_rfl) (by kernel_rfl) (by kernel_rfl) (fun _ _ _ h => h) rfl ?_ hS ?_
            rotate_left
            · (intro w9 hS9; go_simp; try (with_reducible rfl))
            simp only [Act.put, List.setIfInBounds_toArray, List.set_cons_zero, List.set_cons_succ]
            refine region_take 6 (some 122) (v := ?_) rfl rfl (by kernel_rfl) (by kernel_rfl) (by kernel_rfl) (fun _ _ _ h => h) rfl ?_ hS ?_
            rotate_left
            · (intro w9 hS9; go_simp; try (with_reducible rfl))
            simp only [Act.put, List.setIfInBounds_toArray, List.set_cons_zero, List.set_cons_succ]
            refine region_take 7 (some 123) (v := ?_) rfl rfl (by kernel_rfl) (by kernel_rfl) (by kernel_rfl) (fun _ _ _ h => h) rfl ?_ hS ?_
            rotate_left
            · (intro w9 hS9; go_simp; try (with_reducible rfl))
            simp only [Act.put, List.setIfInBounds_toArray, List.set_cons_zero, List.set_cons_succ]
            refine region_call 8 rfl (by kernel_rfl) (fun K hK => ?_)
            go_simp
            refine hK.out _ _ ⟨(World.cell?_of_block (hg5.out.block xb hxw (fun e => hS4H.out.ne (by injection e)))).trans k1, (World.cell?_of_block (hg5.out.block bp hbw (fun e => hBm (by injection e)))).trans QP4⟩ ?_
            clear hS hK
            intro hS
            refine wpAnyH_done (by kernel_rfl) ?_ _
            have hrel : solRel w0 wS xb mb a1 c1 s a b gk' (.slice (some ⟨g, 0, none⟩) L0.length cap) w5 :=
              ⟨_, θ', ρ', n5, L0, hst'H.out, by have := hnH.out; have := hn5.out; omega, (hS4H.out.below (Below.drew (.refl w4.heap.size _))).stored hg5.out hD5.out hN4H.out,
                OwnL.grown (OwnL.call hot4H.out (Below.drew (.refl w4.heap.size _))) hg5.out (fun j e e' => by simp [Value.ownBlock] at e; injection e' with e'; omega) (fun j hj _ e => by have := hS4H.out.bm; have hj' : j < w0.heap.size := hj; injection e with e; omega), Nat.le_trans hsz4 hg5.out.size⟩
            have hrelH := Lib.hid hrel
            clear hrel hS hup2
            go_wp2_with fail
            go_roundg gk'
            case measure => omega
            case rel => exact hrelH.out
        · have hnx := hN2H.out.args hv hw
          have hP := hN2H.out.hP
          have hQ := hN2H.out.hQ
          have wP := hN2H.out.sP.w
          have wQ := hN2H.out.sQ.w
          rw [hw] at hQ
          obtain ⟨hlP, hms0, hatP⟩ := args_all wP hP
          obtain ⟨hlQ, -, hatQ⟩ := args_all wQ hQ
          obtain ⟨m0, hm0⟩ := Int.eq_ofNat_of_zero_le hv
          have hms : m0 < s.length := by omega
          obtain ⟨bs, os, has, -, -, qs, -, -⟩ := (hS2H.out.sg.below hS2H.out.bel).sym m0 hms
          have har := okSign_ars hokH.out m0 hms
          rw [arW_sym hms har.1] at qs
          have har3 := har.2
          rw [arW_sym hms har.1] at har3
          rw [hm0] at hlP hlQ
          obtain ⟨N, hN⟩ : ∃ N, arW s (m0 : Int) = N := ⟨_, rfl⟩
          rw [hN] at qs har3 hlP hlQ
          have hnxH := Lib.hid (hnx (by omega))
          have hatPH := Lib.hid hatP
          have hatQH := Lib.hid hatQ
          have hlPH := Lib.hid hlP
          have hlQH := Lib.hid hlQ
          have hb : (p0 != q0) = false := by simpa using hw.symm
          have hdv : decide (p0 < 0) = false := by simp; omega
          have hdv2 : ¬ p0 < 0 := by omega
          have k0 := hS2H.out.k0
          rw [has] at k0
          have hasH := Lib.hid has
          have hcpP : px.length ≤ cp := TPH.out.cap
          have hcpQ : py.length ≤ cq := TQH.out.cap
          subst hm0
          clear hcaseH hw hN2H hnx hP hQ wP wQ hms0 har hatP hatQ hlP hlQ hN has
          go_quiet (fail)
          all_goals go_wp2_with fail
          go_quiet (fail)
          all_goals go_wp2_with fail
          go_quiet (fail)
          all_goals go_wp2_with fail
          rename_i nq1 nq2
          obtain ⟨W3, hW3⟩ : ∃ W3, ((W2.drewN nq1).drewN nq2).drewN nq = W3 := ⟨_, rfl⟩
          have hb3 : Below W2.heap.size W2 W3 := by rw [← hW3]; exact (drew_more (Drew.mk2 W2 nq1 nq2) nq).below _
          rw [hW3]
          have hS3H := Lib.hid (hS2H.out.below hb3)
          have ho3H := Lib.hid (OwnL.call hot2H.out hb3)
          have hsz3 := Nat.le_trans hsz2 hb3.size
          have hLn : L0.length + N ≤ 10000000 := by
            have h := hnxH.out.len la lb
            rw [List.length_append, List.length_zip, hlPH.out, hlQH.out, Nat.min_self] at h; exact h
          clear hb3 hW3 hS2H hot2H hsz2 qp qq qs k0
          go_loopw [7, 11, 12, 58] (fun lv iv jv cv wr => inRel w0 wS xb mb n a1 c1 s B L0 px py N lv iv jv cv wr) (fun _ _ _ cv _ => N - (intOf cv).toNat)
          case atStart => exact ⟨0, rfl, Nat.zero_le _, rfl, rfl, by rw [List.take_zero, List.append_nil]; exact ho3H.out, hS3H.out, hsz3⟩
          case round =>
            obtain ⟨m, rfl, hm, rfl, rfl, hor, hSr, hszr⟩ := hrel
            by_cases hmN : m < N
            · obtain ⟨gP1, gP2, gP3, gP4⟩ := hatPH.out m (by rw [hlPH.out]; exact hmN)
              obtain ⟨gQ1, gQ2, gQ3, gQ4⟩ := hatQH.out m (by rw [hlQH.out]; exact hmN)
              have hzl : ((argsW s px).zip (argsW s py)).length = N := by rw [List.length_zip, hlPH.out, hlQH.out, Nat.min_self]
              have htk : ((argsW s px).zip (argsW s py)).take (m + 1) = ((argsW s px).zip (argsW s py)).take m ++ [((argsW s px)[m]'(by rw [hlPH.out]; exact hmN), (argsW s py)[m]'(by rw [hlQH.out]; exact hmN))] := by
                rw [List.take_succ_eq_append_getElem (by rw [hzl]; exact hmN), List.getElem_zip]
              have cafP := fun W (hb : Below wr.heap.size wr W) => lafter_any a1 (some ⟨bp, op, none⟩) c1 cp s px (apos s px m) _ W (hSr.sg.below (bcall hSr.bel hb)) (TPH.out.below (bcall hSr.bel hb)) hokH.out gP1
              have cafQ := fun W (hb : Below wr.heap.size wr W) => lafter_any a1 (some ⟨bq, oq, none⟩) c1 cq s py (apos s py m) _ W (hSr.sg.below (bcall hSr.bel hb)) (TQH.out.below (bcall hSr.bel hb)) hokH.out gQ1
              rw [drop_len gP3] at cafP
              rw [drop_len gQ3] at cafQ
              obtain ⟨i, hi⟩ : ∃ i, apos s px m = i := ⟨_, rfl⟩
              obtain ⟨i', hi'⟩ : ∃ i, apos s px (m + 1) = i := ⟨_, rfl⟩
              obtain ⟨j, hj⟩ : ∃ i, apos s py m = i := ⟨_, rfl⟩
              obtain ⟨j', hj'⟩ : ∃ i, apos s py (m + 1) = i := ⟨_, rfl⟩
              rw [hi, hi'] at gP2 gP4
              rw [hj, hj'] at gQ2 gQ4
              rw [hi'] at gP3
              rw [hj'] at gQ3
              rw [hi, hi'] at cafP
              rw [hj, hj'] at cafQ
              have pP := Ints.part TPH.out i i' (i' - i) (by omega) gP3 (Nat.le_refl _) (by omega)
              have pQ := Ints.part TQH.out j j' (j' - j) (by omega) gQ3 (Nat.le_refl _) (by omega)
              have eP : ((px.drop i).take (i' - i)).length = i' - i := by simp; omega
              have eQ : ((py.drop j).take (j' - j)).length = j' - j := by simp; omega
              rw [gP4] at pP eP
              rw [gQ4] at pQ eQ
              rw [hi, hj]
              have k0 := hSr.k0
              have hpush := fun W (hb : Below wr.heap.size wr W) => Pr_push (OwnL.call hor hb) (fun b hb' => Nat.lt_of_lt_of_le hb' hz) (Nat.le_trans hszr hb.size) (pP.below (bcall hSr.bel hb)) (pQ.below (bcall hSr.bel hb)) (by rw [List.length_append, List.length_take, hzl]; omega)
              rw [eP, eQ] at hpush
              have hpushH := Lib.hid hpush
              have htkH := Lib.hid htk
              have hi'H := Lib.hid hi'
              have hj'H := Lib.hid hj'
              have hSrH := Lib.hid hSr
              have cafPH := Lib.hid cafP
              have cafQH := Lib.hid cafQ
              have hni : ¬ i' = i := by omega
              have hnj : ¬ j' = j := by omega
              have hii : i ≤ i' := by omega
              have hjj : j ≤ j' := by omega
              have hic : i' ≤ cp := by omega
              have hjc : j' ≤ cq := by omega
              clear hpush htk hi hi' hj hj' hSr cafP cafQ pP pQ eP eQ gP1 gP4 gQ1 gQ4 hor hzl
              go_wp2_with fail
              refine wp_region_held_drew (S := (fun w' => w'.cell? ⟨xb, 0, none⟩ = some (.slice a1 s.length c1) ∧ Below wr.heap.size wr w')) (by kernel_rfl) ⟨k0, Below.drew (.refl _ _)⟩ (fun hS => ?_)
              refine region_take 0 (some 60) (v := ?_) rfl rfl (by kernel_rfl) (by kernel_rfl) (by kernel_rfl) (fun _ _ _ h => h) rfl ?_ hS ?_
              rotate_left
              · (intro w9 hS9; go_simp; try (with_reducible rfl))
              simp only [Act.put, List.setIfInBounds_toArray, List.set_cons_zero, List.set_cons_succ]
              refine region_take 1 (some 61) (v := ?_) rfl rfl (by kernel_rfl) (by kernel_rfl) (by kernel_rfl) (fun _ _ _ h => h) rfl ?_ hS ?_
              rotate_left
              · (intro w9 hS9; go_simp; try (with_reducible rfl))
              simp only [Act.put, List.setIfInBounds_toArray, List.set_cons_zero, List.set_cons_succ]
              refine region_take 2 (some 62) (v := ?_) rfl rfl (by kernel_rfl) (by kernel_rfl) (by kernel_rfl) (fun _ _ _ h => h) rfl ?_ hS ?_
              rotate_left
              · (intro w9 hS9; go_simp; try (with_reducible rfl))
              simp only [Act.put, List.setIfInBounds_toArray, List.set_cons_zero, List.set_cons_succ]
              refine region_take 3 (some 63) (v := ?_) rfl rfl (by kernel_rfl) (by kernel_rfl) (by kernel_rfl) (fun _ _ _ h => h) rfl ?_ hS ?_
              rotate_left
              · (intro w9 hS9; go_simp; try (with_reducible rfl))
              simp only [Act.put, List.setIfInBounds_toArray, List.set_cons_zero, List.set_cons_succ]
              refine region_take 4 (some 64) (v := ?_) rfl rfl (by kernel_rfl) (by kernel_rfl) (by kernel_rfl) (fun _ _ _ h => h) rfl ?_ hS ?_
              rotate_left
              · (intro w9 hS9; go_simp; try (with_reducible rfl))
              simp only [Act.put, List.setIfInBounds_toArray, List.set_cons_zero, List.set_cons_succ]
              refine region_take 5 (some 65) (v := ?_) rfl rfl (by kernel_rfl) (by kernel_rfl) (by kernel_rfl) (fun _ _ _ h => h) rfl ?_ hS ?_
              rotate_left
              · (intro w9 hS9; go_simp; try (with_reducible rfl))
              simp only [Act.put, List.setIfInBounds_toArray, List.set_cons_zero, List.set_cons_succ]
              refine region_take 7 (some 67) (v := ?_) rfl rfl (by kernel_rfl) (by kernel_rfl) (by kernel_rfl) (fun _ _ _ h => h) rfl ?_ hS ?_
              rotate_left
              · (intro w9 hS9; go_simp; try (with_reducible rfl))
              simp only [Act.put, List.setIfInBounds_toArray, List.set_cons_zero, List.set_cons_succ]
              refine region_take 8 (some 68) (v := ?_) rfl rfl (by kernel_rfl) (by kernel_rfl) (by kernel_rfl) (fun _ _ _ h => h) rfl ?_ hS ?_
              rotate_left
              · (intro w9 hS9; go_simp; try (with_reducible rfl))
              simp only [Act.put, List.setIfInBounds_toArray, List.set_cons_zero, List.set_cons_succ]
              refine region_take 9 (some 69) (v := ?_) rfl rfl (by kernel_rfl) (by kernel_rfl) (by kernel_rfl) (fun _ _ _ h => h) rfl ?_ hS ?_
              rotate_left
              · (intro w9 hS9; go_simp; try (with_reducible rfl))
              simp only [Act.put, List.setIfInBounds_toArray, List.set_cons_zero, List.set_cons_succ]
              refine region_take 10 (some 70) (v := ?_) rfl rfl (by kernel_rfl) (by kernel_rfl) (by kernel_rfl) (fun _ _ _ h => h) rfl ?_ hS ?_
              rotate_left
              · (intro w9 hS9; go_simp; try (with_reducible rfl))
              simp only [Act.put, List.setIfInBounds_toArray, List.set_cons_zero, List.set_cons_succ]
              refine region_take 11 (some 71) (v := ?_) rfl rfl (by kernel_rfl) (by kernel_rfl) (by kernel_rfl) (fun _ _ _ h => h) rfl ?_ hS ?_
              rotate_left
              · (intro w9 hS9; go_simp; try (with_reducible rfl))
              simp only [Act.put, List.setIfInBounds_toArray, List.set_cons_zero, List.set_cons_succ]
              refine region_take 12 (some 72) (v := ?_) rfl rfl (by kernel_rfl) (by kernel_rfl) (by kernel_rfl) (fun _ _ _ h => h) rfl ?_ hS ?_
              rotate_left
              · (intro w9 hS9; go_simp; try (with_reducible rfl))
              simp only [Act.put, List.setIfInBounds_toArray, List.set_cons_zero, List.set_cons_succ]
              refine region_call 6 rfl (by kernel_rfl) (fun K hK => ?_)
              go_simp
              (with_reducible refine (cafPH.out _ hS.2).mono ?_)
              rintro e w8 ⟨rfl, hb8⟩
              refine hK.out _ _ ⟨cell_later hb8 hS.1, bcall hS.2 hb8⟩ ?_
              clear hS hK
              intro hS
              refine region_call 13 rfl (by kernel_rfl) (fun K hK => ?_)
              go_simp
              (with_reducible refine (cafQH.out _ hS.2).mono ?_)
              rintro e w8 ⟨rfl, hb8⟩
              refine hK.out _ _ ⟨cell_later hb8 hS.1, bcall hS.2 hb8⟩ ?_
              clear hS hK
              intro hS
              refine region_take 14 (some 13) (v := ?_) rfl rfl (by kernel_rfl) (by kernel_rfl) (by kernel_rfl) (fun _ _ _ h => h) rfl ?_ hS ?_
              rotate_left
              · (intro w9 hS9; go_simp; try (with_reducible rfl))
              simp only [Act.put, List.setIfInBounds_toArray, List.set_cons_zero, List.set_cons_succ]
              refine region_take 15 (some 14) (v := ?_) rfl rfl (by kernel_rfl) (by kernel_rfl) (by kernel_rfl) (fun _ _ _ h => h) rfl ?_ hS ?_
              rotate_left
              · (intro w9 hS9; go_simp; try (with_reducible rfl))
              simp only [Act.put, List.setIfInBounds_toArray, List.set_cons_zero, List.set_cons_succ]
              refine wpAnyH_done (by kernel_rfl) ?_ _
              obtain ⟨-, hb4⟩ := hS
              obtain ⟨v5, w5, hup, ho5, hb5⟩ := hpushH.out w8.drew hb4.drew
              have hup2 := hup.out
              have hS5H := Lib.hid ((hSrH.out.below hb4.drew).keep hb5.out hxS hmS hz)
              have hsz5 := Nat.le_trans (Nat.le_trans hszr hb4.drew.size) hb5.out.size
              clear hb4
              go_wp2_with fail
              refine wp_region_held_drew (S := (fun _ => True)) (by kernel_rfl) trivial (fun hS => ?_)
              refine region_take 0 (some 74) (v := ?_) rfl rfl (by kernel_rfl) (by kernel_rfl) (by kernel_rfl) (fun _ _ _ h => h) rfl ?_ hS ?_
              rotate_left
              · (intro w9 hS9; go_simp; try (with_reducible rfl))
              simp only [Act.put, List.setIfInBounds_toArray, List.set_cons_zero, List.set_cons_succ]
              refine region_take 1 (some 75) (v := ?_) rfl rfl (by kernel_rfl) (by kernel_rfl) (by kernel_rfl) (fun _ _ _ h => h) rfl ?_ hS ?_
              rotate_left
              · (intro w9 hS9; go_simp; try (with_reducible rfl))
              simp only [Act.put, List.setIfInBounds_toArray, List.set_cons_zero, List.set_cons_succ]
              refine region_take 2 (some 76) (v := ?_) rfl rfl (by kernel_rfl) (by kernel_rfl) (by kernel_rfl) (fun _ _ _ h => h) rfl ?_ hS ?_
              rotate_left
              · (intro w9 hS9; go_simp; try (with_reducible rfl))
              simp only [Act.put, List.setIfInBounds_toArray, List.set_cons_zero, List.set_cons_succ]
              refine region_take 3 (some 77) (v := ?_) rfl rfl (by kernel_rfl) (by kernel_rfl) (by kernel_rfl) (fun _ _ _ h => h) rfl ?_ hS ?_
              rotate_left
              · (intro w9 hS9; go_simp; try (with_reducible rfl))
              simp only [Act.put, List.setIfInBounds_toArray, List.set_cons_zero, List.set_cons_succ]
              refine region_take 4 (some 78) (v := ?_) rfl rfl (by kernel_rfl) (by kernel_rfl) (by kernel_rfl) (fun _ _ _ h => h) rfl ?_ hS ?_
              rotate_left
              · (intro w9 hS9; go_simp; try (with_reducible rfl))
              simp only [Act.put, List.setIfInBounds_toArray, List.set_cons_zero, List.set_cons_succ]
              refine region_take 5 (some 79) (v := ?_) rfl rfl (by kernel_rfl) (by kernel_rfl) (by kernel_rfl) (fun _ _ _ h => h) rfl ?_ hS ?_
              rotate_left
              · (intro w9 hS9; go_simp; try (with_reducible rfl))
              simp only [Act.put, List.setIfInBounds_toArray, List.set_cons_zero, List.set_cons_succ]
              refine region_take 6 (some 80) (v := ?_) rfl rfl (by kernel_rfl) (by kernel_rfl) (by kernel_rfl) (fun _ _ _ h => h) rfl ?_ hS ?_
              rotate_left
              · (intro w9 hS9; go_simp; try (with_reducible rfl))
              simp only [Act.put, List.setIfInBounds_toArray, List.set_cons_zero, List.set_cons_succ]
              refine region_take 7 (some 81) (v := ?_) rfl rfl (by kernel_rfl) (by kernel_rfl) (by kernel_rfl) (fun _ _ _ h => h) rfl ?_ hS ?_
              rotate_left
              · (intro w9 hS9; go_simp; try (with_reducible rfl))
              simp only [Act.put, List.setIfInBounds_toArray, List.set_cons_zero, List.set_cons_succ]
              refine region_take 8 (some 82) (v := ?_) rfl rfl (by kernel_rfl) (by kernel_rfl) (by kernel_rfl) (fun _ _ _ h => h) rfl ?_ hS ?_
              rotate_left
              · (intro w9 hS9; go_simp; try (with_reducible rfl))
              simp only [Act.put, List.setIfInBounds_toArray, List.set_cons_zero, List.set_cons_succ]
              refine region_take 9 (some 83) (v := ?_) rfl rfl (by kernel_rfl) (by kernel_rfl) (by kernel_rfl) (fun _ _ _ h => h) rfl ?_ hS ?_
              rotate_left
              · (intro w9 hS9; go_simp; try (with_reducible rfl))
              simp only [Act.put, List.setIfInBounds_toArray, List.set_cons_zero, List.set_cons_succ]
              refine region_take 10 (some 84) (v := ?_) rfl rfl (by kernel_rfl) (by kernel_rfl) (by kernel_rfl) (fun _ _ _ h => h) rfl ?_ hS ?_
              rotate_left
              · (intro w9 hS9; go_simp; try (with_reducible rfl))
              simp only [Act.put, List.setIfInBounds_toArray, List.set_cons_zero, List.set_cons_succ]
              refine region_take 11 (some 85) (v := ?_) rfl rfl (by kernel_rfl) (by kernel_rfl) (by kernel_rfl) (fun _ _ _ h => h) rfl ?_ hS ?_
              rotate_left
              · (intro w9 hS9; go_simp; try (with_reducible rfl))
              simp only [Act.put, List.setIfInBounds_toArray, List.set_cons_zero, List.set_cons_succ]
              refine region_call 12 rfl (by kernel_rfl) (fun K hK => ?_)
              go_simp
              refine hK.out _ _ trivial ?_
              clear hS hK
              intro hS
              refine region_call 13 rfl (by kernel_rfl) (fun K hK => ?_)
              rw [if_pos (by kernel_rfl)]
              refine oper_append_run (vs := u7) (vx := .slice (some ⟨w8.heap.size, 0, none⟩) 1 1) (v' := v5) (w' := w5) (.tmp 74) (.tmp 86) 150 rfl rfl rfl hup2 ?_
              refine hK.out _ _ trivial ?_
              clear hS hK
              intro hS
              refine region_take 14 (some 7) (v := ?_) rfl rfl (by kernel_rfl) (by kernel_rfl) (by kernel_rfl) (fun _ _ _ h => h) rfl ?_ hS ?_
              rotate_left
              · (intro w9 hS9; go_simp; try (with_reducible rfl))
              simp only [Act.put, List.setIfInBounds_toArray, List.set_cons_zero, List.set_cons_succ]
              refine wpAnyH_done (by kernel_rfl) ?_ _
              clear hup2 hS
              go_wp2_with fail
              go_roundw
              case rel => exact ⟨m + 1, by go_num, by omega, by rw [hi'H.out], by rw [hj'H.out], by rw [htkH.out, ← List.append_assoc]; exact ho5.out, hS5H.out, hsz5⟩
              case measure => simp [intOf]; omega
            · obtain rfl : m = N := by omega
              have hfull : ((argsW s px).zip (argsW s py)).take m = (argsW s px).zip (argsW s py) := List.take_of_length_le (by rw [List.length_zip, hlPH.out, hlQH.out]; omega)
              rw [hfull] at hor
              have hrel : solRel w0 wS xb mb a1 c1 s a b gk' u7 wr := ⟨B, θ, ρ, n, _, hnxH.out, hnH.out, hSr, hor, hszr⟩
              have hrelH := Lib.hid hrel
              clear hrel hor hSr hfull
              go_wp2_with fail
              go_roundg gk'
              case measure => omega
              case rel => exact hrelH.out
        · have hnx := Lib.hid (hN2H.out.clash hv hw)
          have hb : (p0 != q0) = true := by simpa using hw
          have hdv : decide (p0 < 0) = false := by simp; omega
          clear hcaseH hw hN2H
          go_quiet (fail)
          all_goals go_wp2_with fail
          all_goals go_quiet (fail)
          all_goals go_wp2_with fail
          all_goals go_ret
          all_goals exact ⟨false, rfl, bcall hS2H.out.bel ((Drew.mk2 _ _ _).below _), fun _ => hnx.out, fun h => by cases h⟩
    · have hL0 : L = [] := by cases L with | nil => rfl | cons _ _ => simp at hL
      subst hL0
      have hfin : solRet w0 xb mb a1 c1 s a b (.returned (.bool true)) wr := ⟨true, rfl, hS.bel, (fun h => by cases h), fun _ => ⟨B, θ, ρ, n, hst.slv, hst.rg, hst.eq.done, hS, hst.infB⟩⟩
      have hfinH := Lib.hid hfin
      subst hv
      clear hst hS ho hfin hsl hL
      go_wp2_with fail
      go_ret
      exact hfinH.out
end Go.Proofs.YtgkddhakhapjlaaDoor

/- Walks of package unify: solved, apart, Meets, Unifiable. -/
namespace Go.Proofs.YtgkddhakhapjlaaDoor
open Go Go.RowKit Go.Maps

def apRel (t : List Int) (w : World) (B0 g cap : Nat) (i : Value) (wr : World) : Prop :=
  ∃ k : Nat, i = .int .i64 k ∧ k ≤ t.length ∧ OwnI wr B0 (.slice (some ⟨g, 0, none⟩) t.length cap) (doneTo apN t k) ∧ Below w.heap.size w wr
set_option maxHeartbeats 1000000 in
theorem apart_any {S : Nat → Prop} (a : Option Addr) (c : Nat) (t : List Int) (w : World) (h : Ints S w a c t) (hl : t.length ≤ lim) (hne : t ≠ []) (hr : ∀ x ∈ t, x < 0 → -12 ≤ x) :
    Calls Tryd.prog 63 #[.slice a t.length c] w (retOwn w (apartT t)) := by
  have m := h.le
  have cc := Clone_any a c t w h hl
  have ccH := Lib.hid cc
  have hrH := Lib.hid hr
  clear cc hr
  go_enter Tryd.func63, Tryd.ntmps63
  go_wp2_with fail
  refine ccH.out.mono ?_
  rintro e w1 ⟨v, rfl, ho, hB⟩
  obtain ⟨g, cap, rfl, hg1, hg2⟩ := ho.form hne
  clear ccH
  go_wp2_with fail
  go_loopw [10] (fun i wr => apRel t w w.heap.size g cap i wr) (fun i _ => t.length - (intOf i).toNat)
  case atStart => exact ⟨0, rfl, Nat.zero_le _, by rw [doneTo_zero]; exact ho, hB⟩
  case round =>
    obtain ⟨k, rfl, hk, ho, hB⟩ := hrel
    by_cases hlt : k < t.length
    · obtain ⟨b, o, rfl, -, q, hrg⟩ := (h.below hB).int k hlt
      have hxr := hrH.out t[k] (List.getElem_mem hlt)
      have hset := doneTo_set hlt (f := apN)
      have hsame := doneTo_same hlt (f := apN)
      have hget := doneTo_get hlt (f := apN)
      obtain ⟨hc1, hf1⟩ := ho.cellInt (by rw [doneTo_length]) k (by rw [doneTo_length]; exact hlt)
      rw [hget] at hc1
      obtain ⟨x, hx⟩ : ∃ x, t[k] = x := ⟨_, rfl⟩
      rw [hx] at q hrg hset hsame hc1 hxr
      clear hget hx
      by_cases h0 : x < 0
      · have hx12 := hxr h0
        have hap : apN x = x - 12 := by unfold apN; exact if_pos h0
        rw [hap] at hset
        have hsub : IntKind.i64.wrap (x - 12) = x - 12 := IntWalk.i64_in _ (by omega)
        obtain ⟨ho2, hg3⟩ := ho.setInt (by rw [doneTo_length]) k (x - 12) (by unfold inRange; omega)
        rw [hset] at ho2
        have hoH := Lib.hid ho2
        have hBH := Lib.hid (hB.grown hg3 hB.size (fun j e => by cases e; omega))
        clear ho ho2 hset hsame hg3 hap hxr
        go_wp2_with fail
        go_roundw
        case rel => exact ⟨k + 1, by go_num, by omega, hoH.out, hBH.out⟩
        case measure => simp [intOf]; omega
      · have hs2 := hsame (by unfold apN; exact if_neg h0)
        have hoH := Lib.hid ho
        have hsH := Lib.hid hs2
        clear ho hset hsame hs2 hxr
        go_wp2_with fail
        go_roundw
        case rel => exact ⟨k + 1, by go_num, by omega, by rw [← hsH.out]; exact hoH.out, hB⟩
        case measure => simp [intOf]; omega
    · rw [doneTo_all _ _ _ (by omega)] at ho
      have hoH := Lib.hid ho
      clear ho
      go_wp2_with fail
      go_ret
      exact ⟨_, rfl, hoH.out, hB⟩

def solvedRet (w : World) (a1 : Option Addr) (c1 : Nat) (s : Sg) (a b : List Int) (e : Ending) (w' : World) : Prop :=
  ∃ xb mb r, e = .returned (.tuple #[.pointer (some ⟨xb, 0, none⟩), .bool r]) ∧ Below w.heap.size w w' ∧ (r = false → ∀ η, Wsub s η → ap η a ≠ ap η b) ∧
    (r = true → ∃ B θ ρ n, Slv s B θ ρ ∧ RgB B ∧ IsMgu s a b θ ∧ SolvW w w' xb mb n a1 c1 s B)
set_option maxHeartbeats 1000000 in
theorem solved_any {S1 S2 S3 : Nat → Prop} (a1 a2 a3 : Option Addr) (c1 c2 c3 : Nat) (s : Sg) (a b : List Int) (w : World) (h1 : Sign S1 w a1 c1 s) (h2 : Ints S2 w a2 c2 a) (h3 : Ints S3 w a3 c3 b) (hok : okSign s = true)
    (ha : W1 s a) (hb : W1 s b) (ra : Rg a) (rb : Rg b) (la : a.length ≤ 1000) (lb : b.length ≤ 1000) :
    Calls Tryd.prog 62 #[.slice a1 s.length c1, .slice a2 a.length c2, .slice a3 b.length c3] w (solvedRet w a1 c1 s a b) := by
  have hmm := @run_makeMap Tryd.prog
  have h1' : Sign (fun b => b < w.heap.size) w a1 c1 s := h1.lt.weak (fun _ h => h.2)
  have h2' : T0 w a2 c2 a := h2.lt.weak (fun _ h => h.2)
  have h3' : T0 w a3 c3 b := h3.lt.weak (fun _ h => h.2)
  have m2 := h2.le
  have m3 := h3.le
  obtain ⟨W, hW⟩ : ∃ W, (w.alloc (.map #[] 0)).alloc (.cells #[.slice a1 s.length c1, .map (some w.heap.size)] 130) = W := ⟨_, rfl⟩
  have hbW : Below w.heap.size w W := by rw [← hW]; exact below2 _ _ _
  have k0 : W.cell? ⟨w.heap.size + 1, 0, none⟩ = some (.slice a1 s.length c1) := by rw [← hW]; clear hW; go_simp
  have k1 : W.cell? ⟨w.heap.size + 1, 1, none⟩ = some (.map (some w.heap.size)) := by rw [← hW]; clear hW; go_simp
  have hmap : BdMap w W w.heap.size 0 (fun _ => none) := by
    rw [← hW]; exact (BdMap.made w w).below (below1 _ _) (by simp)
  have hS : SolvW w W (w.heap.size + 1) w.heap.size 0 a1 c1 s (fun _ => none) := ⟨k0, k1, hmap, Nat.le_succ _, Nat.le_refl _, by omega, h1', hbW, fun _ _ h => by cases h⟩
  have cs := solve_any hok hS h2' h3' ha hb ra rb la lb
  have csH := Lib.hid cs
  have hWH := Lib.hid hW
  clear cs hS hmap k0 k1 hbW hW h1 h2 h3 h1' h2' h3'
  go_enter Tryd.func62, Tryd.ntmps62
  go_wp2_with fail
  rw [hWH.out]
  refine csH.out.mono ?_
  rintro e w1 ⟨r, rfl, hB, hf, ht⟩
  have hBH := Lib.hid hB
  have hfH := Lib.hid hf
  have htH := Lib.hid ht
  clear hB hf ht
  go_wp2_with fail
  go_ret2
  exact ⟨_, _, r, rfl, hBH.out, hfH.out, fun h => by obtain ⟨B, θ, ρ, n, g1, g2, g3, g4, -⟩ := htH.out h; exact ⟨B, θ, ρ, n, g1, g2, ⟨B, ρ, g1, g3⟩, g4⟩⟩
theorem solved_uniB {w w' : World} {a1 : Option Addr} {c1 xb mb : Nat} {s : Sg} {a b : List Int} {r : Bool} (hf : r = false → ∀ η, Wsub s η → ap η a ≠ ap η b) (ht : r = true → ∃ B θ ρ n, Slv s B θ ρ ∧ RgB B ∧ IsMgu s a b θ ∧ SolvW w w' xb mb n a1 c1 s B) : r = uniB s a b := by
  cases r with
  | false => exact (uniB_none (hf rfl)).symm
  | true => obtain ⟨B, θ, ρ, n, -, -, h, -⟩ := ht rfl; exact (uniB_some h).symm

set_option maxHeartbeats 1000000 in
theorem Meets_any {S1 S2 S3 : Nat → Prop} (a1 a2 a3 : Option Addr) (c1 c2 c3 : Nat) (s : Sg) (a b : List Int) (w : World) (h1 : Sign S1 w a1 c1 s) (h2 : Ints S2 w a2 c2 a) (h3 : Ints S3 w a3 c3 b) :
    Calls Tryd.prog 56 #[.slice a1 s.length c1, .slice a2 a.length c2, .slice a3 b.length c3] w fun e w' => e = .returned (.bool (meetB s a b)) ∧ Below w.heap.size w w' := by
  have m2 := h2.le
  have m3 := h3.le
  have v1 := Valid_any a1 a2 c1 c2 s a w h1 h2
  have v2 := fun W (hb : Below w.heap.size w W) => Valid_any a1 a3 c1 c3 s b W (h1.below hb) (h3.below hb)
  have v4 : okT s b = true → ∀ W, Below w.heap.size w W → _ := fun e2 W hb => apart_any a3 c3 b W (h3.below hb) (by have := (okT_parts e2).2.2.1; unfold lim; omega) (okT_ne e2) (okT_rg e2)
  have v3 : okT s a = true → okT s b = true → ∀ W, Below w.heap.size w W → ∀ (T : Nat → Prop) a4 c4, Ints T W a4 c4 (apartT b) → _ := fun e1 e2 W hb T a4 c4 hi => solved_any a1 a2 a4 c1 c2 c4 s a (apartT b) W (h1.below hb) (h2.below hb) hi (okT_parts e1).1 (okT_w1 e1) (apartT_w (okT_w1 e2)) (okT_Rg e1) (apartT_rg e2) (by have := (okT_parts e1).2.2.1; omega) (by rw [apartT_len]; have := (okT_parts e2).2.2.1; omega)
  unfold meetB
  have hal := apartT_len b
  generalize okT s a = x at *
  generalize okT s b = y at *
  have v1H := Lib.hid v1
  have v2H := Lib.hid v2
  have v3H := Lib.hid v3
  have v4H := Lib.hid v4
  have halH := Lib.hid hal
  clear v1 v2 v3 v4 h1 h2 h3 hal
  cases x with
  | false =>
    go_enter Tryd.func56, Tryd.ntmps56
    go_wp2_with (go_at_call 32; refine v1H.out.mono ?_; rintro e w1 ⟨rfl, hb1⟩)
    go_ret
    exact ⟨rfl, hb1⟩
  | true =>
    cases y with
    | false =>
      go_enter Tryd.func56, Tryd.ntmps56
      go_wp2_with fail
      refine v1H.out.mono ?_
      rintro e w1 ⟨rfl, hb1⟩
      go_wp2_with fail
      refine (v2H.out _ hb1).mono ?_
      rintro e w2 ⟨rfl, hb2⟩
      go_wp2_with fail
      go_ret
      exact ⟨rfl, bcall hb1 hb2⟩
    | true =>
      go_enter Tryd.func56, Tryd.ntmps56
      go_wp2_with fail
      refine v1H.out.mono ?_
      rintro e w1 ⟨rfl, hb1⟩
      go_wp2_with fail
      refine (v2H.out _ hb1).mono ?_
      rintro e w2 ⟨rfl, hb2⟩
      have hbb := bcall hb1 hb2
      clear hb1 hb2
      go_wp2_with fail
      refine (v4H.out trivial _ hbb).mono ?_
      rintro e w3 ⟨v, rfl, ho, hb3⟩
      obtain ⟨a4, c4, rfl, hI⟩ := OwnI.ints ho
      have hbb := bcall hbb hb3
      clear hb3 ho
      go_wp2_with fail
      refine (v3H.out trivial trivial _ hbb _ _ _ hI).mono ?_
      rintro e w4 ⟨xb, mb, r, rfl, hb3, hf, ht⟩
      have hrH := Lib.hid (solved_uniB hf ht)
      clear hf ht
      go_wp2_with fail
      go_ret
      exact ⟨by rw [hrH.out]; simp, bcall hbb hb3⟩
end Go.Proofs.YtgkddhakhapjlaaDoor

/- Walks of package unify: code, named. -/
namespace Go.Proofs.YtgkddhakhapjlaaDoor
open Go Go.RowKit Go.Maps

theorem code_any (v : Int) (w : World) (h0 : 0 ≤ v) (h1 : v ≤ 1000000) : Calls Tryd.prog 75 #[.int .i64 v] w fun e w' => e = .returned (.int .i64 (-v - 1)) ∧ w = w' := by
  have e1 : IntKind.i64.wrap (-v) = -v := IntWalk.i64_in _ (by omega)
  have e2 : IntKind.i64.wrap (-v - 1) = -v - 1 := IntWalk.i64_in _ (by omega)
  go_enter Tryd.func75, Tryd.ntmps75
  go_wp2_with fail
  go_ret
  exact ⟨rfl, rfl⟩

def namRel (t : List Int) (w : World) (out i : Value) (wr : World) : Prop :=
  ∃ k : Nat, i = .int .i64 k ∧ k ≤ t.length ∧ IMap Tryd.prog 3 3 wr w.heap.size (varsC (t.take k)).length (nameF t k) ∧ OwnI wr (w.heap.size + 1) out ((t.take k).map (canonW (varsC t))) ∧ Below w.heap.size w wr
theorem nam_push {w : World} {base : Nat} {v : Value} {l : List Int} (ho : OwnI w base v l) (x : Int) (hx : inRange x) (hl : l.length ≤ 10000000) (hb : base ≤ w.heap.size) :
    ∃ v' w', RowKit.Hid ((Builtin.append_ #[35, 35] 35 #[v, .slice (some ⟨w.heap.size, 0, none⟩) 1 1]).run Tryd.prog (w.alloc (.cells #[.int .i64 x] 3)) = .ok v' w') ∧ RowKit.Hid (OwnI w' base v' (l ++ [x])) ∧ RowKit.Hid (w.grownBy w' v.ownBlock) := by
  obtain ⟨v', w', hrun, ho', hg, -⟩ := ho.push (P := Tryd.prog) (t := 35) (ty := 35) Tryd.underlying35 infoInt rfl (vs := [.int .i64 x]) (x := x) ⟨rfl, hx⟩ (by omega) (by unfold big; omega) hb
  exact ⟨v', w', Lib.hid hrun, Lib.hid ho', Lib.hid hg⟩
set_option maxHeartbeats 2000000 in
theorem named_any {S : Nat → Prop} (a : Option Addr) (c : Nat) (t : List Int) (w : World) (h : Ints S w a c t) (hl : t.length ≤ lim) :
    Calls Tryd.prog 82 #[.slice a t.length c] w fun e w' => ∃ v, e = .returned (.tuple #[v, .bool (decide ((varsC t).length ≤ 12))]) ∧ OwnI w' w.heap.size v (canon t) ∧ Below w.heap.size w w' := by
  have m := h.le
  have hmm := @run_makeMap Tryd.prog
  have hlH := Lib.hid hl
  have hl6 : t.length ≤ 1000000 := hl
  go_enter Tryd.func82, Tryd.ntmps82
  go_wp2_with fail
  go_loopw [5, 13] (fun out i wr => namRel t w out i wr) (fun _ i _ => t.length - (intOf i).toNat)
  case atStart => exact ⟨0, rfl, Nat.zero_le _, by rw [nameF_zero]; exact IMap.made w, .nil _ _ _ _ _, below1 _ _⟩
  case round =>
    obtain ⟨k, rfl, hk, hm, ho, hB⟩ := hrel
    have hol : ((t.take k).map (canonW (varsC t))).length ≤ 10000000 := by rw [List.length_map, List.length_take]; omega
    have hmlt := hm.lt
    by_cases hlt : k < t.length
    · obtain ⟨b, o, rfl, -, q, hrg⟩ := (h.below hB).int k hlt
      have hstep : (t.take (k + 1)).map (canonW (varsC t)) = (t.take k).map (canonW (varsC t)) ++ [canonW (varsC t) t[k]] := by rw [List.take_succ_eq_append_getElem hlt, List.map_append]; rfl
      have hne : ∀ q, u5.ownBlock = some q → w.heap.size < q := fun q hq => by have := (OwnL.lt ho q hq).1; omega
      obtain ⟨x, hx⟩ : ∃ x, t[k] = x := ⟨_, rfl⟩
      rw [hx] at q hrg hstep
      have hxH := Lib.hid hx
      clear hx
      have hkeep : ∀ {W W' : World} {n f}, IMap Tryd.prog 3 3 W w.heap.size n f → W.grownBy W' u5.ownBlock → IMap Tryd.prog 3 3 W' w.heap.size n f := fun hm hg => hm.same (hg.block _ hm.lt (fun e => by have := hne _ e.symm; omega))
      by_cases h0 : 0 ≤ x
      · obtain ⟨hf1, hf2⟩ := nameF_old hlt (.inl (by rw [hxH.out]; exact h0))
        rw [canonW_pos h0] at hstep
        obtain ⟨v', w', hrun, ho', hg⟩ := nam_push ho x hrg hol (by omega)
        have hrun2 := hrun.out
        have hstH := Lib.hid hstep
        have hmH := Lib.hid (hkeep hm hg.out)
        have hBH := Lib.hid (hB.grown hg.out hB.size (fun j e => by have := hne _ e; omega))
        have hfH := Lib.hid hf1
        have hf2H := Lib.hid hf2
        have hx0 : ¬ x < 0 := by omega
        clear hm ho hf1 hf2 h hg hstep hkeep hne
        go_wp2_with (at_builtin; refine wpList_append_run rfl _ _ _ rfl rfl rfl hrun2 ?_)
        clear hrun2
        go_roundw
        case rel => exact ⟨k + 1, by go_num, by omega, by rw [hfH.out, hf2H.out]; exact hmH.out, by rw [hstH.out]; exact ho'.out, hBH.out⟩
        case measure => simp [intOf]; omega
      · have hneg : x < 0 := by omega
        have hlook := hm.look_ok (tm := 153) Tryd.underlying153 Tryd.underlying3 Tryd.underlying3 (zInt wr) x hrg
        have hcr := canonW_range (t := t) hrg hl
        by_cases hv : x ∈ varsC (t.take k)
        · have hval := nameF_canonW hv
          have hlook2 := hm.look (tm := 153) Tryd.underlying153 Tryd.underlying3 Tryd.underlying3 (zInt wr) x hrg
          rw [hval] at hlook hlook2
          simp only [Option.getD_some, Option.isSome_some] at hlook hlook2
          obtain ⟨hf1, hf2⟩ := nameF_old hlt (.inr (by rw [hxH.out]; exact hv))
          obtain ⟨y, hy⟩ : ∃ y, canonW (varsC t) x = y := ⟨_, rfl⟩
          rw [hy] at hlook hlook2 hcr hstep
          obtain ⟨v', w', hrun, ho', hg⟩ := nam_push ho y hcr hol (by omega)
          have hrun2 := hrun.out
          have hstH := Lib.hid hstep
          have hmH := Lib.hid (hkeep hm hg.out)
          have hBH := Lib.hid (hB.grown hg.out hB.size (fun j e => by have := hne _ e; omega))
          have hfH := Lib.hid hf1
          have hf2H := Lib.hid hf2
          clear hm ho hf1 hf2 h hg hstep hkeep hne hval hv hy
          go_wp2_with (at_builtin; refine wpList_append_run rfl _ _ _ rfl rfl rfl hrun2 ?_)
          clear hrun2
          go_roundw
          case rel => exact ⟨k + 1, by go_num, by omega, by rw [hfH.out, hf2H.out]; exact hmH.out, by rw [hstH.out]; exact ho'.out, hBH.out⟩
          case measure => simp [intOf]; omega
        · obtain ⟨hf1, hf2⟩ := nameF_new hlt (by rw [hxH.out]; exact hneg) (by rw [hxH.out]; exact hv)
          rw [hxH.out] at hf1
          have hnone : nameF t k x = none := by unfold nameF; rw [if_neg hv]
          have hxin : x ∈ varsC (t.take (k + 1)) := by rw [varsC_take_succ hlt, hxH.out, addV, if_pos ⟨hneg, hv⟩]; simp
          have hval := nameF_canonW hxin
          obtain ⟨y, hy⟩ : ∃ y, canonW (varsC t) x = y := ⟨_, rfl⟩
          obtain ⟨n, hn⟩ : ∃ n, (varsC (t.take k)).length = n := ⟨_, rfl⟩
          have hn1 : n ≤ t.length := by have := varsC_length (t.take k); simp at this; omega
          rw [hy] at hval hcr hstep
          rw [hn] at hf1 hf2 hm
          have hyn : y = -(n : Int) - 1 := by
            have h1 := hval
            rw [hf1] at h1
            simp at h1; omega
          rw [hnone] at hlook
          simp only [Option.getD_none, Option.isSome_none] at hlook
          have hlen := hm.len (tm := 153) Tryd.underlying153 3
          obtain ⟨w2, hst, hm2, hg2⟩ := hm.store (tm := 153) Tryd.underlying153 Tryd.underlying3 Tryd.underlying3 (by unfold maxLen; omega) x hrg y hcr hnone
          rw [hyn] at hst
          have hfe : (fun z => if z = x then some y else nameF t k z) = nameF t (k + 1) := by rw [hf1, hyn]
          rw [hfe] at hm2
          have hlook2 := hm2.look (tm := 153) Tryd.underlying153 Tryd.underlying3 Tryd.underlying3 (zInt w2) x hrg
          rw [hval] at hlook2
          simp only [Option.getD_some] at hlook2
          rw [hyn] at hlook2 hstep hcr
          have ho2 := OwnL.grown ho hg2 (fun q hq e => by cases e; have := hne _ hq; omega) (fun b hb _ => hb.elim)
          have hB2 := hB.grown hg2 hB.size (fun j e => by cases e; exact Nat.le_refl _)
          obtain ⟨v', w', hrun, ho', hg⟩ := nam_push ho2 (-(n : Int) - 1) hcr hol (Nat.le_trans (show w.heap.size + 1 ≤ wr.heap.size by omega) hg2.size)
          have hrun2 := hrun.out
          have hcode := fun W => code_any (n : Int) W (by omega) (by omega)
          have hstH := Lib.hid hstep
          have hmH := Lib.hid (hkeep hm2 hg.out)
          have hBH := Lib.hid (hB2.grown hg.out hB2.size (fun j e => by have := hne _ e; omega))
          have hf2H := Lib.hid hf2
          have hcodeH := Lib.hid hcode
          clear hm ho hf1 hf2 h hg hstep hkeep hne hval hv hy hm2 ho2 hB2 hfe hnone hxin hyn hg2 hn hcode
          go_wp2_with (first | (go_at_call 75; refine (hcodeH.out _).mono ?_; rintro e w9 ⟨rfl, rfl⟩) | (at_builtin; refine wpList_append_run rfl _ _ _ rfl rfl rfl hrun2 ?_))
          clear hrun2
          go_roundw
          case rel => exact ⟨k + 1, by go_num, by omega, by rw [hf2H.out]; exact hmH.out, by rw [hstH.out]; exact ho'.out, hBH.out⟩
          case measure => simp [intOf]; omega
    · have hfull : t.take k = t := List.take_of_length_le (by omega)
      rw [hfull] at hm ho
      have hlen := hm.len (tm := 153) Tryd.underlying153 3
      have hoH := Lib.hid (OwnL.baseMono (base' := w.heap.size) ho (by omega))
      obtain ⟨n, hn⟩ : ∃ n, (varsC t).length = n := ⟨_, rfl⟩
      rw [hn] at hlen
      have hnH := Lib.hid hn
      clear hm ho h hn hfull hmlt hol
      by_cases h12 : n ≤ 12
      · have h12b : decide ((n : Int) ≤ 12) = true := by simp; omega
        go_wp2_with fail
        go_ret2
        exact ⟨_, by rw [hnH.out, decide_eq_true h12]; rfl, hoH.out, hB⟩
      · have h12b : decide ((n : Int) ≤ 12) = false := by simp; omega
        go_wp2_with fail
        go_ret2
        exact ⟨_, by rw [hnH.out, decide_eq_false h12]; rfl, hoH.out, hB⟩
end Go.Proofs.YtgkddhakhapjlaaDoor

/- Walks of package unify: full, made, Meet. -/
namespace Go.Proofs.YtgkddhakhapjlaaDoor
open Go Go.RowKit Go.Maps

/-- only what lies from K on, and the box B0, has turned -/
structure FB (K B0 : Nat) (w w' : World) : Prop where
  os : w'.os = w.os
  tape : w'.tape = w.tape
  output : w'.output = w.output
  size : w.heap.size ≤ w'.heap.size
  block : ∀ b, b < K → b ≠ B0 → w'.heap[b]? = w.heap[b]?
section
variable {K B0 : Nat} {w w1 w2 : World}
theorem FB.refl (K B0 : Nat) (w : World) : FB K B0 w w := ⟨rfl, rfl, rfl, Nat.le_refl _, fun _ _ _ => rfl⟩
theorem FB.trans (h : FB K B0 w w1) (k : FB K B0 w1 w2) : FB K B0 w w2 := ⟨k.os.trans h.os, k.tape.trans h.tape, k.output.trans h.output, Nat.le_trans h.size k.size, fun b hb hne => (k.block b hb hne).trans (h.block b hb hne)⟩
theorem FB.below (h : FB K B0 w w1) {C : Nat} (h1 : C ≤ K) (h2 : C ≤ B0) : Below C w w1 := ⟨h.os, h.tape, h.output, h.size, fun b hb => h.block b (by omega) (by omega)⟩
theorem FB.cell (h : FB K B0 w w1) {b off : Nat} {v : Value} (hb : b < K) (hne : b ≠ B0) (hc : w.cell? ⟨b, off, none⟩ = some v) : w1.cell? ⟨b, off, none⟩ = some v := (World.cell?_of_block (w := w) (h.block b hb hne)).trans hc
end
/-- what lies in memory while a term is made full -/
structure FulW (w0 w : World) (xb mb nb : Nat) (a1 : Option Addr) (c1 : Nat) (s : Sg) (B : Bd) (xx wb ob K : Nat) (o : List Int) : Prop where
  S : SolvW w0 w xb mb nb a1 c1 s B
  cx : w.cell? ⟨xx, 0, none⟩ = some (.pointer (some ⟨xb, 0, none⟩))
  cw : w.cell? ⟨wb, 0, none⟩ = some (.func (.func 101) #[] #[.pointer (some ⟨xx, 0, none⟩), .pointer (some ⟨wb, 0, none⟩), .pointer (some ⟨ob, 0, none⟩)])
  lts : xb < K ∧ mb < K ∧ xx < K ∧ wb < K ∧ ob < K
  nes : xb ≠ ob ∧ mb ≠ ob ∧ xx ≠ ob ∧ wb ≠ ob
  low : w0.heap.size ≤ ob
  box : ∃ v, Boxed w ob 35 v ∧ OwnI w K v o
  size : K ≤ w.heap.size
section
variable {w0 w w1 : World} {xb mb nb : Nat} {a1 : Option Addr} {c1 : Nat} {s : Sg} {B : Bd} {xx wb ob K : Nat} {o o' : List Int}
theorem FulW.turn (h : FulW w0 w xb mb nb a1 c1 s B xx wb ob K o) (hf : FB K ob w w1) (hb : ∃ v, Boxed w1 ob 35 v ∧ OwnI w1 K v o') : FulW w0 w1 xb mb nb a1 c1 s B xx wb ob K o' := by
  obtain ⟨l1, l2, l3, l4, l5⟩ := h.lts
  obtain ⟨n1, n2, n3, n4⟩ := h.nes
  have hS := h.S
  refine ⟨⟨hf.cell l1 n1 hS.k0, hf.cell l1 n1 hS.k1, ?_, hS.bx, hS.bm, hS.ne, hS.sg, hS.bel.trans (hf.below (Nat.le_trans h.low (Nat.le_of_lt l5)) h.low), hS.wf⟩, hf.cell l3 n3 h.cx, hf.cell l4 n4 h.cw, h.lts, h.nes, h.low, hb, Nat.le_trans h.size hf.size⟩
  obtain ⟨f, g1, g2, g3⟩ := hS.map
  exact ⟨f, g1.same (hf.block mb l2 n2), g2, g3⟩
/-- one number more -/
theorem FulW.push (h : FulW w0 w xb mb nb a1 c1 s B xx wb ob K o) (x : Int) (hx : inRange x) (hl : o.length ≤ 1000) :
    ∃ v w2 a' cap, RowKit.Hid (w.cell? ⟨ob, 0, none⟩ = some v) ∧ RowKit.Hid ((Builtin.append_ #[35, 35] 35 #[v, .slice (some ⟨w.heap.size, 0, none⟩) 1 1]).run Tryd.prog (w.alloc (.cells #[.int .i64 x] 3)) = .ok (.slice a' (o.length + 1) cap) w2) ∧
      RowKit.Hid (w2.cell? ⟨ob, 0, none⟩ = some v) ∧ RowKit.Hid (w2.frozen? ⟨ob, 0, none⟩ = false) ∧ RowKit.Hid (FB K ob w (w2.setCell ⟨ob, 0, none⟩ (.slice a' (o.length + 1) cap))) ∧
      RowKit.Hid (FulW w0 (w2.setCell ⟨ob, 0, none⟩ (.slice a' (o.length + 1) cap)) xb mb nb a1 c1 s B xx wb ob K (o ++ [x])) ∧ RowKit.Hid ((w2.setCell ⟨ob, 0, none⟩ (.slice a' (o.length + 1) cap)).cell? ⟨ob, 0, none⟩ = some (.slice a' (o.length + 1) cap)) := by
  obtain ⟨v, hv, ho⟩ := h.box
  obtain ⟨v', w2, hrun, ho2, hg, -⟩ := ho.push (P := Tryd.prog) (t := 35) (ty := 35) Tryd.underlying35 infoInt rfl (vs := [.int .i64 x]) (x := x) ⟨rfl, hx⟩ (by omega) (by unfold big; omega) h.size
  obtain ⟨a', cap, rfl, -⟩ := ho2.sl
  rw [List.length_append, List.length_singleton] at hrun ho2
  have l5 := h.lts.2.2.2.2
  have hne : ∀ {u : Value} {W : World} {l}, OwnI W K u l → u.ownBlock ≠ some ob := fun ho e => by have := (OwnL.lt ho _ e).1; omega
  have hv2 : Boxed w2 ob 35 v := hv.kept hg (fun e => hne ho e.symm)
  have hg3 : w2.grownBy (w2.setCell ⟨ob, 0, none⟩ (.slice a' (o.length + 1) cap)) (some ob) := grownBy_setCell' _ _ _
  have ho3 := OwnL.grown ho2 hg3 (fun k hk e => by cases e; exact hne ho2 hk) (fun b hb _ => hb.elim)
  have hv3 : Boxed (w2.setCell ⟨ob, 0, none⟩ (.slice a' (o.length + 1) cap)) ob 35 (.slice a' (o.length + 1) cap) := hv2.set _
  have hB2 : Below K w w2 := (Below.refl K w).grown hg h.size (fun k e => (OwnL.lt ho k e).1)
  have hF : FB K ob w (w2.setCell ⟨ob, 0, none⟩ (.slice a' (o.length + 1) cap)) :=
    ⟨hg3.os.trans hB2.os, hg3.tape.trans hB2.tape, hg3.output.trans hB2.output, Nat.le_trans hB2.size hg3.size, fun b hb hn => (hg3.block b (Nat.lt_of_lt_of_le hb (Nat.le_trans h.size hB2.size)) (fun e => hn (by cases e; rfl))).trans (hB2.block b hb)⟩
  exact ⟨v, w2, a', cap, Lib.hid hv.cell, Lib.hid hrun, Lib.hid hv2.cell, Lib.hid hv2.frozen, Lib.hid hF, Lib.hid (h.turn hF ⟨_, hv3, ho3⟩), Lib.hid hv3.cell⟩
end
def fullRet (w0 : World) (xb mb nb : Nat) (a1 : Option Addr) (c1 : Nat) (s : Sg) (B : Bd) (θ : Int → List Int) (xx wb ob K : Nat) (o t : List Int) (w : World) (e : Ending) (w' : World) : Prop :=
  ∃ r o', e = .returned (.bool r) ∧ FB K ob w w' ∧ FulW w0 w' xb mb nb a1 c1 s B xx wb ob K o' ∧ (r = true → o' = o ++ ap θ t ∧ o'.length ≤ 60) ∧ (r = false → 60 < (o ++ ap θ t).length)
def fullRel (w0 : World) (xb mb nb : Nat) (a1 : Option Addr) (c1 : Nat) (s : Sg) (B : Bd) (θ : Int → List Int) (xx wb ob K : Nat) (o t : List Int) (w : World) (jv : Value) (wr : World) : Prop :=
  ∃ (j : Nat), jv = .int .i64 j ∧ j ≤ t.length ∧ FB K ob w wr ∧ FulW w0 wr xb mb nb a1 c1 s B xx wb ob K (o ++ ap θ (t.take j)) ∧ (o ++ ap θ (t.take j)).length ≤ 60
theorem len_app (a b : List Int) : (a ++ b).length = a.length + b.length := List.length_append
theorem ap_cut {θ : Int → List Int} {t : List Int} {j : Nat} (h : j < t.length) : ap θ (t.take (j + 1)) = ap θ (t.take j) ++ ap θ [t[j]] ∧ (ap θ (t.take j) ++ ap θ [t[j]]).length ≤ (ap θ t).length := by
  have e : ap θ (t.take (j + 1)) = ap θ (t.take j) ++ ap θ [t[j]] := by rw [List.take_succ_eq_append_getElem h, ap_append]
  refine ⟨e, ?_⟩
  rw [← e]
  have : ap θ t = ap θ (t.take (j + 1)) ++ ap θ (t.drop (j + 1)) := by rw [← ap_append, List.take_append_drop]
  rw [this, List.length_append]; omega
set_option maxRecDepth 20000 in
set_option maxHeartbeats 8000000 in
theorem full1_any {w0 : World} {xb mb nb : Nat} {a1 : Option Addr} {c1 : Nat} {s : Sg} {B : Bd} {θ : Int → List Int} {ρ : Int → Nat} (hSl : Slv s B θ ρ) (xx wb ob KK : Nat) :
    ∀ (K : Nat) (t : List Int) (a : Option Addr) (c : Nat) (o : List Int) (w : World), (∀ m ∈ t, m < 0 → ρ m < K) → T0 w0 a c t → FulW w0 w xb mb nb a1 c1 s B xx wb ob KK o → o.length ≤ 60 →
      Calls Tryd.prog 101 #[.slice a t.length c, .pointer (some ⟨xx, 0, none⟩), .pointer (some ⟨wb, 0, none⟩), .pointer (some ⟨ob, 0, none⟩)] w (fullRet w0 xb mb nb a1 c1 s B θ xx wb ob KK o t w) := by
  intro K
  induction K using Nat.strongRecOn with
  | _ K ih =>
    intro t a c o w hK hT hF ho60
    have ihH := Lib.hid ih
    have hKH := Lib.hid hK
    have hTH := Lib.hid hT
    have hFH := Lib.hid hF
    have hoH := Lib.hid ho60
    have m2 := hT.le
    clear ih hK hT hF ho60
    go_enter Tryd.func101, Tryd.ntmps101
    go_wp2_with fail
    go_loopw [12] (fun jv wr => fullRel w0 xb mb nb a1 c1 s B θ xx wb ob KK o t w jv wr) (fun jv _ => t.length - (intOf jv).toNat)
    case atStart => exact ⟨0, rfl, Nat.zero_le _, .refl _ _ _, by rw [List.take_zero, ap_nil, List.append_nil]; exact hFH.out, by rw [List.take_zero, ap_nil, List.append_nil]; exact hoH.out⟩
    case round =>
      obtain ⟨j, rfl, hj, hf, hW, h60⟩ := hrel
      by_cases hlt : j < t.length
      · obtain ⟨b, off, rfl, -, q, hr⟩ := (hTH.out.below hW.S.bel).int j hlt
        obtain ⟨hcut, hcl⟩ := ap_cut (θ := θ) hlt
        have hKx := hKH.out t[j] (List.getElem_mem hlt)
        obtain ⟨x, hx⟩ : ∃ x, t[j] = x := ⟨_, rfl⟩
        rw [hx] at q hr hcut hcl hKx
        obtain ⟨oj, hoj⟩ : ∃ u, o ++ ap θ (t.take j) = u := ⟨_, rfl⟩
        have hcut2 : o ++ ap θ (t.take (j + 1)) = oj ++ ap θ [x] := by rw [hcut, ← List.append_assoc, hoj]
        have hcl2 : (oj ++ ap θ [x]).length ≤ (o ++ ap θ t).length := by rw [← hoj, List.append_assoc, len_app o, len_app o]; omega
        rw [hoj] at hW h60
        have k1 := hW.S.k1
        have cx := hW.cx
        have cw := hW.cw
        have hfH := Lib.hid hf
        have hWH := Lib.hid hW
        have hc2H := Lib.hid hcut2
        have hl2H := Lib.hid hcl2
        have h60H := Lib.hid h60
        clear hf hW hcut hcl hcut2 hcl2 hoj hx h60
        cases hB : B x with
        | some u =>
          have hwf := hSl.wf x u hB
          have hx0 := hwf.2
          obtain ⟨a3, c3, hlk, hI3⟩ := hWH.out.S.map.look_some x hr hB
          have cu := ihH.out (ρ x) (hKx hx0) u a3 c3 oj wr (fun m hm h0 => hSl.rk x u hB m hm h0) hI3 hWH.out h60H.out
          have hth : ap θ [x] = ap θ u := by rw [ap_one hx0, hSl.bnd x u hB]
          have hthH := Lib.hid hth
          have cuH := Lib.hid cu
          clear hth cu hI3 hwf hB hKx
          go_wp2_with fail
          (with_reducible refine cuH.out.mono ?_)
          rintro e w3 ⟨r, o', rfl, hf3, hW3, ht3, hn3⟩
          cases r with
          | true =>
            obtain ⟨e3, l3⟩ := ht3 rfl
            have heq : o' = o ++ ap θ (t.take (j + 1)) := by rw [hc2H.out, hthH.out]; exact e3
            rw [heq] at hW3 l3
            have hW3H := Lib.hid hW3
            have hf3H := Lib.hid (hfH.out.trans hf3)
            have l3H := Lib.hid l3
            clear hf3 hW3 ht3 hn3 heq e3 l3 cx cw k1
            go_wp2_with fail
            go_roundw
            case rel => exact ⟨j + 1, by go_num, by omega, hf3H.out, hW3H.out, l3H.out⟩
            case measure => simp [intOf]; omega
          | false =>
            have hn := hn3 rfl
            have hlong : 60 < (o ++ ap θ t).length := by have := hl2H.out; rw [hthH.out] at this; omega
            have hW3H := Lib.hid hW3
            have hf3H := Lib.hid (hfH.out.trans hf3)
            have hlH := Lib.hid hlong
            clear hf3 hW3 ht3 hn3 hn hlong cx cw k1
            go_wp2_with fail
            go_ret
            exact ⟨false, _, rfl, hf3H.out, hW3H.out, (fun h => by cases h), fun _ => hlH.out⟩
        | none =>
          have hlk := hWH.out.S.map.look_none x hr hB
          have hth : ap θ [x] = [x] := by
            by_cases h0 : x < 0
            · rw [ap_one h0, hSl.free x h0 hB]
            · rw [ap_pos h0, ap_nil]
          obtain ⟨v, w2, a', cap, cv, hrun, cv2, hfz, hF2, hW2, cv3⟩ := hWH.out.push x hr (by have := h60H.out; omega)
          have cvo := cv.out
          have hruno := hrun.out
          have cv2o := cv2.out
          have hfzo := hfz.out
          have cv3o := cv3.out
          have heq : oj ++ [x] = o ++ ap θ (t.take (j + 1)) := by rw [hc2H.out, hth]
          have hW2' := hW2.out
          rw [heq] at hW2'
          have hlen : oj.length + 1 = (o ++ ap θ (t.take (j + 1))).length := by rw [← heq, List.length_append, List.length_singleton]
          have hll := hl2H.out
          rw [hth, List.length_append, List.length_singleton] at hll
          have hW2H := Lib.hid hW2'
          have hF2H := Lib.hid (hfH.out.trans hF2.out)
          have hlenH := Lib.hid hlen
          have hllH := Lib.hid hll
          clear hth hB hKx hW2 hF2 heq hW2' hlen hll cv hrun cv2 hfz cv3 cw
          obtain ⟨L, hL⟩ : ∃ L, oj.length = L := ⟨_, rfl⟩
          rw [hL] at hruno cv3o
          have hLH := Lib.hid hL
          by_cases h61 : L + 1 ≤ 60
          · have hd : decide ((60 : Int) < ((L + 1 : Nat) : Int)) = false := by simp; omega
            have hres : fullRel w0 xb mb nb a1 c1 s B θ xx wb ob KK o t w (.int .i64 ((j + 1 : Nat) : Int)) (w2.setCell ⟨ob, 0, none⟩ (.slice a' (L + 1) cap)) := ⟨j + 1, rfl, by omega, by rw [← hL]; exact hF2H.out, by rw [← hL]; exact hW2H.out, by rw [← hlenH.out, hL]; exact h61⟩
            have hresH := Lib.hid hres
            clear hres hL
            go_wp2_with (at_builtin; refine wpList_append_run rfl _ _ _ rfl rfl rfl hruno ?_)
            all_goals
              go_roundw
              case rel => exact hresH.out
              case measure => simp [intOf]; omega
          · have hd : decide ((60 : Int) < ((L + 1 : Nat) : Int)) = true := by simp; omega
            have hW2K := Lib.hid (show FulW w0 (w2.setCell ⟨ob, 0, none⟩ (.slice a' (L + 1) cap)) xb mb nb a1 c1 s B xx wb ob KK (o ++ ap θ (t.take (j + 1))) by rw [← hL]; exact hW2H.out)
            have hF2K := Lib.hid (show FB KK ob w (w2.setCell ⟨ob, 0, none⟩ (.slice a' (L + 1) cap)) by rw [← hL]; exact hF2H.out)
            have hlK := Lib.hid (show 60 < (o ++ ap θ t).length by have := hllH.out; omega)
            clear hL
            go_wp2_with (at_builtin; refine wpList_append_run rfl _ _ _ rfl rfl rfl hruno ?_)
            all_goals
              go_ret
              exact ⟨false, _, rfl, hF2K.out, hW2K.out, (fun h => by cases h), fun _ => hlK.out⟩
      · obtain rfl : j = t.length := by omega
        rw [List.take_length] at hW h60
        have hWH := Lib.hid hW
        have h60H := Lib.hid h60
        have hfH := Lib.hid hf
        clear hW h60 hf
        go_wp2_with fail
        go_ret
        exact ⟨true, _, rfl, hfH.out, hWH.out, fun _ => ⟨rfl, h60H.out⟩, fun h => by cases h⟩
end Go.Proofs.YtgkddhakhapjlaaDoor

/- Walks of package unify: full, made, Meet. -/
namespace Go.Proofs.YtgkddhakhapjlaaDoor
open Go Go.RowKit Go.Maps

theorem fulW_made {w0 w W : World} {xb mb nb : Nat} {a1 : Option Addr} {c1 : Nat} {s : Sg} {B : Bd} (hS : SolvW w0 w xb mb nb a1 c1 s B) (t1 t3 : TypeId)
    (hW : ((w.alloc (.cells #[.pointer (some ⟨xb, 0, none⟩)] t1)).alloc (.cells #[.slice none 0 0] 35)).alloc (.cells #[.func (.func 101) #[] #[.pointer (some ⟨w.heap.size, 0, none⟩), .pointer (some ⟨w.heap.size + 1 + 1, 0, none⟩), .pointer (some ⟨w.heap.size + 1, 0, none⟩)]] t3) = W) :
    FulW w0 W xb mb nb a1 c1 s B w.heap.size (w.heap.size + 1 + 1) (w.heap.size + 1) (w.heap.size + 1 + 1 + 1) [] ∧ Below w.heap.size w W := by
  have hb : Below w.heap.size w W := by rw [← hW]; exact below3 _ _ _ _
  have e1 : W.cell? ⟨w.heap.size, 0, none⟩ = some (.pointer (some ⟨xb, 0, none⟩)) := by rw [← hW]; clear hW; go_simp
  have e2 : W.cell? ⟨w.heap.size + 1 + 1, 0, none⟩ = some (.func (.func 101) #[] #[.pointer (some ⟨w.heap.size, 0, none⟩), .pointer (some ⟨w.heap.size + 1 + 1, 0, none⟩), .pointer (some ⟨w.heap.size + 1, 0, none⟩)]) := by rw [← hW]; clear hW; go_simp
  have hv : Boxed W (w.heap.size + 1) 35 (.slice none 0 0) := by
    rw [← hW]
    have := (Boxed.new (w.alloc (.cells #[.pointer (some ⟨xb, 0, none⟩)] t1)) 35 (.slice none 0 0)).alloc (.cells #[.func (.func 101) #[] #[.pointer (some ⟨w.heap.size, 0, none⟩), .pointer (some ⟨w.heap.size + 1 + 1, 0, none⟩), .pointer (some ⟨w.heap.size + 1, 0, none⟩)]] t3)
    rw [World.size_alloc] at this
    exact this
  have hx := hS.lt
  have hm := hS.map.lt
  have hz := hS.bel.size
  have hsz : W.heap.size = w.heap.size + 1 + 1 + 1 := by rw [← hW]; simp
  exact ⟨⟨hS.below hb, e1, e2, ⟨by omega, by omega, by omega, by omega, by omega⟩, ⟨by omega, by omega, by omega, by omega⟩, by omega, ⟨_, hv, .nil _ _ _ _ _⟩, by omega⟩, hb⟩
set_option maxRecDepth 20000 in
set_option maxHeartbeats 4000000 in
theorem full_any {w0 w : World} {xb mb nb : Nat} {a1 : Option Addr} {c1 : Nat} {s : Sg} {B : Bd} {θ : Int → List Int} {ρ : Int → Nat} (hS : SolvW w0 w xb mb nb a1 c1 s B) (hSl : Slv s B θ ρ) {a : Option Addr} {c : Nat} {t : List Int} (ht : T0 w0 a c t) :
    Calls Tryd.prog 81 #[.pointer (some ⟨xb, 0, none⟩), .slice a t.length c] w fun e w' => ∃ v r o', e = .returned (.tuple #[v, .bool r]) ∧ OwnI w' w.heap.size v o' ∧ Below w.heap.size w w' ∧ (r = true → o' = ap θ t ∧ o'.length ≤ 60) ∧ (r = false → 60 < (ap θ t).length) := by
  obtain ⟨K, hK⟩ := rank_bound ρ t
  have hSH := Lib.hid hS
  have m2 := ht.le
  have key := fun xx wb ob KK W => full1_any (w0 := w0) (xb := xb) (mb := mb) (nb := nb) (a1 := a1) (c1 := c1) hSl xx wb ob KK K t a c [] W hK ht
  have keyH := Lib.hid key
  clear key hS
  go_enter Tryd.func81, Tryd.ntmps81
  go_wp2_with fail
  obtain ⟨hF, hB⟩ := fulW_made hSH.out _ _ rfl
  (with_reducible refine (keyH.out _ _ _ _ _ hF (by decide)).mono ?_)
  rintro e w3 ⟨r, o', rfl, hf3, hW3, ht3, hn3⟩
  rw [List.nil_append] at hn3
  simp only [List.nil_append] at ht3
  obtain ⟨v, hv, ho⟩ := hW3.box
  have hcv := hv.cell
  have hoH := Lib.hid (OwnL.baseMono (base' := w.heap.size) ho (by omega))
  have hBH := Lib.hid (hB.trans (hf3.below (C := w.heap.size) (by omega) (by omega)))
  have htH := Lib.hid ht3
  have hnH := Lib.hid hn3
  clear hF hB hf3 hW3 ht3 hn3 hv ho
  go_wp2_with fail
  go_ret2
  exact ⟨v, r, o', rfl, hoH.out, hBH.out, htH.out, hnH.out⟩
set_option maxHeartbeats 2000000 in
theorem made_any {w0 w : World} {xb mb nb : Nat} {a1 : Option Addr} {c1 : Nat} {s : Sg} {B : Bd} {θ : Int → List Int} {ρ : Int → Nat} (hS : SolvW w0 w xb mb nb a1 c1 s B) (hSl : Slv s B θ ρ) {a : Option Addr} {c : Nat} {t : List Int} (ht : T0 w0 a c t) :
    Calls Tryd.prog 64 #[.pointer (some ⟨xb, 0, none⟩), .slice a t.length c] w (retE (madeE θ t) w) := by
  have m2 := ht.le
  have cf := full_any hS hSl ht
  have cfH := Lib.hid cf
  clear cf hS hSl ht
  go_enter Tryd.func64, Tryd.ntmps64
  go_wp2_with fail
  refine cfH.out.mono ?_
  rintro e w1 ⟨v, r, o, rfl, ho, hb1, ht, hn⟩
  clear cfH
  cases r with
  | false =>
    have hl := hn rfl
    have hm : madeE θ t = ([], 4) := by unfold madeE; exact if_neg (fun h => by omega)
    have hmH := Lib.hid hm
    clear ht hn ho hl hm
    go_wp2_with fail
    go_ret2
    exact ⟨_, by rw [hmH.out]; rfl, by rw [hmH.out]; exact .nil _ _ _ _ _, hb1⟩
  | true =>
    obtain ⟨he, h60⟩ := ht rfl
    obtain ⟨a4, c4, rfl, hI⟩ := OwnI.ints ho
    have cn := named_any a4 c4 _ _ hI (by unfold lim; omega)
    have cnH := Lib.hid cn
    have hm : madeE θ t = if (varsC o).length ≤ 12 then (canon o, 0) else ([], 4) := by
      unfold madeE
      rw [← he]
      by_cases h12 : (varsC o).length ≤ 12
      · rw [if_pos h12, if_pos ⟨h60, h12⟩]
      · rw [if_neg h12, if_neg (fun h => h12 h.2)]
    have hml := hI.le
    clear ht hn ho h60 hI cn he
    by_cases h12 : (varsC o).length ≤ 12
    · rw [if_pos h12] at hm
      have hmH := Lib.hid hm
      clear hm
      have hd : decide ((varsC o).length ≤ 12) = true := by simpa using h12
      rw [hd] at cnH
      clear hd h12
      go_wp2_with fail
      refine cnH.out.mono ?_
      rintro e w2 ⟨v, rfl, ho, hb2⟩
      obtain ⟨a5, c5, rfl, hI5⟩ := OwnI.ints ho
      have hoH := Lib.hid (OwnL.baseMono (base' := w.heap.size) ho hb1.size)
      clear ho hI5 cnH
      go_wp2_with fail
      go_ret2
      exact ⟨_, by rw [hmH.out]; rfl, by rw [hmH.out]; exact hoH.out, bcall hb1 hb2⟩
    · rw [if_neg h12] at hm
      have hmH := Lib.hid hm
      clear hm
      have hd : decide ((varsC o).length ≤ 12) = false := by simpa using h12
      rw [hd] at cnH
      clear hd h12
      go_wp2_with fail
      refine cnH.out.mono ?_
      rintro e w2 ⟨v, rfl, ho, hb2⟩
      clear ho cnH
      go_wp2_with fail
      go_ret2
      exact ⟨_, by rw [hmH.out]; rfl, by rw [hmH.out]; exact .nil _ _ _ _ _, bcall hb1 hb2⟩
theorem retE.below {r : List Int × Int} {w w1 : World} {e : Ending} {w' : World} (h : retE r w1 e w') (hb : Below w.heap.size w w1) : retE r w e w' := by
  obtain ⟨v, h1, h2, h3⟩ := h
  exact ⟨v, h1, OwnL.baseMono h2 hb.size, bcall hb h3⟩
end Go.Proofs.YtgkddhakhapjlaaDoor

/- Walks of package kernel: steps in memory; right, valid, ValidGivens, asked. -/
namespace Go.Proofs.YtgkddhakhapjlaaDoor
open Go Go.RowKit Go.Maps

/-- struct { Kind, A, B int } -/
def stpE : Enc Stp := pairE intE (pairE intE intE)
abbrev Steps := Sl stpE
abbrev stpV (x : Stp) : Value := .agg #[.int .i64 x.1, .int .i64 x.2.1, .int .i64 x.2.2]
def stpR (x : Stp) : Prop := inRange x.1 ∧ inRange x.2.1 ∧ inRange x.2.2
theorem Sl.stp {S : Nat → Prop} {w : World} {a : Option Addr} {c : Nat} {l : List Stp} (h : Steps S w a c l) (i : Nat) (hi : i < l.length) :
    ∃ b off, a = some ⟨b, off, none⟩ ∧ S b ∧ w.cell? ⟨b, off + i * 3, none⟩ = some (.int .i64 l[i].1) ∧ w.cell? ⟨b, off + i * 3 + 1, none⟩ = some (.int .i64 l[i].2.1) ∧ w.cell? ⟨b, off + i * 3 + 2, none⟩ = some (.int .i64 l[i].2.2) ∧ stpR l[i] := by
  obtain ⟨b, off, ha, hb, _, vs, _, hv, hr⟩ := h.at1 i hi
  obtain ⟨us, ts, rfl, ⟨rfl, h1⟩, us', ts', rfl, ⟨rfl, h2⟩, ⟨rfl, h3⟩⟩ := hr
  have h0 := hv 0 (by simp)
  have h4 := hv 1 (by simp)
  have h5 := hv 2 (by simp)
  simp [stpE, pairE, intE] at h0 h4 h5
  exact ⟨b, off, ha, hb, h0, h4, h5, h1, h2, h3⟩

theorem kwithin_any (n lo hi : Int) (w : World) :
    Calls Tryd.prog 35 #[.int .i64 n, .int .i64 lo, .int .i64 hi] w fun e w' => e = .returned (.bool (decide (lo ≤ n) && decide (n ≤ hi))) ∧ w = w' := by
  go_enter Tryd.func35, Tryd.ntmps35
  go_wp2
  all_goals go_ret
  all_goals exact ⟨ret_bool (by simp; omega), rfl⟩

set_option maxHeartbeats 1000000 in
theorem right_any (G : Int) (n : Nat) (x : Stp) (w : World) (h0 : 0 ≤ G) (h1 : G ≤ 1000000) (hn : n ≤ 9223372036854775807) :
    Calls Tryd.prog 77 #[.int .i64 G, .int .i64 n, stpV x] w fun e w' => e = .returned (.bool (rightB G n x)) ∧ Below w.heap.size w w' := by
  obtain ⟨k, A, B⟩ := x
  have e1 : IntKind.i64.wrap (G - 1) = G - 1 := IntWalk.i64_in _ (by omega)
  have e2 : IntKind.i64.wrap ((n : Int) - 1) = (n : Int) - 1 := IntWalk.i64_in _ (by omega)
  have hb := below1 w (.cells #[.int .i64 k, .int .i64 A, .int .i64 B] 69)
  have c1 := fun W => kwithin_any A 0 (G - 1) W
  have c2 := fun W => kwithin_any A 0 ((n : Int) - 1) W
  have c3 := fun W => kwithin_any B 0 ((n : Int) - 1) W
  by_cases hk1 : k = 1
  · subst hk1
    have hR : rightB G n (1, A, B) = ((decide (0 ≤ A) && decide (A ≤ G - 1)) && decide (B = 0)) := by simp [rightB]
    obtain ⟨y, hy⟩ : ∃ y, (decide (0 ≤ A) && decide (A ≤ G - 1)) = y := ⟨_, rfl⟩
    rw [hy] at c1 hR
    have c1H := Lib.hid c1
    have hRH := Lib.hid hR
    clear c1 c2 c3 hR hy
    cases y with
    | false =>
      go_enter Tryd.func77, Tryd.ntmps77
      go_wp2_with (go_at_call 35; refine (c1H.out _).mono ?_; rintro e w1 ⟨rfl, rfl⟩)
      go_ret
      exact ⟨by rw [hRH.out]; rfl, hb⟩
    | true =>
      by_cases hB : B = 0
      · subst hB
        go_enter Tryd.func77, Tryd.ntmps77
        go_wp2_with (go_at_call 35; refine (c1H.out _).mono ?_; rintro e w1 ⟨rfl, rfl⟩)
        go_ret
        exact ⟨by rw [hRH.out]; rfl, hb⟩
      · have hBb : (B == 0) = false := by simpa using hB
        go_enter Tryd.func77, Tryd.ntmps77
        go_wp2_with (go_at_call 35; refine (c1H.out _).mono ?_; rintro e w1 ⟨rfl, rfl⟩)
        go_ret
        exact ⟨by rw [hRH.out, decide_eq_false hB]; rfl, hb⟩
  · have hk1b : (k == 1) = false := by simpa using hk1
    by_cases hk2 : k = 2
    · subst hk2
      have hR : rightB G n (2, A, B) = ((decide (0 ≤ A) && decide (A ≤ (n : Int) - 1)) && (decide (0 ≤ B) && decide (B ≤ (n : Int) - 1))) := by simp [rightB]
      obtain ⟨y, hy⟩ : ∃ y, (decide (0 ≤ A) && decide (A ≤ (n : Int) - 1)) = y := ⟨_, rfl⟩
      obtain ⟨z, hz⟩ : ∃ y, (decide (0 ≤ B) && decide (B ≤ (n : Int) - 1)) = y := ⟨_, rfl⟩
      rw [hy] at c2 hR
      rw [hz] at c3 hR
      have c2H := Lib.hid c2
      have c3H := Lib.hid c3
      have hRH := Lib.hid hR
      clear c1 c2 c3 hR hy hz hk1b
      cases y with
      | false =>
        go_enter Tryd.func77, Tryd.ntmps77
        go_wp2_with fail
        refine (c2H.out _).mono ?_
        rintro e w1 ⟨rfl, rfl⟩
        go_wp2_with fail
        go_ret
        exact ⟨by rw [hRH.out]; rfl, hb⟩
      | true =>
        go_enter Tryd.func77, Tryd.ntmps77
        go_wp2_with fail
        refine (c2H.out _).mono ?_
        rintro e w1 ⟨rfl, rfl⟩
        go_wp2_with fail
        refine (c3H.out _).mono ?_
        rintro e w1 ⟨rfl, rfl⟩
        go_wp2_with fail
        go_ret
        exact ⟨by rw [hRH.out]; rfl, hb⟩
    · have hk2b : (k == 2) = false := by simpa using hk2
      have hR : rightB G n (k, A, B) = false := by simp [rightB, hk1, hk2]
      go_enter Tryd.func77, Tryd.ntmps77
      go_wp2_with fail
      go_ret
      exact ⟨by rw [hR]; rfl, hb⟩
theorem okSteps_snoc {G : Int} : ∀ (p : List Stp) (n : Nat) (x : Stp), okSteps G n (p ++ [x]) = (okSteps G n p && rightB G (n + p.length) x)
  | [], n, x => by simp [okSteps]
  | y :: p, n, x => by
    rw [List.cons_append, okSteps, okSteps, okSteps_snoc p (n + 1) x, Bool.and_assoc, List.length_cons, show n + 1 + p.length = n + (p.length + 1) by omega]
theorem okSteps_take {G : Int} : ∀ (p : List Stp) (n k : Nat), okSteps G n p = true → okSteps G n (p.take k) = true
  | [], _, _, _ => by simp [okSteps]
  | x :: p, n, 0, _ => rfl
  | x :: p, n, k + 1, h => by
    simp only [okSteps, Bool.and_eq_true] at h
    rw [List.take_succ_cons, okSteps, Bool.and_eq_true]
    exact ⟨h.1, okSteps_take p (n + 1) k h.2⟩
set_option maxHeartbeats 1000000 in
theorem kvalid_any {S : Nat → Prop} (G : Int) (a : Option Addr) (c : Nat) (p : List Stp) (w : World) (h : Steps S w a c p) (h0 : 0 ≤ G) (h1 : G ≤ 1000000) :
    Calls Tryd.prog 57 #[.int .i64 G, .slice a p.length c] w fun e w' => e = .returned (.bool (validP G p)) ∧ Below w.heap.size w w' := by
  have m := h.le
  go_enter Tryd.func57, Tryd.ntmps57
  go_wp2_with fail
  go_loopw [9] (fun i wr => ∃ k : Nat, k ≤ p.length ∧ i = .int .i64 k ∧ okSteps G 0 (p.take k) = true ∧ Below w.heap.size w wr) (fun i _ => p.length - (intOf i).toNat)
  case atStart => exact ⟨0, Nat.zero_le _, rfl, rfl, .refl _ _⟩
  case round =>
    obtain ⟨k, hk, rfl, hall, hB⟩ := hrel
    by_cases hlt : k < p.length
    · obtain ⟨b, o, rfl, -, q0, q1, q2, hr⟩ := (h.below hB).stp k hlt
      have hstep := okSteps_snoc (G := G) (p.take k) 0 p[k]
      rw [List.length_take, Nat.min_eq_left (by omega), Nat.zero_add, ← List.take_succ_eq_append_getElem hlt, hall, Bool.true_and] at hstep
      have cr := fun W => right_any G k p[k] W h0 h1 (by omega)
      obtain ⟨x, hx⟩ : ∃ x, p[k] = x := ⟨_, rfl⟩
      obtain ⟨y, hy⟩ : ∃ y, rightB G k p[k] = y := ⟨_, rfl⟩
      rw [hy] at hstep cr
      rw [hx] at cr q0 q1 q2
      obtain ⟨x1, x2, x3⟩ := x
      simp only at q0 q1 q2
      have hb2 := fun W => below1 W (.cells #[.int .i64 x1, .int .i64 x2, .int .i64 x3] 69)
      have crH := Lib.hid cr
      have hstH := Lib.hid hstep
      have hBH := Lib.hid hB
      clear cr hstep hB hall hx hy h
      cases y with
      | true =>
        go_wp2_with (go_at_call 77; refine (crH.out _).mono ?_; rintro e w1 ⟨rfl, hb⟩)
        go_roundw
        case rel => exact ⟨k + 1, by omega, by go_num, hstH.out, bcall hBH.out (bcall (hb2 _) hb)⟩
        case measure => simp [intOf]; omega
      | false =>
        go_wp2_with (go_at_call 77; refine (crH.out _).mono ?_; rintro e w1 ⟨rfl, hb⟩)
        go_ret
        have hf : validP G p = false := by
          unfold validP
          cases ho : okSteps G 0 p with
          | false => rfl
          | true => have := okSteps_take p 0 (k + 1) ho; rw [hstH.out] at this; cases this
        exact ⟨ret_bool hf.symm, bcall hBH.out (bcall (hb2 _) hb)⟩
    · rw [List.take_of_length_le (by omega)] at hall
      have cw := fun W => kwithin_any (p.length : Int) 1 60 W
      have hf : (decide ((1 : Int) ≤ p.length) && decide ((p.length : Int) ≤ 60)) = validP G p := by
        unfold validP
        rw [hall, Bool.true_and, Bool.eq_iff_iff]
        simp only [Bool.and_eq_true, decide_eq_true_eq]
        omega
      rw [hf] at cw
      have cwH := Lib.hid cw
      clear hall cw hf
      go_wp2_with (go_at_call 35; refine (cwH.out _).mono ?_; rintro e w1 ⟨rfl, rfl⟩)
      go_ret
      exact ⟨rfl, hB⟩

set_option maxHeartbeats 1000000 in
theorem IndexVG_any {S1 S2 : Nat → Prop} (a1 a2 : Option Addr) (c1 c2 : Nat) (s : Sg) (L : List (List Int)) (bx : Nat) (w : World) (h1 : Sign S1 w a1 c1 s) (h2 : Terms S2 w a2 c2 L) (hq : w.cell? ⟨bx, 0, none⟩ = some (.slice a1 s.length c1)) :
    Calls Tryd.prog 102 #[.slice a2 L.length c2, .func (.func 84) #[] #[.pointer (some ⟨bx, 0, none⟩)]] w (idxTPost s L w) := by
  have m2 := h2.le
  have hbx : bx < w.heap.size := World.block_lt_of_cell? w _ hq
  go_enter Tryd.func102, Tryd.ntmps102
  go_wp2_with fail
  go_loopw [8] (fun i wr => ∃ k : Nat, k ≤ L.length ∧ i = .int .i64 k ∧ (L.take k).all (okT s) = true ∧ Below w.heap.size w wr) (fun i _ => L.length - (intOf i).toNat)
  case atStart => exact ⟨0, Nat.zero_le _, rfl, rfl, .refl _ _⟩
  case round =>
    obtain ⟨k, hk, rfl, hall, hB⟩ := hrel
    by_cases hlt : k < L.length
    · obtain ⟨b, o, a', c', rfl, -, q, hI⟩ := h2.sub k hlt
      have q' := (hB.cell (p := ⟨b, o + k, none⟩) (World.block_lt_of_cell? _ _ q)).trans q
      have hq' := (hB.cell (p := ⟨bx, 0, none⟩) hbx).trans hq
      have v1 := Valid_any a1 a' c1 c' s L[k] wr (h1.below hB) (hI.below hB)
      obtain ⟨x, hx⟩ : ∃ x, okT s L[k] = x := ⟨_, rfl⟩
      rw [hx] at v1
      have cf : Calls Tryd.prog 84 #[.slice a' L[k].length c', .pointer (some ⟨bx, 0, none⟩)] wr fun e w' => e = .returned (.bool (!x)) ∧ Below wr.heap.size wr w' := by
        have v1H := Lib.hid v1
        clear v1 hI h1 h2 hx hB hall q hq
        go_enter Tryd.func84, Tryd.ntmps84
        go_wp2_with (go_at_call 32; refine v1H.out.mono ?_; rintro e w1 ⟨rfl, hb⟩)
        go_ret
        exact ⟨rfl, hb⟩
      have cfH := Lib.hid cf
      have hallH := Lib.hid hall
      have hxH := Lib.hid hx
      have hBH := Lib.hid hB
      clear v1 cf hall hI h1 h2 hx hB q hq
      cases x with
      | true =>
        go_wp2_with (go_at_call 84; refine cfH.out.mono ?_; rintro e w1 ⟨rfl, hb⟩)
        go_roundw
        case rel => exact ⟨k + 1, by omega, by go_num, by rw [List.take_succ_eq_append_getElem hlt, List.all_append, hallH.out]; simp [hxH.out], hBH.out.trans (hb.mono hBH.out.size)⟩
        case measure => simp [intOf]; omega
      | false =>
        go_wp2_with (go_at_call 84; refine cfH.out.mono ?_; rintro e w1 ⟨rfl, hb⟩)
        go_ret
        have hf : L.all (okT s) = false := by rw [List.all_eq_false]; exact ⟨L[k], List.getElem_mem hlt, by rw [hxH.out]; simp⟩
        exact ⟨k, rfl, by omega, by rw [hf]; simp, hBH.out.trans (hb.mono hBH.out.size)⟩
    · rw [List.take_of_length_le (by omega)] at hall
      have hallH := Lib.hid hall
      clear hall
      go_wp2_with fail
      go_ret
      exact ⟨-1, rfl, by omega, by rw [hallH.out]; rfl, hB⟩
set_option maxHeartbeats 1000000 in
theorem ContainsVG_any {S1 S2 : Nat → Prop} (a1 a2 : Option Addr) (c1 c2 : Nat) (s : Sg) (L : List (List Int)) (bx : Nat) (w : World) (h1 : Sign S1 w a1 c1 s) (h2 : Terms S2 w a2 c2 L) (hq : w.cell? ⟨bx, 0, none⟩ = some (.slice a1 s.length c1)) :
    Calls Tryd.prog 83 #[.slice a2 L.length c2, .func (.func 84) #[] #[.pointer (some ⟨bx, 0, none⟩)]] w fun e w' => e = .returned (.bool (!(L.all (okT s)))) ∧ Below w.heap.size w w' := by
  have ci := IndexVG_any a1 a2 c1 c2 s L bx w h1 h2 hq
  have ciH := Lib.hid ci
  clear ci h1 h2 hq
  go_enter Tryd.func83, Tryd.ntmps83
  go_wp2_with (go_at_call 102; refine ciH.out.mono ?_; rintro e w' ⟨n, rfl, hn, hn2, hb⟩; have hn2H := Lib.hid hn2; clear hn2)
  go_ret
  exact ⟨ret_bool hn2H.out, hb⟩
set_option maxHeartbeats 1000000 in
theorem ValidGivens_any {S1 S2 : Nat → Prop} (a1 a2 : Option Addr) (c1 c2 : Nat) (s : Sg) (L : List (List Int)) (w : World) (h1 : Sign S1 w a1 c1 s) (h2 : Terms S2 w a2 c2 L) :
    Calls Tryd.prog 68 #[.slice a1 s.length c1, .slice a2 L.length c2] w fun e w' => e = .returned (.bool (givensB s L)) ∧ Below w.heap.size w w' := by
  have m2 := h2.le
  have hb0 := below1 w (.cells #[.slice a1 s.length c1] 23)
  have q0 : (w.alloc (.cells #[.slice a1 s.length c1] 23)).cell? ⟨w.heap.size, 0, none⟩ = some (.slice a1 s.length c1) := by go_simp
  have v1 := ValidSign_any a1 c1 s (w.alloc (.cells #[.slice a1 s.length c1] 23)) (h1.below hb0)
  have v2 := fun W (hb : Below w.heap.size w W) hq => ContainsVG_any a1 a2 c1 c2 s L w.heap.size W (h1.below hb) (h2.below hb) hq
  have hg : givensB s L = (okSign s && decide (L.length ≤ 60) && L.all (okT s)) := rfl
  obtain ⟨x, hx⟩ : ∃ x, okSign s = x := ⟨_, rfl⟩
  obtain ⟨y, hy⟩ : ∃ x, L.all (okT s) = x := ⟨_, rfl⟩
  rw [hx] at v1 hg
  rw [hy] at v2 hg
  have v1H := Lib.hid v1
  have v2H := Lib.hid v2
  have hgH := Lib.hid hg
  have hb0H := Lib.hid hb0
  clear v1 v2 h1 h2 hx hy hg hb0
  cases x with
  | false =>
    go_enter Tryd.func68, Tryd.ntmps68
    go_wp2_with fail
    refine v1H.out.mono ?_
    rintro e w1 ⟨rfl, hb1⟩
    go_wp2_with fail
    go_ret
    exact ⟨by rw [hgH.out]; rfl, bcall hb0H.out hb1⟩
  | true =>
    by_cases h60 : L.length ≤ 60
    · have hd : decide ((L.length : Int) ≤ 60) = true := by simp; omega
      go_enter Tryd.func68, Tryd.ntmps68
      go_wp2_with fail
      refine v1H.out.mono ?_
      rintro e w1 ⟨rfl, hb1⟩
      have q1 := cell_later hb1 q0
      have hb1 := bcall hb0H.out hb1
      go_wp2_with fail
      refine (v2H.out _ hb1 q1).mono ?_
      rintro e w2 ⟨rfl, hb2⟩
      go_wp2_with fail
      go_ret
      exact ⟨by rw [hgH.out, decide_eq_true h60]; simp, bcall hb1 hb2⟩
    · have hd : decide ((L.length : Int) ≤ 60) = false := by simp; omega
      go_enter Tryd.func68, Tryd.ntmps68
      go_wp2_with fail
      refine v1H.out.mono ?_
      rintro e w1 ⟨rfl, hb1⟩
      go_wp2_with fail
      go_ret
      exact ⟨by rw [hgH.out, decide_eq_false h60]; rfl, bcall hb0H.out hb1⟩
set_option maxHeartbeats 1000000 in
theorem asked_any {S1 S2 S3 : Nat → Prop} (a1 a2 a3 : Option Addr) (c1 c2 c3 : Nat) (s : Sg) (L : List (List Int)) (p : List Stp) (w : World) (h1 : Sign S1 w a1 c1 s) (h2 : Terms S2 w a2 c2 L) (h3 : Steps S3 w a3 c3 p) :
    Calls Tryd.prog 41 #[.slice a1 s.length c1, .slice a2 L.length c2, .slice a3 p.length c3] w fun e w' => e = .returned (.bool (askedB s L p)) ∧ Below w.heap.size w w' := by
  have m2 := h2.le
  have m3 := h3.le
  have v1 := ValidGivens_any a1 a2 c1 c2 s L w h1 h2
  have v2 : L.length ≤ 60 → ∀ W, Below w.heap.size w W → _ := fun hl W hb => kvalid_any (L.length : Int) a3 c3 p W (h3.below hb) (by omega) (by omega)
  have hg : askedB s L p = (givensB s L && validP L.length p) := rfl
  have hl : givensB s L = true → L.length ≤ 60 := fun h => (givensB_parts h).2.1
  obtain ⟨x, hx⟩ : ∃ x, givensB s L = x := ⟨_, rfl⟩
  rw [hx] at v1 hg hl
  have v1H := Lib.hid v1
  have v2H := Lib.hid v2
  have hgH := Lib.hid hg
  have hlH := Lib.hid hl
  clear v1 v2 h1 h2 h3 hx hg hl
  cases x with
  | false =>
    go_enter Tryd.func41, Tryd.ntmps41
    go_wp2_with fail
    refine v1H.out.mono ?_
    rintro e w1 ⟨rfl, hb1⟩
    go_wp2_with fail
    go_ret
    exact ⟨by rw [hgH.out]; rfl, hb1⟩
  | true =>
    go_enter Tryd.func41, Tryd.ntmps41
    go_wp2_with fail
    refine v1H.out.mono ?_
    rintro e w1 ⟨rfl, hb1⟩
    go_wp2_with fail
    refine (v2H.out (hlH.out trivial) _ hb1).mono ?_
    rintro e w2 ⟨rfl, hb2⟩
    go_wp2_with fail
    go_ret
    exact ⟨by rw [hgH.out]; simp, bcall hb1 hb2⟩
end Go.Proofs.YtgkddhakhapjlaaDoor

/- Walks: ValidProof (both), SameSteps. -/
namespace Go.Proofs.YtgkddhakhapjlaaDoor
open Go Go.RowKit Go.Maps

theorem r4within_any (n lo hi : Int) (w : World) :
    Calls Tryd.prog 39 #[.int .i64 n, .int .i64 lo, .int .i64 hi] w fun e w' => e = .returned (.bool (decide (lo ≤ n) && decide (n ≤ hi))) ∧ w = w' := by
  go_enter Tryd.func39, Tryd.ntmps39
  go_wp2
  all_goals go_ret
  all_goals exact ⟨ret_bool (by simp; omega), rfl⟩
theorem isCount_any (n : Int) (w : World) :
    Calls Tryd.prog 38 #[.int .i64 n] w fun e w' => e = .returned (.bool (decide (0 ≤ n) && decide (n ≤ 60))) ∧ w = w' := by
  have h := Lib.hid (r4within_any n 0 60 w)
  go_enter Tryd.func38, Tryd.ntmps38
  go_wp2_with fail
  refine h.out.mono ?_
  rintro e w1 ⟨rfl, rfl⟩
  go_wp2_with fail
  go_ret
  exact ⟨rfl, rfl⟩
set_option maxHeartbeats 1000000 in
theorem stepRight_any (G : Int) (n : Nat) (x : Stp) (w : World) (h0 : 0 ≤ G) (h1 : G ≤ 1000000) (hn : n ≤ 9223372036854775807) :
    Calls Tryd.prog 58 #[.int .i64 G, stpV x, .int .i64 n] w fun e w' => e = .returned (.bool (rightB G n x)) ∧ Below w.heap.size w w' := by
  obtain ⟨k, A, B⟩ := x
  have e1 : IntKind.i64.wrap (G - 1) = G - 1 := IntWalk.i64_in _ (by omega)
  have e2 : IntKind.i64.wrap ((n : Int) - 1) = (n : Int) - 1 := IntWalk.i64_in _ (by omega)
  have hb := below1 w (.cells #[.int .i64 k, .int .i64 A, .int .i64 B] 69)
  have c1 := fun W => r4within_any A 0 (G - 1) W
  have c2 := fun W => r4within_any A 0 ((n : Int) - 1) W
  have c3 := fun W => r4within_any B 0 ((n : Int) - 1) W
  by_cases hk1 : k = 1
  · subst hk1
    have hR : rightB G n (1, A, B) = ((decide (0 ≤ A) && decide (A ≤ G - 1)) && decide (B = 0)) := by simp [rightB]
    obtain ⟨y, hy⟩ : ∃ y, (decide (0 ≤ A) && decide (A ≤ G - 1)) = y := ⟨_, rfl⟩
    rw [hy] at c1 hR
    have c1H := Lib.hid c1
    have hRH := Lib.hid hR
    clear c1 c2 c3 hR hy
    cases y with
    | false =>
      go_enter Tryd.func58, Tryd.ntmps58
      go_wp2_with (go_at_call 39; refine (c1H.out _).mono ?_; rintro e w1 ⟨rfl, rfl⟩)
      go_ret
      exact ⟨by rw [hRH.out]; rfl, hb⟩
    | true =>
      by_cases hB : B = 0
      · subst hB
        go_enter Tryd.func58, Tryd.ntmps58
        go_wp2_with (go_at_call 39; refine (c1H.out _).mono ?_; rintro e w1 ⟨rfl, rfl⟩)
        go_ret
        exact ⟨by rw [hRH.out]; rfl, hb⟩
      · have hBb : (B == 0) = false := by simpa using hB
        go_enter Tryd.func58, Tryd.ntmps58
        go_wp2_with (go_at_call 39; refine (c1H.out _).mono ?_; rintro e w1 ⟨rfl, rfl⟩)
        go_ret
        exact ⟨by rw [hRH.out, decide_eq_false hB]; rfl, hb⟩
  · have hk1b : (k == 1) = false := by simpa using hk1
    by_cases hk2 : k = 2
    · subst hk2
      have hR : rightB G n (2, A, B) = ((decide (0 ≤ A) && decide (A ≤ (n : Int) - 1)) && (decide (0 ≤ B) && decide (B ≤ (n : Int) - 1))) := by simp [rightB]
      obtain ⟨y, hy⟩ : ∃ y, (decide (0 ≤ A) && decide (A ≤ (n : Int) - 1)) = y := ⟨_, rfl⟩
      obtain ⟨z, hz⟩ : ∃ y, (decide (0 ≤ B) && decide (B ≤ (n : Int) - 1)) = y := ⟨_, rfl⟩
      rw [hy] at c2 hR
      rw [hz] at c3 hR
      have c2H := Lib.hid c2
      have c3H := Lib.hid c3
      have hRH := Lib.hid hR
      clear c1 c2 c3 hR hy hz hk1b
      cases y with
      | false =>
        go_enter Tryd.func58, Tryd.ntmps58
        go_wp2_with fail
        refine (c2H.out _).mono ?_
        rintro e w1 ⟨rfl, rfl⟩
        go_wp2_with fail
        go_ret
        exact ⟨by rw [hRH.out]; rfl, hb⟩
      | true =>
        go_enter Tryd.func58, Tryd.ntmps58
        go_wp2_with fail
        refine (c2H.out _).mono ?_
        rintro e w1 ⟨rfl, rfl⟩
        go_wp2_with fail
        refine (c3H.out _).mono ?_
        rintro e w1 ⟨rfl, rfl⟩
        go_wp2_with fail
        go_ret
        exact ⟨by rw [hRH.out]; rfl, hb⟩
    · have hk2b : (k == 2) = false := by simpa using hk2
      have hR : rightB G n (k, A, B) = false := by simp [rightB, hk1, hk2]
      go_enter Tryd.func58, Tryd.ntmps58
      go_wp2_with fail
      go_ret
      exact ⟨by rw [hR]; rfl, hb⟩
set_option maxHeartbeats 1000000 in
theorem ValidProof_any {S : Nat → Prop} (G : Int) (a : Option Addr) (c : Nat) (p : List Stp) (w : World) (h : Steps S w a c p) :
    Calls Tryd.prog 29 #[.int .i64 G, .slice a p.length c] w fun e w' => e = .returned (.bool (proofB G p)) ∧ Below w.heap.size w w' := by
  have m := h.le
  have v1 := kwithin_any G 0 60 w
  cases hx : (decide (0 ≤ G) && decide (G ≤ 60)) with
  | false =>
    rw [hx] at v1
    have hr : proofB G p = false := by unfold proofB; rw [hx]; rfl
    have v1H := Lib.hid v1
    clear v1 h hx
    go_enter Tryd.func29, Tryd.ntmps29
    go_wp2_with fail
    refine v1H.out.mono ?_
    rintro e w1 ⟨rfl, rfl⟩
    go_wp2_with fail
    go_ret
    exact ⟨by rw [hr]; rfl, .refl _ _⟩
  | true =>
    rw [hx] at v1
    have hr : proofB G p = validP G p := by unfold proofB; rw [hx]; rfl
    simp only [Bool.and_eq_true, decide_eq_true_eq] at hx
    have v2 := kvalid_any G a c p w h hx.1 (by omega)
    have v1H := Lib.hid v1
    have v2H := Lib.hid v2
    clear v1 v2 h hx
    go_enter Tryd.func29, Tryd.ntmps29
    go_wp2_with fail
    refine v1H.out.mono ?_
    rintro e w1 ⟨rfl, rfl⟩
    go_wp2_with fail
    refine v2H.out.mono ?_
    rintro e w1 ⟨rfl, hb⟩
    go_wp2_with fail
    go_ret
    exact ⟨by rw [hr]; rfl, hb⟩
set_option maxHeartbeats 1000000 in
theorem rValidProof_any {S : Nat → Prop} (G : Int) (a : Option Addr) (c : Nat) (p : List Stp) (w : World) (h : Steps S w a c p) :
    Calls Tryd.prog 31 #[.int .i64 G, .slice a p.length c] w fun e w' => e = .returned (.bool (proofB G p)) ∧ Below w.heap.size w w' := by
  have m := h.le
  have v1 := isCount_any G w
  have v2 := r4within_any (p.length : Int) 1 60 w
  cases hx : (decide (0 ≤ G) && decide (G ≤ 60)) with
  | false =>
    rw [hx] at v1
    have hr : proofB G p = false := by unfold proofB; rw [hx]; rfl
    have v1H := Lib.hid v1
    clear v1 v2 h hx
    go_enter Tryd.func31, Tryd.ntmps31
    go_wp2_with fail
    refine v1H.out.mono ?_
    rintro e w1 ⟨rfl, rfl⟩
    go_wp2_with fail
    go_ret
    exact ⟨by rw [hr]; rfl, .refl _ _⟩
  | true =>
    cases hy : (decide ((1 : Int) ≤ p.length) && decide ((p.length : Int) ≤ 60)) with
    | false =>
      rw [hx] at v1
      rw [hy] at v2
      have hr : proofB G p = false := by
        unfold proofB validP
        have : (decide (1 ≤ p.length) && decide (p.length ≤ 60)) = false := by
          rw [← hy, Bool.eq_iff_iff]; simp only [Bool.and_eq_true, decide_eq_true_eq]; omega
        rw [this, Bool.and_false, Bool.and_false]
      have v1H := Lib.hid v1
      have v2H := Lib.hid v2
      clear v1 v2 h hx hy
      go_enter Tryd.func31, Tryd.ntmps31
      go_wp2_with fail
      refine v1H.out.mono ?_
      rintro e w1 ⟨rfl, rfl⟩
      go_wp2_with fail
      refine v2H.out.mono ?_
      rintro e w1 ⟨rfl, rfl⟩
      go_wp2_with fail
      go_ret
      exact ⟨by rw [hr]; rfl, .refl _ _⟩
    | true =>
      rw [hx] at v1
      rw [hy] at v2
      have hr : proofB G p = okSteps G 0 p := by
        unfold proofB validP
        have : (decide (1 ≤ p.length) && decide (p.length ≤ 60)) = true := by
          rw [← hy, Bool.eq_iff_iff]; simp only [Bool.and_eq_true, decide_eq_true_eq]; omega
        rw [this, hx, Bool.and_true, Bool.true_and]
      simp only [Bool.and_eq_true, decide_eq_true_eq] at hx
      obtain ⟨h0, h1⟩ := hx
      have v1H := Lib.hid v1
      have v2H := Lib.hid v2
      clear v1 v2 hy
      go_enter Tryd.func31, Tryd.ntmps31
      go_wp2_with fail
      refine v1H.out.mono ?_
      rintro e w1 ⟨rfl, rfl⟩
      go_wp2_with fail
      refine v2H.out.mono ?_
      rintro e w1 ⟨rfl, rfl⟩
      go_wp2_with fail
      clear v1H v2H
      go_loopw [5] (fun i wr => ∃ k : Nat, k ≤ p.length ∧ i = .int .i64 k ∧ okSteps G 0 (p.take k) = true ∧ Below w.heap.size w wr) (fun i _ => p.length - (intOf i).toNat)
      case atStart => exact ⟨0, Nat.zero_le _, rfl, rfl, .refl _ _⟩
      case round =>
        obtain ⟨k, hk, rfl, hall, hB⟩ := hrel
        by_cases hlt : k < p.length
        · obtain ⟨b, o, rfl, -, q0, q1, q2, -⟩ := (h.below hB).stp k hlt
          have hstep := okSteps_snoc (G := G) (p.take k) 0 p[k]
          rw [List.length_take, Nat.min_eq_left (by omega), Nat.zero_add, ← List.take_succ_eq_append_getElem hlt, hall, Bool.true_and] at hstep
          have cr := fun W => stepRight_any G k p[k] W h0 (by omega) (by omega)
          obtain ⟨x, hx⟩ : ∃ x, p[k] = x := ⟨_, rfl⟩
          obtain ⟨y, hy⟩ : ∃ y, rightB G k p[k] = y := ⟨_, rfl⟩
          rw [hy] at hstep cr
          rw [hx] at cr q0 q1 q2
          obtain ⟨x1, x2, x3⟩ := x
          simp only at q0 q1 q2
          have crH := Lib.hid cr
          have hstH := Lib.hid hstep
          have hBH := Lib.hid hB
          clear cr hstep hB hall hx hy h
          cases y with
          | true =>
            go_wp2_with (go_at_call 58; refine (crH.out _).mono ?_; rintro e w1 ⟨rfl, hb⟩)
            go_roundw
            case rel => exact ⟨k + 1, by omega, by go_num, hstH.out, bcall hBH.out hb⟩
            case measure => simp [intOf]; omega
          | false =>
            go_wp2_with (go_at_call 58; refine (crH.out _).mono ?_; rintro e w1 ⟨rfl, hb⟩)
            go_ret
            have hf : okSteps G 0 p = false := by
              cases ho : okSteps G 0 p with
              | false => rfl
              | true => have := okSteps_take p 0 (k + 1) ho; rw [hstH.out] at this; cases this
            exact ⟨by rw [hr, hf]; rfl, bcall hBH.out hb⟩
        · rw [List.take_of_length_le (by omega)] at hall
          rw [hall] at hr
          clear hall
          go_wp2_with fail
          go_ret
          exact ⟨by rw [hr]; rfl, hB⟩
end Go.Proofs.YtgkddhakhapjlaaDoor

/- Walks: a copy of a list of steps. -/
namespace Go.Proofs.YtgkddhakhapjlaaDoor
open Go Go.RowKit Go.Maps

abbrev OwnSt (w : World) (base : Nat) (v : Value) (l : List Stp) : Prop := OwnL stpE (fun _ => False) w base 69 v l
def retSt (w : World) (l : List Stp) (e : Ending) (w' : World) : Prop := ∃ v, e = .returned v ∧ OwnSt w' w.heap.size v l ∧ Below w.heap.size w w'
def retStE (r : List Stp × Int) (w : World) (e : Ending) (w' : World) : Prop := ∃ v, e = .returned (.tuple #[v, .int .i64 r.2]) ∧ OwnSt w' w.heap.size v r.1 ∧ Below w.heap.size w w'
theorem infoStp : (Tryd.prog.info? 69).map (fun i => (i.zero, i.size, i.bytes)) = some (some (.agg #[.int .i64 0, .int .i64 0, .int .i64 0]), 3, 24) := by kernel_rfl
theorem OwnSt.steps {w : World} {base : Nat} {v : Value} {l : List Stp} (h : OwnSt w base v l) : ∃ a c, v = .slice a l.length c ∧ Steps (fun b => base ≤ b) w a c l := h.slB (fun _ h => h.elim)
set_option maxHeartbeats 400000 in
theorem CloneS_any {S : Nat → Prop} (a : Option Addr) (c : Nat) (l : List Stp) (w : World) (h : Steps S w a c l) (hl : l.length ≤ lim) :
    Calls Tryd.prog 30 #[.slice a l.length c] w (retSt w l) := by
  cases a with
  | none =>
    obtain ⟨rfl, rfl⟩ := h.nil rfl
    have hnl := fun W => Lib.run_eql_slice_nil (P := Tryd.prog) W 25 69 none 0 0 0 0 Tryd.underlying25
    go_enter Tryd.func30, Tryd.ntmps30
    go_wp2_with fail
    go_ret
    exact ⟨_, rfl, .nil _ _ _ _ _, .refl _ _⟩
  | some a =>
    have hnl := fun W => Lib.run_eql_slice_nil (P := Tryd.prog) W 25 69 (some a) l.length c 0 0 Tryd.underlying25
    obtain ⟨v', w', hrun, ho, hg, -, -⟩ := (OwnL.made stpE (fun _ => False) w w.heap.size 69 (Nat.le_refl _)).append_run (P := Tryd.prog) (t := 25) (ty := 25) Tryd.underlying25 infoStp rfl (h.below (below1 w (.cells #[] 69))) (fun _ _ _ h => h) (by unfold lim at hl; simp; omega) (by unfold lim at hl; unfold big; simp; omega) (by simp)
    have hB : Below w.heap.size w w' := (below1 w (.cells #[] 69)).grown hg (by simp) (fun k e => by simp [Value.ownBlock] at e; omega)
    rw [List.nil_append] at ho
    clear hg
    have hrunH := Lib.hid hrun
    clear hrun
    go_enter Tryd.func30, Tryd.ntmps30
    go_wp2_with (at_builtin; refine wpList_append_run rfl _ _ _ rfl rfl rfl hrunH.out ?_)
    go_ret
    exact ⟨_, rfl, ho, hB⟩
end Go.Proofs.YtgkddhakhapjlaaDoor

/- Walks: kernel.Joined. -/
namespace Go.Proofs.YtgkddhakhapjlaaDoor
open Go Go.RowKit Go.Maps

theorem stp_R {S : Nat → Prop} {w : World} {y : Stp} (h : stpR y) : stpE.R S w [.int .i64 y.1, .int .i64 y.2.1, .int .i64 y.2.2] y := ⟨[_], [_, _], rfl, ⟨rfl, h.1⟩, [_], [_], rfl, ⟨rfl, h.2.1⟩, rfl, h.2.2⟩
theorem okSteps_at {G : Int} {q : List Stp} (h : okSteps G 0 q = true) (k : Nat) (hk : k < q.length) : rightB G k q[k] = true := by
  have h1 := okSteps_take q 0 (k + 1) h
  rw [List.take_succ_eq_append_getElem hk, okSteps_snoc, Bool.and_eq_true, List.length_take, Nat.min_eq_left (by omega), Nat.zero_add] at h1
  exact h1.2
def jrel (p q : List Stp) (w : World) (v i : Value) (wr : World) : Prop := ∃ k : Nat, k ≤ q.length ∧ i = .int .i64 k ∧ OwnSt wr w.heap.size v (p ++ (q.take k).map (shS p.length)) ∧ Below w.heap.size w wr
set_option maxRecDepth 100000 in
set_option maxHeartbeats 2000000 in
theorem Joined_any {S2 S3 : Nat → Prop} (G : Int) (ap aq : Option Addr) (cp cq : Nat) (p q : List Stp) (w : World) (h2 : Steps S2 w ap cp p) (h3 : Steps S3 w aq cq q) :
    Calls Tryd.prog 12 #[.int .i64 G, .slice ap p.length cp, .slice aq q.length cq] w (retStE (joinedE G p q) w) := by
  have m2 := h2.le
  have m3 := h3.le
  have v1 := ValidProof_any G ap cp p w h2
  have v2 := fun W (hb : Below w.heap.size w W) => ValidProof_any G aq cq q W (h3.below hb)
  cases hx : proofB G p with
  | false =>
    rw [hx] at v1
    have hrH := Lib.hid (show joinedE G p q = ([], 1) by rw [joinedE, if_neg (by simp [hx])])
    have v1H := Lib.hid v1
    clear v1 v2 h2 h3 hx
    go_enter Tryd.func12, Tryd.ntmps12
    go_wp2_with fail
    refine v1H.out.mono ?_
    rintro e w1 ⟨rfl, hb1⟩
    go_wp2_with fail
    go_ret2
    rw [hrH.out]
    exact ⟨_, rfl, .nil _ _ _ _ _, hb1⟩
  | true =>
    rw [hx] at v1
    cases hy : proofB G q with
    | false =>
      rw [hy] at v2
      have hrH := Lib.hid (show joinedE G p q = ([], 1) by rw [joinedE, if_neg (by simp [hy])])
      have v1H := Lib.hid v1
      have v2H := Lib.hid v2
      clear v1 v2 h2 h3 hx hy
      go_enter Tryd.func12, Tryd.ntmps12
      go_wp2_with fail
      refine v1H.out.mono ?_
      rintro e w1 ⟨rfl, hb1⟩
      go_wp2_with fail
      refine (v2H.out _ hb1).mono ?_
      rintro e w2 ⟨rfl, hb2⟩
      go_wp2_with fail
      go_ret2
      rw [hrH.out]
      exact ⟨_, rfl, .nil _ _ _ _ _, bcall hb1 hb2⟩
    | true =>
      rw [hy] at v2
      have hvp : validP G p = true := by unfold proofB at hx; simp only [Bool.and_eq_true] at hx; exact hx.2
      have hvq : validP G q = true := by unfold proofB at hy; simp only [Bool.and_eq_true] at hy; exact hy.2
      obtain ⟨-, p1, p2⟩ := validP_parts hvp
      obtain ⟨oq, q1, q2⟩ := validP_parts hvq
      have hr : joinedE G p q = if p.length + q.length + 1 ≤ 60 then (joinedL p q, 0) else ([], 4) := by rw [joinedE, if_pos ⟨hx, hy⟩]
      have v3 := fun W (hb : Below w.heap.size w W) => CloneS_any ap cp p W (h2.below hb) (by unfold lim; omega)
      have h3H := Lib.hid h3
      have oqH := Lib.hid oq
      have hrH := Lib.hid hr
      have v1H := Lib.hid v1
      have v2H := Lib.hid v2
      have v3H := Lib.hid v3
      clear v1 v2 v3 h2 h3 hx hy hvp hvq oq hr
      go_enter Tryd.func12, Tryd.ntmps12
      go_wp2_with fail
      refine v1H.out.mono ?_
      rintro e w1 ⟨rfl, hb1⟩
      go_wp2_with fail
      refine (v2H.out _ hb1).mono ?_
      rintro e w2 ⟨rfl, hb2⟩
      have hb2 := bcall hb1 hb2
      clear hb1
      go_wp2_with fail
      refine (v3H.out _ hb2).mono ?_
      rintro e w3 ⟨v, rfl, ho, hb3⟩
      have hoH := Lib.hid (OwnL.baseMono (base' := w.heap.size) ho hb2.size)
      have hb3H := Lib.hid (bcall hb2 hb3)
      clear ho hb2 hb3 v1H v2H v3H
      go_wp2_with fail
      go_loopw [8, 25] (jrel p q w) (fun _ i _ => q.length - (intOf i).toNat)
      case atStart => exact ⟨0, Nat.zero_le _, rfl, by simpa using hoH.out, hb3H.out⟩
      case round =>
        obtain ⟨k, hk, rfl, ho, hB⟩ := hrel
        by_cases hlt : k < q.length
        · obtain ⟨b, o, rfl, -, r0, r1, r2, hr⟩ := (h3H.out.below hB).stp k hlt
          have hright := okSteps_at oqH.out k hlt
          have hmap : p ++ (q.take (k + 1)).map (shS p.length) = (p ++ (q.take k).map (shS p.length)) ++ [shS p.length q[k]] := by
            rw [List.take_succ_eq_append_getElem hlt, List.map_append, List.append_assoc]; rfl
          have hll : (p ++ (q.take k).map (shS p.length)).length = p.length + k := by simp; omega
          obtain ⟨x, hxe⟩ : ∃ x, q[k] = x := ⟨_, rfl⟩
          rw [hxe] at r0 r1 r2 hr hright hmap
          obtain ⟨x1, x2, x3⟩ := x
          simp only at r0 r1 r2
          have hb2 := fun W => below1 W (.cells #[.int .i64 x1, .int .i64 x2, .int .i64 x3] 69)
          by_cases hk2 : x1 = 2
          · subst hk2
            have hd := rightB_detach hright (by simp)
            simp only at hd
            have e1 : IntKind.i64.wrap (x2 + p.length) = x2 + p.length := IntWalk.i64_in _ (by omega)
            have e2 : IntKind.i64.wrap (x3 + p.length) = x3 + p.length := IntWalk.i64_in _ (by omega)
            have hs : shS p.length (2, x2, x3) = (2, x2 + p.length, x3 + p.length) := if_pos rfl
            have hb0 := below1 wr (.cells #[.int .i64 2, .int .i64 (x2 + p.length), .int .i64 (x3 + p.length)] 69)
            obtain ⟨v', w', hrun, ho', hg, -⟩ := (OwnL.call ho hb0).push (P := Tryd.prog) (t := 25) (ty := 25) Tryd.underlying25 infoStp rfl (vs := [.int .i64 2, .int .i64 (x2 + p.length), .int .i64 (x3 + p.length)]) (x := (2, (x2 + p.length), (x3 + p.length))) (stp_R (y := (2, (x2 + p.length), (x3 + p.length))) ⟨(show inRange (2 : Int) by unfold inRange; omega), (show inRange (x2 + p.length) by unfold inRange; omega), (show inRange (x3 + p.length) by unfold inRange; omega)⟩) (by rw [hll]; omega) (by rw [hll]; unfold big; omega) (Nat.le_trans hB.size hb0.size)
            have hBB : Below w.heap.size w w' := (hB.trans (hb0.mono hB.size)).grown hg (Nat.le_trans hB.size hb0.size) (fun j e => (OwnL.lt ho j e).1)
            rw [World.size_alloc] at hrun
            have hrel : jrel p q w v' (.int .i64 ((k : Int) + 1)) w' := ⟨k + 1, by omega, by go_num, by rw [hmap, hs]; exact ho', hBB⟩
            obtain ⟨a5, c5, rfl, -⟩ := OwnL.sl ho'
            rw [List.length_append, hll, List.length_singleton, Nat.add_assoc] at hrun hrel
            have hrunH := Lib.hid hrun
            have hrelH := Lib.hid hrel
            clear hright hrun hrel ho' hg hBB hb0 ho hB hmap hs hr
            go_wp2_with (at_builtin; refine wpList_append_run rfl _ _ _ rfl rfl rfl hrunH.out ?_)
            go_roundw
            case rel => exact hrelH.out
            case measure => simp [intOf]; omega
          · have hk2b : (x1 == 2) = false := by simpa using hk2
            have hs : shS p.length (x1, x2, x3) = (x1, x2, x3) := if_neg hk2
            have hb0 := below1 wr (.cells #[.int .i64 x1, .int .i64 x2, .int .i64 x3] 69)
            obtain ⟨v', w', hrun, ho', hg, -⟩ := (OwnL.call ho hb0).push (P := Tryd.prog) (t := 25) (ty := 25) Tryd.underlying25 infoStp rfl (vs := [.int .i64 x1, .int .i64 x2, .int .i64 x3]) (x := (x1, x2, x3)) (stp_R hr) (by rw [hll]; omega) (by rw [hll]; unfold big; omega) (Nat.le_trans hB.size hb0.size)
            have hBB : Below w.heap.size w w' := (hB.trans (hb0.mono hB.size)).grown hg (Nat.le_trans hB.size hb0.size) (fun j e => (OwnL.lt ho j e).1)
            rw [World.size_alloc] at hrun
            have hrel : jrel p q w v' (.int .i64 ((k : Int) + 1)) w' := ⟨k + 1, by omega, by go_num, by rw [hmap, hs]; exact ho', hBB⟩
            obtain ⟨a5, c5, rfl, -⟩ := OwnL.sl ho'
            rw [List.length_append, hll, List.length_singleton, Nat.add_assoc] at hrun hrel
            have hrunH := Lib.hid hrun
            have hrelH := Lib.hid hrel
            clear hright hrun hrel ho' hg hBB hb0 ho hB hmap hs hr
            go_wp2_with (at_builtin; refine wpList_append_run rfl _ _ _ rfl rfl rfl hrunH.out ?_)
            go_roundw
            case rel => exact hrelH.out
            case measure => simp [intOf]; omega
        · have hkq : k = q.length := by omega
          subst hkq
          rw [List.take_of_length_le (Nat.le_refl _)] at ho
          have hll : (p ++ q.map (shS p.length)).length = p.length + q.length := by simp
          obtain ⟨v', w', hrun, ho', hg, -⟩ := ho.push (P := Tryd.prog) (t := 25) (ty := 25) Tryd.underlying25 infoStp rfl (vs := [.int .i64 2, .int .i64 ((p.length : Int) - 1), .int .i64 ((p.length : Int) + q.length - 1)]) (x := (2, (p.length : Int) - 1, (p.length : Int) + q.length - 1)) (stp_R (y := (2, (p.length : Int) - 1, (p.length : Int) + q.length - 1)) ⟨(show inRange (2 : Int) by unfold inRange; omega), (show inRange ((p.length : Int) - 1) by unfold inRange; omega), (show inRange ((p.length : Int) + q.length - 1) by unfold inRange; omega)⟩) (by rw [hll]; omega) (by rw [hll]; unfold big; omega) hB.size
          have hBB : Below w.heap.size w w' := hB.grown hg hB.size (fun j e => (OwnL.lt ho j e).1)
          obtain ⟨aL, cL, he, -⟩ := OwnL.sl ho
          rw [hll] at he
          cases he
          obtain ⟨R, hR⟩ : ∃ R, joinedL p q = R := ⟨_, rfl⟩
          rw [show p ++ q.map (shS p.length) ++ [((2 : Int), (p.length : Int) - 1, (p.length : Int) + q.length - 1)] = R from hR] at ho'
          have hRl : R.length = p.length + q.length + 1 := by rw [← hR]; simp [joinedL]; omega
          have hrr := hrH.out
          rw [hR] at hrr
          have e1 : IntKind.i64.wrap ((p.length : Int) - 1) = (p.length : Int) - 1 := IntWalk.i64_in _ (by omega)
          have e2 : IntKind.i64.wrap (((p.length + q.length : Nat) : Int) - 1) = (p.length : Int) + q.length - 1 := by rw [IntWalk.i64_in _ (by omega)]; omega
          obtain ⟨a5, c5, rfl, -⟩ := OwnL.sl ho'
          rw [hRl] at ho'
          have hrunH := Lib.hid hrun
          have hoH := Lib.hid ho'
          have hBH := Lib.hid hBB
          clear hrun ho' hg hBB ho hB hll hR
          by_cases h60 : p.length + q.length + 1 ≤ 60
          · rw [if_pos h60] at hrr
            have hrrH := Lib.hid hrr
            have h60b : ¬ 60 < R.length := by omega
            clear hrr hrH
            go_wp2_with (at_builtin; refine wpList_append_run rfl _ _ _ rfl rfl rfl hrunH.out ?_)
            go_ret2
            rw [hrrH.out]
            exact ⟨_, rfl, hoH.out, hBH.out⟩
          · rw [if_neg h60] at hrr
            have hrrH := Lib.hid hrr
            have h60b : 60 < R.length := by omega
            clear hrr hrH
            go_wp2_with (at_builtin; refine wpList_append_run rfl _ _ _ rfl rfl rfl hrunH.out ?_)
            go_ret2
            rw [hrrH.out]
            exact ⟨_, rfl, .nil _ _ _ _ _, hBH.out⟩
end Go.Proofs.YtgkddhakhapjlaaDoor

/- Walks: the closure of kernel.Untree that puts a step where it stands. -/
namespace Go.Proofs.YtgkddhakhapjlaaDoor
open Go Go.RowKit Go.Maps Go.WideMaps

/-- a list in a box gets one element more: what is left alone -/
theorem box_push2 {α : Type} {E : Enc α} {P : Program} {W : World} {B0 base B : Nat} {T e : TypeId} {v : Value} {l : List α} (hv : Boxed W B0 T v) (ho : OwnL E (fun _ => False) W base e v l) (hT : T ≠ e) (hbs : base ≤ W.heap.size) (hBb : B ≤ base) (hB0 : B ≤ B0)
    {t ty : TypeId} {z : Value} {bytes : Nat} (ht : P.underlying t = some (.slice e)) (hinfo : (P.info? e).map (fun i => (i.zero, i.size, i.bytes)) = some (some z, E.size, bytes)) (hzs : z.cells.size = E.size)
    {vs : List Value} {x : α} (hR : E.R (Off (fun _ => False) v) W vs x) (hlen : (l.length + 1) * bytes ≤ 140737488355328) (hmax : l.length + 1 ≤ big) :
    ∃ a' cap W2, RowKit.Hid ((Builtin.append_ #[t, t] ty #[v, .slice (some ⟨W.heap.size, 0, none⟩) 1 1]).run P (W.alloc (.cells vs.toArray e)) = .ok (.slice a' (l.length + 1) cap) W2) ∧
      RowKit.Hid (W2.cell? ⟨B0, 0, none⟩ = some v) ∧ RowKit.Hid (W2.frozen? ⟨B0, 0, none⟩ = false) ∧
      RowKit.Hid (Boxed (W2.setCell ⟨B0, 0, none⟩ (.slice a' (l.length + 1) cap)) B0 T (.slice a' (l.length + 1) cap)) ∧ RowKit.Hid (OwnL E (fun _ => False) (W2.setCell ⟨B0, 0, none⟩ (.slice a' (l.length + 1) cap)) base e (.slice a' (l.length + 1) cap) (l ++ [x])) ∧
      RowKit.Hid (∀ k, k < W.heap.size → k ≠ B0 → v.ownBlock ≠ some k → (W2.setCell ⟨B0, 0, none⟩ (.slice a' (l.length + 1) cap)).heap[k]? = W.heap[k]?) ∧ RowKit.Hid (Below B W (W2.setCell ⟨B0, 0, none⟩ (.slice a' (l.length + 1) cap))) ∧
      RowKit.Hid ((Value.slice a' (l.length + 1) cap).ownBlock = v.ownBlock ∨ ∃ k, (Value.slice a' (l.length + 1) cap).ownBlock = some k ∧ W.heap.size ≤ k) ∧
      RowKit.Hid (∀ k, k < W.heap.size → v.ownBlock ≠ some k → W2.heap[k]? = W.heap[k]?) := by
  obtain ⟨v', W2, hrun, ho2, hg, hat⟩ := ho.push (P := P) (t := t) (ty := ty) ht hinfo hzs hR hlen hmax hbs
  obtain ⟨a', cap, rfl, -⟩ := ho2.sl
  rw [List.length_append, List.length_singleton] at hrun ho2 hat
  have hnr : v.ownBlock ≠ some B0 := ho.notBox hv hT
  have hv2 : Boxed W2 B0 T v := hv.kept hg (fun e => hnr e.symm)
  have hg3 : W2.grownBy (W2.setCell ⟨B0, 0, none⟩ (.slice a' (l.length + 1) cap)) (some B0) := grownBy_setCell' _ _ _
  have hnr2 := ho2.notBox hv2 hT
  have ho3 := ho2.grown hg3 (fun k hk e => by cases e; exact hnr2 hk) (fun b hb _ => hb.elim)
  have hfr : ∀ k, k < W.heap.size → v.ownBlock ≠ some k → W2.heap[k]? = W.heap[k]? := fun k hk hr => hg.block k hk (fun e => hr e.symm)
  refine ⟨a', cap, W2, Lib.hid hrun, Lib.hid hv2.cell, Lib.hid hv2.frozen, Lib.hid (hv2.set _), Lib.hid ho3, Lib.hid (fun k hk h0 hr => ?_), Lib.hid ?_, Lib.hid hat, Lib.hid hfr⟩
  · exact (hg3.block k (Nat.lt_of_lt_of_le hk hg.size) (fun e => h0 (by injection e))).trans (hfr k hk hr)
  · exact ((Below.refl B W).grown hg (Nat.le_trans hBb hbs) (fun k e => Nat.le_trans hBb (ho.lt k e).1)).grown hg3 (Nat.le_trans (Nat.le_trans hBb hbs) hg.size) (fun k e => by cases e; exact hB0)

abbrev StK : Type := {x : Stp // stpR x}
theorem stKeyed : Keyed Tryd.prog 69 := Keyed.of_law (deep_law_laid (by kernel_rfl) (m := 3) (by omega) (of_decide_eq_true (by kernel_rfl)) (by kernel_rfl) (by kernel_rfl))
theorem typesPosS : ∃ m, Tryd.prog.types.size = m + 1 := ⟨Tryd.prog.types.size - 1, by have : 0 < Tryd.prog.types.size := of_decide_eq_true (by kernel_rfl); omega⟩
noncomputable abbrev KSt : KeyK StK Tryd.prog 69 := keyK stKeyed (fun x => stpV x.1) (fun x => .string (keyBytes [.int .i64 x.1.1, .int .i64 x.1.2.1, .int .i64 x.1.2.2]))
  (fun x => keyOf_ints3 Tryd.underlying69 (by kernel_rfl) (by kernel_rfl) typesPosS rfl rfl rfl (by kernel_rfl) (by kernel_rfl) (by kernel_rfl) (by decide) (by decide) (by decide) Tryd.underlying3 Tryd.underlying3 Tryd.underlying3 x.2.1 x.2.2.1 x.2.2.2)
  (fun x y h => by
    simp only [Value.agg.injEq, Array.mk.injEq, List.cons.injEq, Value.int.injEq, true_and, and_true] at h
    exact Subtype.ext (Prod.ext h.1 (Prod.ext h.2.1 h.2.2)))
def atF (p : List Stp) (x : StK) : Option Value := if x.1 ∈ p then some (.int .i64 (p.idxOf x.1 : Nat)) else none
theorem atF_new {p : List Stp} {x : StK} (h : x.1 ∉ p) : (fun z => if z = x then some (.int .i64 (p.length : Nat)) else atF p z) = atF (p ++ [x.1]) := by
  funext z
  unfold atF
  by_cases hz : z = x
  · subst hz
    rw [if_pos rfl, if_pos (by simp), List.idxOf_append, if_neg h]; simp
  · rw [if_neg hz]
    have hne : z.1 ≠ x.1 := fun e => hz (Subtype.ext e)
    by_cases hm : z.1 ∈ p
    · rw [if_pos hm, if_pos (by simp [hm]), List.idxOf_append, if_pos hm]
    · rw [if_neg hm, if_neg (by simp [hm, hne])]
/-- what Untree keeps: the steps, where they stand, the steps that are done; its own list of what is open -/
structure Um (B : Nat) (W : World) (q p : List Stp) (dn op : List Int) (vO : Value) : Prop where
  p : ∃ v, Boxed W B 25 v ∧ OwnSt W (B + 4) v p
  m : VMap KSt W (B + 1) q.length (atF q)
  a : Boxed W (B + 2) 81 (.map (some (B + 1)))
  d : ∃ v, Boxed W (B + 3) 34 v ∧ OwnI W (B + 4) v dn ∧ ∀ k, vO.ownBlock = some k → v.ownBlock ≠ some k
  o : OwnI W (B + 4) vO op
  sz : B + 4 ≤ W.heap.size
section
variable {B : Nat} {W W' : World} {q p : List Stp} {dn op : List Int} {vO : Value}
theorem Um.below (h : Um B W q p dn op vO) (hb : Below W.heap.size W W') : Um B W' q p dn op vO := by
  obtain ⟨v, h1, h2⟩ := h.p
  obtain ⟨u, h3, h4, h5⟩ := h.d
  exact ⟨⟨v, (hb.block _ h1.lt).trans h1, OwnL.call h2 hb⟩, h.m.below hb h.m.lt, (hb.block _ h.a.lt).trans h.a, ⟨u, (hb.block _ h3.lt).trans h3, OwnL.call h4 hb, h5⟩, OwnL.call h.o hb, Nat.le_trans h.sz hb.size⟩
/-- a new step gets its place -/
theorem Um.store (h : Um B W p p dn op vO) (x : StK) (hx : x.1 ∉ p) (hl : p.length ≤ 1000000) :
    ∃ W', RowKit.Hid ((Instr.mapUpdate 81 (.map (some (B + 1))) (stpV x.1) (.int .i64 (p.length : Nat))).run Tryd.prog W = .ok () W') ∧ RowKit.Hid (Um B W' (p ++ [x.1]) p dn op vO) ∧ RowKit.Hid (W.grownBy W' (some (B + 1))) := by
  obtain ⟨W', hrun, hm, hg⟩ := h.m.store (tm := 81) Tryd.underlying81 (by unfold maxLen; omega) x trivial (.int .i64 (p.length : Nat))
  have hn : atF p x = none := by unfold atF; rw [if_neg hx]
  rw [hn, atF_new hx] at hm
  simp only [Option.isSome_none, Bool.false_eq_true, if_false] at hm
  obtain ⟨v, h1, h2⟩ := h.p
  obtain ⟨u, h3, h4, h5⟩ := h.d
  have far : ∀ {E : Enc Stp} {e : TypeId} {v : Value} {l : List Stp}, OwnL E (fun _ => False) W (B + 4) e v l → OwnL E (fun _ => False) W' (B + 4) e v l := fun ho => ho.grown hg (fun k hk e => by have := (ho.lt k hk).1; injection e with e; omega) (fun b hb _ => hb.elim)
  have farI : ∀ {v : Value} {l : List Int}, OwnI W (B + 4) v l → OwnI W' (B + 4) v l := fun ho => OwnL.grown ho hg (fun k hk e => by have := (OwnL.lt ho k hk).1; injection e with e; omega) (fun b hb _ => hb.elim)
  exact ⟨W', Lib.hid hrun, Lib.hid ⟨⟨v, h1.kept hg (fun e => by injection e with e; omega), far h2⟩, by rw [List.length_append, List.length_singleton]; exact hm, h.a.kept hg (fun e => by injection e with e; omega), ⟨u, h3.kept hg (fun e => by injection e with e; omega), farI h4, h5⟩, farI h.o, Nat.le_trans h.sz hg.size⟩, Lib.hid hg⟩
theorem own_types {E F : Type} {A : Enc E} {C : Enc F} {e f : TypeId} {v u : Value} {l : List E} {m : List F} {S T : Nat → Prop} {b b' : Nat} (h : OwnL A S W b e v l) (k : OwnL C T W b' f u m) (hef : e ≠ f) : ∀ j, v.ownBlock = some j → u.ownBlock ≠ some j := fun j hj hk => by
  obtain ⟨c1, e1⟩ := OwnL.rowCells h j hj
  obtain ⟨c2, e2⟩ := OwnL.rowCells k j hk
  rw [e1] at e2
  simp only [Option.some.injEq, Obj.cells.injEq] at e2
  exact hef e2.2.1
/-- one step more -/
theorem Um.pushP (h : Um B W q p dn op vO) (x : Stp) (hx : stpR x) (hl : p.length ≤ 1000000) :
    ∃ av cv a' cap W2, RowKit.Hid (W.cell? ⟨B, 0, none⟩ = some (.slice av p.length cv)) ∧ RowKit.Hid ((Builtin.append_ #[25, 25] 25 #[.slice av p.length cv, .slice (some ⟨W.heap.size, 0, none⟩) 1 1]).run Tryd.prog (W.alloc (.cells #[.int .i64 x.1, .int .i64 x.2.1, .int .i64 x.2.2] 69)) = .ok (.slice a' (p.length + 1) cap) W2) ∧
      RowKit.Hid (W2.cell? ⟨B, 0, none⟩ = some (.slice av p.length cv)) ∧ RowKit.Hid (W2.frozen? ⟨B, 0, none⟩ = false) ∧ RowKit.Hid (Um B (W2.setCell ⟨B, 0, none⟩ (.slice a' (p.length + 1) cap)) q (p ++ [x]) dn op vO) ∧ RowKit.Hid (Below B W (W2.setCell ⟨B, 0, none⟩ (.slice a' (p.length + 1) cap))) ∧
      RowKit.Hid (∀ k, k < W.heap.size → k ≠ B → (Value.slice av p.length cv).ownBlock ≠ some k → (W2.setCell ⟨B, 0, none⟩ (.slice a' (p.length + 1) cap)).heap[k]? = W.heap[k]?) ∧ RowKit.Hid (∀ k, (Value.slice av p.length cv).ownBlock = some k → B + 4 ≤ k ∧ ∃ cs, W.heap[k]? = some (.cells cs 69 (0, 0))) := by
  obtain ⟨v, h1, h2⟩ := h.p
  obtain ⟨u, h3, h4, h5⟩ := h.d
  obtain ⟨a', cap, W2, r1, r2, r3, r4, r5, r6, r7, r8, -⟩ := box_push2 (P := Tryd.prog) (t := 25) (ty := 25) (B := B) h1 h2 (by decide) h.sz (by omega) (Nat.le_refl _) Tryd.underlying25 infoStp rfl (vs := [.int .i64 x.1, .int .i64 x.2.1, .int .i64 x.2.2]) (stp_R hx) (by omega) (by unfold big; omega)
  obtain ⟨av, cv, rfl, -⟩ := OwnL.sl h2
  have hv := fun k hk => (OwnL.lt h2 k hk).1
  have t1 := own_types h4 h2 (by decide)
  have t2 := own_types h.o h2 (by decide)
  refine ⟨av, cv, a', cap, W2, Lib.hid h1.cell, r1, r2, r3, Lib.hid ⟨⟨_, r4.out, r5.out⟩, h.m.same (r6.out _ h.m.lt (by omega) (fun e => by have := hv _ e; omega)), (r6.out _ h.a.lt (by omega) (fun e => by have := hv _ e; omega)).trans h.a, ⟨u, (r6.out _ h3.lt (by omega) (fun e => by have := hv _ e; omega)).trans h3, ?_, h5⟩, ?_, Nat.le_trans h.sz ?_⟩, r7, r6, Lib.hid (fun k hk => ⟨hv k hk, OwnL.rowCells h2 k hk⟩)⟩
  · exact OwnL.kept h4 (fun k hk => r6.out k (OwnL.lt h4 k hk).2 (by have := (OwnL.lt h4 k hk).1; omega) (t1 k hk)) (fun b hb _ => hb.1.elim)
  · exact OwnL.kept h.o (fun k hk => r6.out k (OwnL.lt h.o k hk).2 (by have := (OwnL.lt h.o k hk).1; omega) (t2 k hk)) (fun b hb _ => hb.1.elim)
  · exact r7.out.size
/-- one done step more -/
theorem Um.pushD (h : Um B W q p dn op vO) (x : Int) (hx : inRange x) (hl : dn.length ≤ 1000000) :
    ∃ av cv a' cap W2, RowKit.Hid (W.cell? ⟨B + 3, 0, none⟩ = some (.slice av dn.length cv)) ∧ RowKit.Hid ((Builtin.append_ #[34, 34] 34 #[.slice av dn.length cv, .slice (some ⟨W.heap.size, 0, none⟩) 1 1]).run Tryd.prog (W.alloc (.cells #[.int .i64 x] 3)) = .ok (.slice a' (dn.length + 1) cap) W2) ∧
      RowKit.Hid (W2.cell? ⟨B + 3, 0, none⟩ = some (.slice av dn.length cv)) ∧ RowKit.Hid (W2.frozen? ⟨B + 3, 0, none⟩ = false) ∧ RowKit.Hid (Um B (W2.setCell ⟨B + 3, 0, none⟩ (.slice a' (dn.length + 1) cap)) q p (dn ++ [x]) op vO) ∧ RowKit.Hid (Below B W (W2.setCell ⟨B + 3, 0, none⟩ (.slice a' (dn.length + 1) cap)))  := by
  obtain ⟨v, h1, h2⟩ := h.p
  obtain ⟨u, h3, h4, h5⟩ := h.d
  obtain ⟨a', cap, W2, r1, r2, r3, r4, r5, r6, r7, r8, -⟩ := box_push2 (P := Tryd.prog) (t := 34) (ty := 34) (B := B) h3 h4 (by decide) h.sz (by omega) (by omega) Tryd.underlying34 infoInt rfl (vs := [.int .i64 x]) (x := x) ⟨rfl, hx⟩ (by omega) (by unfold big; omega)
  obtain ⟨av, cv, rfl, -⟩ := OwnL.sl h4
  have hv := fun k hk => (OwnL.lt h4 k hk).1
  have t1 := own_types h2 h4 (by decide)
  refine ⟨av, cv, a', cap, W2, Lib.hid h3.cell, r1, r2, r3, Lib.hid ⟨⟨v, (r6.out _ h1.lt (by omega) (fun e => by have := hv _ e; omega)).trans h1, ?_⟩, h.m.same (r6.out _ h.m.lt (by omega) (fun e => by have := hv _ e; omega)), (r6.out _ h.a.lt (by omega) (fun e => by have := hv _ e; omega)).trans h.a, ⟨_, r4.out, r5.out, fun k hk e => ?_⟩, ?_, Nat.le_trans h.sz r7.out.size⟩, r7⟩
  · exact OwnL.kept h2 (fun k hk => r6.out k (OwnL.lt h2 k hk).2 (by have := (OwnL.lt h2 k hk).1; omega) (t1 k hk)) (fun b hb _ => hb.1.elim)
  · rcases r8.out with g | ⟨j, g1, g2⟩
    · rw [g] at e; exact h5 k hk e
    · rw [g1] at e; cases e; have := (OwnL.lt h.o k hk).2; omega
  · exact OwnL.kept h.o (fun k hk => r6.out k (OwnL.lt h.o k hk).2 (by have := (OwnL.lt h.o k hk).1; omega) (h5 k hk)) (fun b hb _ => hb.1.elim)
theorem Um.look (h : Um B W q p dn op vO) (x : StK) : (Instr.lookup 81 (.map (some (B + 1))) (stpV x.1) false).run Tryd.prog W = .ok ((atF q x).getD (.int .i64 0)) W := h.m.look (tm := 81) Tryd.underlying81 (zInt W) x trivial
theorem Um.look_ok (h : Um B W q p dn op vO) (x : StK) : (Instr.lookup 81 (.map (some (B + 1))) (stpV x.1) true).run Tryd.prog W = .ok (.tuple #[(atF q x).getD (.int .i64 0), .bool (atF q x).isSome]) W := h.m.look_ok (tm := 81) Tryd.underlying81 (zInt W) x trivial
end
theorem atF_old {p : List Stp} {x : StK} (h : x.1 ∈ p) : atF p x = some (.int .i64 (p.idxOf x.1 : Nat)) := by unfold atF; rw [if_pos h]
theorem atF_last {p : List Stp} {x : StK} (h : x.1 ∉ p) : atF (p ++ [x.1]) x = some (.int .i64 (p.length : Nat)) := by
  rw [← atF_new h]; simp
set_option maxRecDepth 100000 in
set_option maxHeartbeats 4000000 in
theorem untadd_any {B : Nat} {p : List Stp} {dn op : List Int} {vO : Value} (x : Stp) (w : World) (hU : Um B w p p dn op vO) (hx : stpR x) (hp : p.length ≤ 100000) (hd : dn.length ≤ 100000) :
    Calls Tryd.prog 43 #[stpV x, .pointer (some ⟨B + 2, 0, none⟩), .pointer (some ⟨B, 0, none⟩), .pointer (some ⟨B + 3, 0, none⟩)] w fun e w' => e = .returned (.tuple #[]) ∧ Um B w' (addP p x).1 (addP p x).1 (dn ++ [((addP p x).2 : Int)]) op vO ∧ Below B w w' := by
  obtain ⟨W0, hW0⟩ : ∃ W, w.alloc (.cells #[.int .i64 x.1, .int .i64 x.2.1, .int .i64 x.2.2] 69) = W := ⟨_, rfl⟩
  have hb0 : Below w.heap.size w W0 := by rw [← hW0]; exact below1 w _
  have hU0 := hU.below hb0
  have hX : W0.heap[w.heap.size]? = some (.cells #[.int .i64 x.1, .int .i64 x.2.1, .int .i64 x.2.2] 69 (0, 0)) := by rw [← hW0]; exact World.alloc_heap_new w _
  have hszB := hU.sz
  have hBb : Below B w W0 := hb0.mono (by omega)
  obtain ⟨x1, x2, x3⟩ := x
  dsimp only at hX hW0
  have hxc : ∀ {W : World}, W.heap[w.heap.size]? = some (.cells #[.int .i64 x1, .int .i64 x2, .int .i64 x3] 69 (0, 0)) → W.cell? ⟨w.heap.size, 0, none⟩ = some (.int .i64 x1) ∧ W.cell? ⟨w.heap.size, 1, none⟩ = some (.int .i64 x2) ∧ W.cell? ⟨w.heap.size, 2, none⟩ = some (.int .i64 x3) := fun h => by simp [World.cell?, h]
  obtain ⟨q1, q2, q3⟩ := hxc hX
  have qa := hU0.a.cell
  by_cases hm : (x1, x2, x3) ∈ p
  · have ha : addP p (x1, x2, x3) = (p, p.idxOf (x1, x2, x3)) := if_pos hm
    have hk := List.idxOf_lt_length_of_mem hm
    have hl1 := hU0.look_ok ⟨(x1, x2, x3), hx⟩
    have hbd : Below W0.heap.size W0 W0.drew := (Below.refl _ W0).drew
    have hUd := hU0.below hbd
    have hl2 := hUd.look ⟨(x1, x2, x3), hx⟩
    rw [atF_old hm] at hl1 hl2
    obtain ⟨k, hkk⟩ : ∃ k, p.idxOf (x1, x2, x3) = k := ⟨_, rfl⟩
    rw [hkk] at ha hk
    simp only [Option.getD_some, Option.isSome_some, hkk] at hl1 hl2
    obtain ⟨av, cv, a', cap, W2, r1, r2, r3, r4, r5, r6⟩ := hUd.pushD (k : Int) (by unfold inRange; omega) (by omega)
    have qd := r1.out
    have qad : W0.drew.cell? ⟨B + 2, 0, none⟩ = some (.map (some (B + 1))) := qa
    have q1d : W0.drew.cell? ⟨w.heap.size, 0, none⟩ = some (.int .i64 x1) := q1
    have q2d : W0.drew.cell? ⟨w.heap.size, 1, none⟩ = some (.int .i64 x2) := q2
    have q3d : W0.drew.cell? ⟨w.heap.size, 2, none⟩ = some (.int .i64 x3) := q3
    have qd2 : (W0.alloc (.cells #[.int .i64 (k : Int)] 3)).cell? ⟨B + 3, 0, none⟩ = some (.slice av dn.length cv) := cell_later (below1 W0 (.cells #[.int .i64 (k : Int)] 3)) qd
    have rrun := r2.out
    have rc := r3.out
    have rf := r4.out
    have hUH := r5
    have hBH := Lib.hid (hBb.trans ((hbd.mono (by have := hU0.sz; omega)).trans r6.out))
    have haH := Lib.hid ha
    clear hU hU0 hUd hX hxc hm ha hb0 hbd hkk hBb r1 r2 r3 r4 r5 r6
    go_enter Tryd.func43, Tryd.ntmps43
    go_wp2_with fail
    go_region_law (rw [if_pos (by kernel_rfl)]; refine oper_append_run (.tmp 23) (.tmp 27) _ rfl rfl rfl rrun ?_)
    all_goals go_end0
    all_goals rw [haH.out]
    all_goals exact ⟨rfl, hUH.out, hBH.out⟩
  · have ha : addP p (x1, x2, x3) = (p ++ [(x1, x2, x3)], p.length) := if_neg hm
    have hl1 := hU0.look_ok ⟨(x1, x2, x3), hx⟩
    have hno : atF p ⟨(x1, x2, x3), hx⟩ = none := by unfold atF; rw [if_neg hm]
    rw [hno] at hl1
    simp only [Option.getD_none, Option.isSome_none] at hl1
    obtain ⟨W1, s1, s2, s3⟩ := hU0.store ⟨(x1, x2, x3), hx⟩ hm (by omega)
    have hU1 := s2.out
    have hg1 := s3.out
    have hX1 : W1.heap[w.heap.size]? = some (.cells #[.int .i64 x1, .int .i64 x2, .int .i64 x3] 69 (0, 0)) := (hg1.block _ (by have := (Array.getElem?_eq_some_iff.1 hX).1; exact this) (fun e => by injection e with e; omega)).trans hX
    obtain ⟨u1, u2, u3⟩ := hxc hX1
    have ua := hU1.a.cell
    obtain ⟨v0, b0, o0⟩ := hU.p
    have ub : W0.cell? ⟨B, 0, none⟩ = some v0 := cell_later hb0 b0.cell
    obtain ⟨pv, pc, p', pcap, W2, t1, t2, t3, t4, t5, t6, t7, t8⟩ := hU1.pushP (x1, x2, x3) hx (by omega)
    have hv0 : v0 = .slice pv p.length pc := by
      have := t1.out
      rw [World.cell?_of_block (w := W0) (hg1.block B (by have := World.block_lt_of_cell? _ _ ub; exact this) (fun e => by injection e with e; omega)), ub] at this
      exact Option.some.inj this
    subst hv0
    have hU3 := t5.out
    obtain ⟨W3, hW3⟩ : ∃ W, W2.setCell ⟨B, 0, none⟩ (.slice p' (p.length + 1) pcap) = W := ⟨_, rfl⟩
    rw [hW3] at hU3
    have hX3 : W3.heap[w.heap.size]? = some (.cells #[.int .i64 x1, .int .i64 x2, .int .i64 x3] 69 (0, 0)) := by
      rw [← hW3]
      exact (t7.out _ (by have := (Array.getElem?_eq_some_iff.1 hX1).1; exact this) (by omega) (fun e => by have := (OwnL.lt o0 _ e).2; omega)).trans hX1
    obtain ⟨z1, z2, z3⟩ := hxc hX3
    have za := hU3.a.cell
    have hbd : Below W3.heap.size W3 W3.drew := (Below.refl _ W3).drew
    have hUd := hU3.below hbd
    have hl2 := hUd.look ⟨(x1, x2, x3), hx⟩
    rw [atF_last (x := ⟨(x1, x2, x3), hx⟩) hm] at hl2
    simp only [Option.getD_some] at hl2
    obtain ⟨av, cv, a', cap, W4, r1, r2, r3, r4, r5, r6⟩ := hUd.pushD (p.length : Int) (by unfold inRange; omega) (by omega)
    have qd := r1.out
    have qad : W3.drew.cell? ⟨B + 2, 0, none⟩ = some (.map (some (B + 1))) := za
    have q1d : W3.drew.cell? ⟨w.heap.size, 0, none⟩ = some (.int .i64 x1) := z1
    have q2d : W3.drew.cell? ⟨w.heap.size, 1, none⟩ = some (.int .i64 x2) := z2
    have q3d : W3.drew.cell? ⟨w.heap.size, 2, none⟩ = some (.int .i64 x3) := z3
    have qd2 : (W3.alloc (.cells #[.int .i64 (p.length : Int)] 3)).cell? ⟨B + 3, 0, none⟩ = some (.slice av dn.length cv) := cell_later (below1 W3 (.cells #[.int .i64 (p.length : Int)] 3)) qd
    have s1o := s1.out
    have t1o := t1.out
    have t2o := t2.out
    have t3o := t3.out
    have t4o := t4.out
    have rrun := r2.out
    have rc := r3.out
    have rf := r4.out
    have hUH := r5
    have hB3 : Below B w W3 := by rw [← hW3]; exact ((hBb.grown hg1 (by have := hU0.sz; omega) (fun k e => by injection e with e; omega))).trans t6.out
    have hBH := Lib.hid (hB3.trans ((hbd.mono (by have := hU3.sz; omega)).trans r6.out))
    have haH := Lib.hid ha
    clear hU hU0 hU1 hU3 hUd hX hX1 hX3 hxc hm ha hb0 hbd hBb r1 r2 r3 r4 r5 r6 s1 s2 s3 hno t1 t2 t3 t4 t5 t6 t7 t8 o0 b0 hB3 hg1
    go_enter Tryd.func43, Tryd.ntmps43
    go_wp2_with (at_builtin; refine wpList_append_run rfl _ _ _ rfl rfl rfl t2o ?_)
    go_region_law (rw [if_pos (by kernel_rfl)]; refine oper_append_run (.tmp 23) (.tmp 27) _ rfl rfl rfl rrun ?_)
    all_goals go_end0
    all_goals rw [haH.out]
    all_goals exact ⟨rfl, hUH.out, hBH.out⟩
end Go.Proofs.YtgkddhakhapjlaaDoor

/- Walks: kernel.Untree. -/
namespace Go.Proofs.YtgkddhakhapjlaaDoor
open Go Go.RowKit Go.Maps Go.WideMaps

theorem OwnI.takeN {w : World} {base g n cap k : Nat} {l : List Int} (h : OwnI w base (.slice (some ⟨g, 0, none⟩) n cap) l) (hn : n = l.length) (hk : k ≤ n) : OwnI w base (.slice (some ⟨g, 0, none⟩) k cap) (l.take k) := by
  subst hn
  obtain ⟨ho, hr⟩ := OwnL.row h
  refine OwnL.of_row ?_ (fun x hx => hr x (List.mem_of_mem_take hx))
  have hlk : (l.take k).length = k := by rw [List.length_take]; omega
  rw [hlk, List.map_take]
  obtain ⟨e1, e2⟩ := ho
  refine ⟨by rw [List.length_take, e1]; omega, ?_⟩
  rcases e2 with ⟨e2, -⟩ | ⟨g', cap', cur, e3, e4, e5, e6, e7, e8, e9⟩
  · cases e2
  · cases e3
    refine .inr ⟨g, cap, cur, rfl, e4, e5, by omega, e7, e8, ?_⟩
    rw [← e9, List.take_take, Nat.mul_one, Nat.mul_one, Nat.min_eq_left hk]
def opOf : List (Option Nat) → List Int
  | [] => []
  | none :: st => opOf st ++ [2]
  | some _ :: st => opOf st ++ [1]
def dnOf : List (Option Nat) → List Int
  | [] => []
  | none :: st => dnOf st
  | some m :: st => dnOf st ++ [(m : Int)]
def dnW (st : List (Option Nat)) : Option Nat → List Int
  | none => dnOf st
  | some k => dnOf st ++ [(k : Int)]
theorem opOf_len : ∀ st : List (Option Nat), (opOf st).length = st.length
  | [] => rfl
  | none :: st => by rw [opOf, List.length_append, opOf_len st]; rfl
  | some _ :: st => by rw [opOf, List.length_append, opOf_len st]; rfl
theorem dnOf_len : ∀ st : List (Option Nat), (dnOf st).length ≤ st.length
  | [] => Nat.le_refl _
  | none :: st => by have := dnOf_len st; rw [dnOf, List.length_cons]; omega
  | some _ :: st => by have := dnOf_len st; rw [dnOf, List.length_append, List.length_cons]; simp; omega
section
variable {B : Nat} {W : World} {q p : List Stp} {dn op : List Int} {vO : Value}
/-- one more that is open -/
theorem Um.pushO (h : Um B W q p dn op vO) (x : Int) (hx : inRange x) (hl : op.length ≤ 1000000) :
    ∃ v' W', RowKit.Hid ((Builtin.append_ #[34, 34] 34 #[vO, .slice (some ⟨W.heap.size, 0, none⟩) 1 1]).run Tryd.prog (W.alloc (.cells #[.int .i64 x] 3)) = .ok v' W') ∧ RowKit.Hid (Um B W' q p dn (op ++ [x]) v') ∧ RowKit.Hid (Below B W W') := by
  obtain ⟨v', W', hrun, ho, hg, hat⟩ := OwnL.push (P := Tryd.prog) (t := 34) (ty := 34) h.o Tryd.underlying34 infoInt rfl (vs := [.int .i64 x]) (x := x) ⟨rfl, hx⟩ (by omega) (by unfold big; omega) h.sz
  obtain ⟨v, h1, h2⟩ := h.p
  obtain ⟨u, h3, h4, h5⟩ := h.d
  have hv := fun k hk => (OwnL.lt h.o k hk).1
  have t1 := own_types h2 h.o (by decide)
  have keep : ∀ k, k < W.heap.size → vO.ownBlock ≠ some k → W'.heap[k]? = W.heap[k]? := fun k hk hr => hg.block k hk (fun e => hr e.symm)
  refine ⟨v', W', Lib.hid hrun, Lib.hid ⟨⟨v, (keep _ h1.lt (fun e => by have := hv _ e; omega)).trans h1, ?_⟩, h.m.same (keep _ h.m.lt (fun e => by have := hv _ e; omega)), (keep _ h.a.lt (fun e => by have := hv _ e; omega)).trans h.a, ⟨u, (keep _ h3.lt (fun e => by have := hv _ e; omega)).trans h3, ?_, fun k hk e => ?_⟩, ho, Nat.le_trans h.sz hg.size⟩, Lib.hid ?_⟩
  · exact OwnL.kept h2 (fun k hk => keep k (OwnL.lt h2 k hk).2 (t1 k hk)) (fun b hb _ => hb.1.elim)
  · exact OwnL.kept h4 (fun k hk => keep k (OwnL.lt h4 k hk).2 (fun e => h5 k e hk)) (fun b hb _ => hb.1.elim)
  · rcases hat with g | ⟨j, g1, g2⟩
    · rw [g] at hk; exact h5 k hk e
    · have := (OwnL.lt h4 k e).2
      rw [g1] at hk
      injection hk with hk
      omega
  · exact (Below.refl B W).grown hg (Nat.le_trans (by omega) h.sz) (fun k e => Nat.le_trans (by omega) (hv k e))
/-- the last open one is written -/
theorem Um.setO {l : List Int} {x0 : Int} (h : Um B W q p dn (l ++ [x0]) vO) (x : Int) (hx : inRange x) :
    ∃ g cap, vO = .slice (some ⟨g, 0, none⟩) (l.length + 1) cap ∧ l.length + 1 ≤ cap ∧ RowKit.Hid (W.cell? ⟨g, l.length, none⟩ = some (.int .i64 x0)) ∧ RowKit.Hid (W.frozen? ⟨g, l.length, none⟩ = false) ∧
      RowKit.Hid (Um B (W.setCell ⟨g, l.length, none⟩ (.int .i64 x)) q p dn (l ++ [x]) vO) ∧ RowKit.Hid (Below B W (W.setCell ⟨g, l.length, none⟩ (.int .i64 x))) ∧ RowKit.Hid ((W.setCell ⟨g, l.length, none⟩ (.int .i64 x)).cell? ⟨g, l.length, none⟩ = some (.int .i64 x)) := by
  have ho := h.o
  obtain ⟨g, cap, hv, hb, hlt⟩ := OwnL.form ho (by simp)
  have hll : (l ++ [x0]).length = l.length + 1 := by simp
  rw [hll] at hv
  subst hv
  obtain ⟨c1, c2⟩ := OwnL.cellInt ho hll.symm l.length (by simp)
  obtain ⟨s1, s2⟩ := OwnL.setInt ho hll.symm l.length x hx
  have hc : l.length + 1 ≤ cap := by obtain ⟨a, c, e, hI⟩ := OwnI.ints ho; simp only [Value.slice.injEq] at e; obtain ⟨-, -, rfl⟩ := e; rw [← hll]; exact hI.cap
  rw [List.getElem_concat_length (by rfl)] at c1
  have hset : (l ++ [x0]).set l.length x = l ++ [x] := by simp
  rw [hset] at s1
  obtain ⟨c3, -⟩ := OwnL.cellInt s1 (by simp) l.length (by simp)
  rw [List.getElem_concat_length (by rfl)] at c3
  obtain ⟨v, h1, h2⟩ := h.p
  obtain ⟨u, h3, h4, h5⟩ := h.d
  have t1 := own_types h2 ho (by decide)
  have keep : ∀ k, k < W.heap.size → g ≠ k → (W.setCell ⟨g, l.length, none⟩ (.int .i64 x)).heap[k]? = W.heap[k]? := fun k hk hr => s2.block k hk (fun e => hr (by injection e with e; exact e.symm))
  refine ⟨g, cap, rfl, hc, Lib.hid c1, Lib.hid c2, Lib.hid ⟨⟨v, (keep _ h1.lt (by omega)).trans h1, ?_⟩, h.m.same (keep _ h.m.lt (by omega)), (keep _ h.a.lt (by omega)).trans h.a, ⟨u, (keep _ h3.lt (by omega)).trans h3, ?_, h5⟩, s1, Nat.le_trans h.sz s2.size⟩, Lib.hid ?_, Lib.hid c3⟩
  · exact OwnL.kept h2 (fun k hk => keep k (OwnL.lt h2 k hk).2 (fun e => t1 k hk (by rw [← e]; rfl))) (fun b hb _ => hb.1.elim)
  · exact OwnL.kept h4 (fun k hk => keep k (OwnL.lt h4 k hk).2 (fun e => h5 k (by rw [← e]; rfl) hk)) (fun b hb _ => hb.1.elim)
  · exact (Below.refl B W).grown s2 (Nat.le_trans (by omega) h.sz) (fun k e => by injection e with e; omega)
/-- the last open one is left -/
theorem Um.takeO {l : List Int} {x0 : Int} {g n cap : Nat} (h : Um B W q p dn (l ++ [x0]) (.slice (some ⟨g, 0, none⟩) n cap)) (hn : n = l.length + 1) : Um B W q p dn l (.slice (some ⟨g, 0, none⟩) l.length cap) := by
  obtain ⟨u, h3, h4, h5⟩ := h.d
  have := OwnI.takeN h.o (k := l.length) (by simp [hn]) (by omega)
  rw [List.take_left'] at this
  · exact ⟨h.p, h.m, h.a, ⟨u, h3, h4, h5⟩, this, h.sz⟩
  · rfl
/-- the last two that are done are left -/
theorem Um.takeD {l : List Int} {x0 x1 : Int} (h : Um B W q p (l ++ [x0] ++ [x1]) op vO) :
    ∃ g cap, l.length + 1 + 1 ≤ cap ∧ RowKit.Hid (W.cell? ⟨B + 3, 0, none⟩ = some (.slice (some ⟨g, 0, none⟩) (l.length + 1 + 1) cap)) ∧ RowKit.Hid (W.frozen? ⟨B + 3, 0, none⟩ = false) ∧ RowKit.Hid (W.cell? ⟨g, l.length, none⟩ = some (.int .i64 x0)) ∧ RowKit.Hid (W.cell? ⟨g, l.length + 1, none⟩ = some (.int .i64 x1)) ∧
      RowKit.Hid (Um B (W.setCell ⟨B + 3, 0, none⟩ (.slice (some ⟨g, 0, none⟩) l.length cap)) q p l op vO) ∧ RowKit.Hid (Below B W (W.setCell ⟨B + 3, 0, none⟩ (.slice (some ⟨g, 0, none⟩) l.length cap))) := by
  obtain ⟨v, h1, h2⟩ := h.p
  obtain ⟨u, h3, h4, h5⟩ := h.d
  obtain ⟨g, cap, hv, hb, hlt⟩ := OwnL.form h4 (by simp)
  have hll : (l ++ [x0] ++ [x1]).length = l.length + 1 + 1 := by simp
  rw [hll] at hv
  subst hv
  have hc : l.length + 1 + 1 ≤ cap := by obtain ⟨a, c, e, hI⟩ := OwnI.ints h4; simp only [Value.slice.injEq] at e; obtain ⟨-, -, rfl⟩ := e; rw [← hll]; exact hI.cap
  obtain ⟨c1, -⟩ := OwnL.cellInt h4 hll.symm l.length (by simp)
  obtain ⟨c2, -⟩ := OwnL.cellInt h4 hll.symm (l.length + 1) (by simp)
  rw [List.getElem_append_left (by simp), List.getElem_concat_length (by rfl)] at c1
  rw [List.getElem_concat_length (by simp)] at c2
  have hk := OwnI.takeN h4 (k := l.length) hll.symm (by omega)
  rw [List.append_assoc, List.take_left' (by rfl)] at hk
  have hg3 : W.grownBy (W.setCell ⟨B + 3, 0, none⟩ (.slice (some ⟨g, 0, none⟩) l.length cap)) (some (B + 3)) := grownBy_setCell' _ _ _
  have keep : ∀ k, k < W.heap.size → k ≠ B + 3 → (W.setCell ⟨B + 3, 0, none⟩ (.slice (some ⟨g, 0, none⟩) l.length cap)).heap[k]? = W.heap[k]? := fun k hk hr => hg3.block k hk (fun e => hr (by injection e))
  refine ⟨g, cap, hc, Lib.hid h3.cell, Lib.hid h3.frozen, Lib.hid c1, Lib.hid c2, Lib.hid ⟨⟨v, (keep _ h1.lt (by omega)).trans h1, ?_⟩, h.m.same (keep _ h.m.lt (by omega)), (keep _ h.a.lt (by omega)).trans h.a, ⟨_, h3.set _, ?_, h5⟩, ?_, Nat.le_trans h.sz hg3.size⟩, Lib.hid ?_⟩
  · exact OwnL.kept h2 (fun k hk => keep k (OwnL.lt h2 k hk).2 (by have := (OwnL.lt h2 k hk).1; omega)) (fun b hb _ => hb.1.elim)
  · exact OwnL.kept hk (fun k hk' => keep k (OwnL.lt hk k hk').2 (by have := (OwnL.lt hk k hk').1; omega)) (fun b hb _ => hb.1.elim)
  · exact OwnL.kept h.o (fun k hk => keep k (OwnL.lt h.o k hk).2 (by have := (OwnL.lt h.o k hk).1; omega)) (fun b hb _ => hb.1.elim)
  · exact (Below.refl B W).grown hg3 (Nat.le_trans (by omega) h.sz) (fun k e => by injection e with e; omega)
end
theorem atoi2 {a b : UInt8} (ha : isDig a = true) (hb : isDig b = true) {s : ByteArray} (hs : s.data.toList = [a, b]) : Lib.atoi s.data.toList = some (numOf a b : Int) := by
  simp only [isDig, Bool.and_eq_true, decide_eq_true_eq] at ha hb
  have h45 : (a == 45) = false := by rw [beq_eq_false_iff_ne]; intro e; rw [e] at ha; simp at ha
  have h43 : (a == 43) = false := by rw [beq_eq_false_iff_ne]; intro e; rw [e] at ha; simp at ha
  rw [hs, Lib.atoi, h45, h43]
  simp only [Bool.false_eq_true, if_false, Lib.decNat, List.isEmpty_cons, Lib.decFrom, Lib.digitVal, if_pos ha, if_pos hb, Option.map_some]
  unfold numOf
  congr 2; omega
theorem digit_any (b : UInt8) (w : World) : Calls Tryd.prog 44 #[.int .u8 b.toNat] w fun e w' => e = .returned (.bool (isDig b)) ∧ w = w' := by
  have h := b.toNat_lt
  have hd : isDig b = (decide ((48 : Int) ≤ (b.toNat : Int)) && decide ((b.toNat : Int) ≤ 57)) := by
    unfold isDig; rw [Bool.eq_iff_iff]; simp only [Bool.and_eq_true, decide_eq_true_eq]; omega
  rw [hd]
  go_enter Tryd.func44, Tryd.ntmps44
  go_wp2
  all_goals go_ret
  all_goals exact ⟨ret_bool (by simp; omega), rfl⟩
def untI (G : Int) (t : ByteArray) (w : World) (vO iV : Value) (wr : World) : Prop :=
  ∃ (k : Nat) (st : List (Option Nat)) (p : List Stp) (w0 : Option Nat), iV = .int .i64 k ∧ k ≤ t.size ∧ Jo G st p w0 (t.data.toList.take k) ∧ untR G (t.data.toList.drop k) st p w0 = untR G t.data.toList [] [] none ∧ Um w.heap.size wr p p (dnW st w0) (opOf st) vO ∧ Below w.heap.size w wr
def untC (G : Int) (t : ByteArray) (w : World) (k : Nat) (vO : Value) (wr : World) : Prop :=
  ∃ (st : List (Option Nat)) (p : List Stp) (kk : Nat), Jc G st p kk k (t.data.toList.take (k + 3)) ∧ untR G (t.data.toList.drop (k + 3)) (closeP st p kk).1 (closeP st p kk).2.1 (closeP st p kk).2.2 = untR G t.data.toList [] [] none ∧ Um w.heap.size wr p p (dnOf st ++ [(kk : Int)]) (opOf st) vO ∧ Below w.heap.size w wr
def lenV (v : Value) : Nat := match v with | .slice _ n _ => n | _ => 0
theorem um_start (w : World) : Um w.heap.size ((((w.alloc (.cells #[.slice none 0 0] 25)).alloc (.map #[] 0)).alloc (.cells #[.map (some (w.heap.size + 1))] 81)).alloc (.cells #[.slice none 0 0] 34)) [] [] [] [] (.slice none 0 0) := by
  have h1 := Boxed.new w 25 (.slice none 0 0)
  have h2 := VMap.made KSt (w.alloc (.cells #[.slice none 0 0] 25))
  have h3 := Boxed.new ((w.alloc (.cells #[.slice none 0 0] 25)).alloc (.map #[] 0)) 81 (.map (some (w.heap.size + 1)))
  have h4 := Boxed.new (((w.alloc (.cells #[.slice none 0 0] 25)).alloc (.map #[] 0)).alloc (.cells #[.map (some (w.heap.size + 1))] 81)) 34 (.slice none 0 0)
  have hm := h2.same (w' := (((w.alloc (.cells #[.slice none 0 0] 25)).alloc (.map #[] 0)).alloc (.cells #[.map (some (w.heap.size + 1))] 81)).alloc (.cells #[.slice none 0 0] 34)) ((below2 _ _ _).block _ (by simp))
  have he : atF [] = fun _ => none := by funext x; unfold atF; simp
  simp only [World.size_alloc] at h2 h3 h4 hm
  refine ⟨⟨_, ((h1.alloc _).alloc _).alloc _, .nil _ _ _ _ _⟩, by rw [he]; exact hm, h3.alloc _, ⟨_, h4, .nil _ _ _ _ _, fun k hk => by simp [Value.ownBlock] at hk⟩, .nil _ _ _ _ _, by simp⟩
theorem below4 (w : World) (o1 o2 o3 o4 : Obj) : Below w.heap.size w ((((w.alloc o1).alloc o2).alloc o3).alloc o4) := bcall (below3 w o1 o2 o3) (below1 _ o4)
theorem drop_cons {t : ByteArray} {k : Nat} (h : k < t.size) : t.data.toList.drop k = t[k] :: t.data.toList.drop (k + 1) := by
  rw [List.drop_eq_getElem_cons (by simpa using h)]; rfl
theorem take_cons {t : ByteArray} {k : Nat} (h : k < t.size) : t.data.toList.take (k + 1) = t.data.toList.take k ++ [t[k]] := by
  rw [List.take_succ_eq_append_getElem (by simpa using h)]; rfl
theorem u8_int_eq {b : UInt8} {n : Nat} (hn : n < 256) : ((b.toNat : Int) == (n : Int)) = decide (b = UInt8.ofNat n) := by
  rw [Bool.eq_iff_iff]
  simp only [beq_iff_eq, decide_eq_true_eq]
  constructor
  · intro h; have : b.toNat = n := by omega
    rw [← this]; simp
  · intro h; rw [h, UInt8.toNat_ofNat_of_lt' hn]
theorem extract2 {t : ByteArray} {k : Nat} (h : k + 3 ≤ t.size) : (t.extract (k + 1) (k + 3)).data.toList = [t[k + 1], t[k + 2]] ∧ (t.extract (k + 1) (k + 3)).size ≤ 18 := by
  have hs : (t.extract (k + 1) (k + 3)).size = 2 := by rw [ByteArray.size_extract]; omega
  refine ⟨?_, by omega⟩
  apply List.ext_getElem
  · rw [Array.length_toList]; exact hs
  · intro i h1 h2
    have hi : i < (t.extract (k + 1) (k + 3)).size := by rw [Array.length_toList] at h1; exact h1
    have e : (t.extract (k + 1) (k + 3)).data.toList[i] = (t.extract (k + 1) (k + 3))[i] := rfl
    rw [e, ByteArray.getElem_extract]
    match i, hi with
    | 0, _ => rfl
    | 1, _ => rfl
    | n + 2, hi => omega
theorem bcall' {B : Nat} {w w1 w2 w3 : World} (h1 : Below B w w1) (h2 : Below w1.heap.size w1 w2) (h3 : Below B w2 w3) (hB : B ≤ w1.heap.size) : Below B w w3 := h1.trans ((h2.mono hB).trans h3)
theorem take_size_le (t : ByteArray) (k : Nat) : (t.data.toList.take k).length ≤ t.size := by
  rw [List.length_take, Array.length_toList]; exact Nat.min_le_right _ _
theorem numOf_le {a b : UInt8} (ha : isDig a = true) (hb : isDig b = true) : numOf a b < 100 := by
  simp only [isDig, Bool.and_eq_true, decide_eq_true_eq] at ha hb
  unfold numOf; omega
end Go.Proofs.YtgkddhakhapjlaaDoor
