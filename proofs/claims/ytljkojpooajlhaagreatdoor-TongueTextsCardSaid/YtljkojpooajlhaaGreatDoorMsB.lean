/- The proof of a statement, some of its texts joined in build order: part B. -/
import Derived.Test.YtljkojpooajlhaaGreatDoorWalkF
import Derived.Test.YtljkojpooajlhaaGreatDoorMath2
import Derived.Test.YtljkojpooajlhaaGreatDoorLit
import Derived.Test.YtljkojpooajlhaaGreatDoorMath3
import Derived.Test.YtljkojpooajlhaaGreatDoorMath4
import Derived.Test.YtljkojpooajlhaaGreatDoorUni
import Derived.Test.YtljkojpooajlhaaGreatDoorMath5
import Derived.Lib.AppendZeros
import Derived.Test.YtljkojpooajlhaaGreatDoorVMap
import Derived.Test.YtljkojpooajlhaaGreatDoorWalkE
import Derived.Test.YtljkojpooajlhaaGreatDoorUniStep
import Derived.Test.YtljkojpooajlhaaGreatDoorMath6
import Derived.Deep.LoopGhost
import Derived.Test.YtljkojpooajlhaaGreatDoorWalkD
import Derived.Test.YtljkojpooajlhaaGreatDoorUSt
import Derived.Test.YtljkojpooajlhaaGreatDoorRegion
import Derived.Test.YtljkojpooajlhaaGreatDoorBoxList
/- Walks: the reference's variables and renaming. -/
namespace Go.Proofs.YtljkojpooajlhaaGreatDoor
open Go Go.RowKit Go.Maps

def varRel (t : List Int) (w : World) (out i : Value) (wr : World) : Prop :=
  ∃ k : Nat, i = .int .i64 k ∧ k ≤ t.length ∧ OwnI wr w.heap.size out ((varsC (t.take k)).map vnum) ∧ Below w.heap.size w wr

theorem OwnL.drewN {α : Type} {E : Enc α} {S : Nat → Prop} {w : World} {base : Nat} {e : TypeId} {v : Value} {l : List α} (h : OwnL E S w base e v l) (n : Nat) : OwnL E S (w.drewN n) base e v l := h.kept (fun _ _ => rfl) (fun _ _ _ => rfl)
theorem drewN_setCell (w : World) (n : Nat) (a : Addr) (u : Value) : (w.drewN n).setCell a u = (w.setCell a u).drewN n := rfl
def renRel (t : List Int) (w : World) (B g cap : Nat) (i : Value) (wr : World) : Prop :=
  ∃ k : Nat, i = .int .i64 k ∧ k ≤ t.length ∧ OwnI wr B (.slice (some ⟨g, 0, none⟩) t.length cap) (doneTo (canonW (varsC t)) t k) ∧ Below B w wr
def renRel2 (t : List Int) (w : World) (B g cap k : Nat) (x : Int) (j : Value) (wr : World) : Prop :=
  ∃ i : Nat, j = .int .i64 i ∧ i ≤ (varsC t).length ∧ OwnI wr B (.slice (some ⟨g, 0, none⟩) t.length cap) ((doneTo (canonW (varsC t)) t k).set k (midW t i x)) ∧ Below B w wr

end Go.Proofs.YtljkojpooajlhaaGreatDoor

/- Walks: Alike, Canonical, Depth; what the laws begin with. -/
namespace Go.Proofs.YtljkojpooajlhaaGreatDoor
open Go Go.RowKit Go.Maps

def alikeT (s : Sg) (a b : List Int) : Bool := okT s a && okT s b && decide (canon a = canon b)
theorem canon_length (t : List Int) : (canon t).length = t.length := by simp [canon]
theorem okT_lim {s : Sg} {t : List Int} (h : okT s t = true) : t.length ≤ lim := by
  obtain ⟨_, _, h, _⟩ := okT_parts h; unfold lim; omega

def smallT (s : Sg) (l : List (List Int)) : Bool := l.all (fun t => decide (t.length ≤ 200)) && decide (s.length ≤ 40)
def awS : Sg := [(⟨#[67]⟩, 2), (⟨#[78]⟩, 1)]
def awT : List Int := [0, -1, 0, -2, -1]
def awU : List Int := [0, -3, -3]
theorem aw1 : okT awS awT = true := by decide +kernel
theorem aw2 : okT awS awU = true := by decide +kernel
theorem aw3 : depth awS awT = 3 := by decide +kernel
theorem aw4 : canon awU = [0, -1, -1] := by decide +kernel
theorem awSign (w : World) : Sign (fun b => b = w.heap.size) (w.alloc (.cells #[.string ⟨#[67]⟩, .int .i64 2, .string ⟨#[78]⟩, .int .i64 1] 37)) (some ⟨w.heap.size, 0, none⟩) 2 awS := by
  have := Sl.new (E := symE) (S := fun _ => False) w [[.string ⟨#[67]⟩, .int .i64 2], [.string ⟨#[78]⟩, .int .i64 1]] awS 37 rfl (by decide) (fun i h1 h2 => by
    match i, h1 with
    | 0, _ => exact ⟨[_], [_], rfl, ⟨rfl, (by decide : 1 ≤ big)⟩, ⟨rfl, (by unfold inRange; decide : inRange 2)⟩⟩
    | 1, _ => exact ⟨[_], [_], rfl, ⟨rfl, (by decide : 1 ≤ big)⟩, ⟨rfl, (by unfold inRange; decide : inRange 1)⟩⟩)
  exact this.weak (fun b h => h.resolve_left (fun h => h))
end Go.Proofs.YtljkojpooajlhaaGreatDoor

/- Walks: Canonical of the reference, IsCanonical, Shape, of both. -/
namespace Go.Proofs.YtljkojpooajlhaaGreatDoor
open Go Go.RowKit Go.Maps

def retE (r : List Int × Int) (w : World) (e : Ending) (w' : World) : Prop := ∃ v, e = .returned (.tuple #[v, .int .i64 r.2]) ∧ OwnI w' w.heap.size v r.1 ∧ Below w.heap.size w w'
theorem bcall {w w1 w2 : World} (h : Below w.heap.size w w1) (hb : Below w1.heap.size w1 w2) : Below w.heap.size w w2 := h.trans (hb.mono h.size)
def canonE (s : Sg) (t : List Int) : List Int × Int := errE s t (canon t)
def flatE (s : Sg) (t : List Int) : List Int × Int := errE s t (flat t)
def isCanonT (s : Sg) (t : List Int) : Bool := okT s t && decide (canon t = t)

def shRel (t : List Int) (w : World) (B g cap : Nat) (i : Value) (wr : World) : Prop :=
  ∃ k : Nat, i = .int .i64 k ∧ k ≤ t.length ∧ OwnI wr B (.slice (some ⟨g, 0, none⟩) t.length cap) (doneTo (fun n => if n < 0 then -1 else n) t k) ∧ Below B w wr
theorem flat_range {x : Int} (h : inRange x) : inRange (if x < 0 then -1 else x) := by unfold inRange at *; split <;> omega

end Go.Proofs.YtljkojpooajlhaaGreatDoor

/- Walks: the order of lists. -/
namespace Go.Proofs.YtljkojpooajlhaaGreatDoor
open Go Go.RowKit Go.Maps

theorem drew_more {w w1 : World} (h : Drew w w1) (n : Nat) : Drew w (w1.drewN n) := by obtain ⟨m, rfl⟩ := h; exact .mk2 _ _ _
def orI (l : List Int) : Int := match l with | [] => 0 | x :: r => if x ≠ 0 then x else orI r
theorem orI_drop {l : List Int} {k : Nat} (h : k < l.length) : orI (l.drop k) = if l[k] ≠ 0 then l[k] else orI (l.drop (k + 1)) := by
  rw [List.drop_eq_getElem_cons h, orI]
end Go.Proofs.YtljkojpooajlhaaGreatDoor

/- Walks: arguments of terms, of the program. -/
namespace Go.Proofs.YtljkojpooajlhaaGreatDoor
open Go Go.RowKit Go.Maps

abbrev OwnTs (S : Nat → Prop) (w : World) (base : Nat) (v : Value) (l : List (List Int)) : Prop := OwnL (slE intE) S w base 40 v l
theorem infoTerm : (Tryz.prog.info? 40).map (fun i => (i.zero, i.size, i.bytes)) = some (some (.slice none 0 0), 1, 24) := by kernel_rfl
/-- a part of a slice -/
theorem Ints.part {S : Nat → Prop} {w : World} {b off c : Nat} {l : List Int} (h : Ints S w (some ⟨b, off, none⟩) c l) (i j c' : Nat) (hij : i ≤ j) (hj : j ≤ l.length) (h1 : j - i ≤ c') (h2 : c' ≤ c) :
    Ints S w (some ⟨b, off + i, none⟩) c' ((l.drop i).take (j - i)) := by
  refine ⟨by simp; omega, Nat.le_trans h2 h.max, fun e => by simp at e, fun hne => ?_⟩
  have hl : 0 < ((l.drop i).take (j - i)).length := by
    rcases Nat.eq_zero_or_pos ((l.drop i).take (j - i)).length with h0 | h0
    · exact (hne (List.length_eq_zero_iff.1 h0)).elim
    · exact h0
  simp at hl
  obtain ⟨b', o', he, hb, hlt, hc⟩ := h.dat (by intro e; subst e; simp at hl)
  simp only [Option.some.injEq, Addr.mk.injEq, and_true] at he
  obtain ⟨rfl, rfl⟩ := he
  refine ⟨b, off + i, rfl, hb, hlt, fun k hk => ?_⟩
  simp at hk
  obtain ⟨vs, v1, v2, v3⟩ := hc (i + k) (by omega)
  refine ⟨vs, v1, fun q hq => ?_, ?_⟩
  · have := v2 q hq
    rw [show off + i + k * intE.size + q = off + (i + k) * intE.size + q by simp [intE]; omega]
    exact this
  · have : ((l.drop i).take (j - i))[k]'(by simp; omega) = l[i + k]'(by omega) := by simp
    rw [this]; exact v3

def argRel (S2 : Nat → Prop) (s : Sg) (t : List Int) (m : Nat) (w : World) (out at_ i : Value) (wr : World) : Prop :=
  ∃ j p : Nat, i = .int .i64 j ∧ at_ = .int .i64 p ∧ j ≤ m ∧ 1 ≤ p ∧ p ≤ t.length ∧ skip s (m - j) (t.drop p) = some [] ∧ (argsT s t).take j ++ splitK s (m - j) (t.drop p) = argsT s t ∧
    OwnTs (fun b => S2 b ∧ b < w.heap.size) wr w.heap.size out ((argsT s t).take j) ∧ Below w.heap.size w wr
def retTerms (S : Nat → Prop) (w : World) (l : List (List Int)) (e : Ending) (w' : World) : Prop := ∃ v, e = .returned v ∧ OwnTs S w' w.heap.size v l ∧ Below w.heap.size w w'

theorem retTerms.weak {S S' : Nat → Prop} {w : World} {l : List (List Int)} {e : Ending} {w' : World} (h : retTerms S w l e w') (hS : ∀ b, S b → S' b) : retTerms S' w l e w' := by
  obtain ⟨v, rfl, ⟨xs, h1, h2, h3⟩, hb⟩ := h
  exact ⟨v, rfl, ⟨xs, h1, h2, fun i g1 g2 => (slE intE).mono (h3 i g1 g2) (fun b _ hb => ⟨hS b hb.1, hb.2⟩) (.refl _ _)⟩, hb⟩
end Go.Proofs.YtljkojpooajlhaaGreatDoor

/- Walks of package unify: where parts end; terms with variables of any number. -/
namespace Go.Proofs.YtljkojpooajlhaaGreatDoor
open Go Go.RowKit Go.Maps

theorem okSign_ars {s : Sg} (h : okSign s = true) (n : Nat) (hn : n < s.length) : 0 ≤ s[n].2 ∧ s[n].2 ≤ 3 := by
  simp only [okSign, Bool.and_eq_true] at h
  have := List.all_eq_true.1 h.1.1.2 s[n] (List.getElem_mem hn)
  simp only [entOk, Bool.and_eq_true, decide_eq_true_eq] at this
  omega
theorem arW_sym {s : Sg} {n : Nat} (hn : n < s.length) (h0 : 0 ≤ s[n].2) : (s[n].2 : Int) = (arW s (n : Int) : Nat) := by
  unfold arW
  rw [if_neg (by omega), Int.toNat_natCast, List.getD_eq_getElem?_getD, List.getElem?_eq_getElem hn]
  simp only [Option.getD_some]
  omega
theorem arW_neg {s : Sg} {n : Int} (h : n < 0) : arW s n = 0 := by unfold arW; rw [if_pos h]

def aftRel (s : Sg) (t r : List Int) (w : World) (at_ op : Value) (wr : World) : Prop :=
  ∃ p k : Nat, at_ = .int .i64 p ∧ op = .int .i64 k ∧ p ≤ t.length ∧ skw s k (t.drop p) = some r ∧ wr = w
end Go.Proofs.YtljkojpooajlhaaGreatDoor

/- Walks of the reference: where parts end, arguments, parts; lists of terms alike; all valid. -/
namespace Go.Proofs.YtljkojpooajlhaaGreatDoor
open Go Go.RowKit Go.Maps

def rendRel (s : Sg) (t r : List Int) (w : World) (at_ need : Value) (wr : World) : Prop :=
  ∃ p k : Nat, at_ = .int .i64 p ∧ need = .int .i64 k ∧ p ≤ t.length ∧ skip s k (t.drop p) = some r ∧ wr = w
def argPRel (s : Sg) (t r P : List Int) (m : Nat) (w : World) (out k i : Value) (wr : World) : Prop :=
  ∃ j q : Nat, i = .int .i64 j ∧ k = .int .i64 q ∧ j ≤ m ∧ q ≤ t.length ∧ skip s (m - j) (t.drop q) = some r ∧ P.take j ++ posK s t.length (m - j) (t.drop q) = P ∧ OwnI wr w.heap.size out (P.take j) ∧ Below w.heap.size w wr
end Go.Proofs.YtljkojpooajlhaaGreatDoor

/- Walks: Args, of both; lists of terms alike; all valid. -/
namespace Go.Proofs.YtljkojpooajlhaaGreatDoor
open Go Go.RowKit Go.Maps

theorem quiet_drew {P : Program} {f : FuncId} {args : Array Value} {w : World} {n : Nat} {v : Value}
    (h : Calls P f args (w.drewN n) fun e w' => e = .returned v ∧ Drew (w.drewN n) w') : Calls P f args (w.drewN n) fun e w'' => e = .returned v ∧ ∃ m, w'' = w.drewN m :=
  h.mono fun _ _ ⟨he, m, hm⟩ => ⟨he, n + m, by rw [hm]; simp⟩

theorem flatten_set1 : ∀ {xs : List (List Value)} (_ : ∀ x ∈ xs, x.length = 1) (i : Nat) (u : Value), (xs.set i [u]).flatten = xs.flatten.set i u
  | [], _, _, _ => rfl
  | x :: r, h, i, u => by
    have hx := h x (by simp)
    obtain ⟨y, rfl⟩ := List.length_eq_one_iff.1 hx
    cases i with
    | zero => rfl
    | succ i =>
      rw [List.set_cons_succ, List.flatten_cons, flatten_set1 (fun z hz => h z (by simp [hz])) i u]; rfl
section
variable {S : Nat → Prop} {w : World} {base g n cap : Nat} {l : List (List Int)}
theorem OwnTs.ones {xs : List (List Value)} {T : Nat → Prop} (hl : xs.length = l.length) (hx : ∀ i (h1 : i < xs.length) (h2 : i < l.length), (slE intE).R T w xs[i] l[i]) : ∀ x ∈ xs, x.length = 1 := by
  intro x hxm
  obtain ⟨i, hi, rfl⟩ := List.getElem_of_mem hxm
  exact (slE intE).len (hx i hi (by omega))
theorem OwnTs.cell (h : OwnTs S w base (.slice (some ⟨g, 0, none⟩) n cap) l) (hn : n = l.length) (i : Nat) (hi : i < l.length) :
    ∃ a c, w.cell? ⟨g, i, none⟩ = some (.slice a l[i].length c) ∧ Ints (Off S (.slice (some ⟨g, 0, none⟩) n cap)) w a c l[i] ∧ w.frozen? ⟨g, i, none⟩ = false := by
  subst hn
  obtain ⟨xs, ho, hl, hx⟩ := h
  have hi' : i < xs.length := by omega
  obtain ⟨a, c, he, hI⟩ := hx i hi' hi
  have h1 := OwnTs.ones hl hx
  refine ⟨a, c, ?_, hI, ho.frozenAt i⟩
  rw [ho.cellAt i (by show i < l.length * 1; omega)]
  have := flatten_get h1 i hi' 0 (by rw [he]; simp)
  rw [Nat.mul_one, Nat.add_zero] at this
  rw [this]; simp [he]
theorem OwnTs.set (h : OwnTs S w base (.slice (some ⟨g, 0, none⟩) n cap) l) (hn : n = l.length) (i : Nat) {a : Option Addr} {c : Nat} {u : List Int} (hu : Ints (Off S (.slice (some ⟨g, 0, none⟩) n cap)) w a c u) :
    OwnTs S (w.setCell ⟨g, i, none⟩ (.slice a u.length c)) base (.slice (some ⟨g, 0, none⟩) n cap) (l.set i u) ∧ w.grownBy (w.setCell ⟨g, i, none⟩ (.slice a u.length c)) (some g) := by
  subst hn
  obtain ⟨xs, ho, hl, hx⟩ := h
  have h1 := OwnTs.ones hl hx
  obtain ⟨r1, r2⟩ := ho.stored i (.slice a u.length c)
  have hA : Agree (Off S (.slice (some ⟨g, 0, none⟩) l.length cap)) w (w.setCell ⟨g, i, none⟩ (.slice a u.length c)) := .of_grown r2 (fun b hb e => hb.2 (by rw [e]; rfl))
  refine ⟨⟨xs.set i [.slice a u.length c], by rw [List.length_set, flatten_set1 h1]; exact r1, by simp [hl], fun j h1 h2 => ?_⟩, r2⟩
  by_cases hj : i = j
  · subst hj
    simp only [List.getElem_set_self]
    exact (slE intE).mono (w := w) (S := Off S (.slice (some ⟨g, 0, none⟩) l.length cap)) ⟨a, c, rfl, hu⟩ (fun _ _ h => h) hA
  · rw [List.getElem_set_ne hj, List.getElem_set_ne hj]
    exact (slE intE).mono (hx j (by simpa using h1) (by simpa using h2)) (fun _ _ h => h) hA
end

def argsE (s : Sg) (t : List Int) : List (List Int) × Int := if okT s t then (argsT s t, 0) else ([], 1)
theorem argsE_ok {s : Sg} {t : List Int} (h : okT s t = true) : argsE s t = (argsT s t, 0) := by rw [argsE, if_pos h]
theorem argsE_no {s : Sg} {t : List Int} (h : okT s t = false) : argsE s t = ([], 1) := by rw [argsE, h]; rfl
def retTE (r : List (List Int) × Int) (w : World) (e : Ending) (w' : World) : Prop := ∃ v, e = .returned (.tuple #[v, .int .i64 r.2]) ∧ OwnTs (fun _ => True) w' w.heap.size v r.1 ∧ Below w.heap.size w w'

def ArgRel (L : List (List Int)) (w : World) (v i : Value) (wr : World) : Prop := ∃ k : Nat, i = .int .i64 k ∧ k ≤ L.length ∧ OwnTs (fun _ => True) wr w.heap.size v L ∧ Below w.heap.size w wr
def rArgRel (L : List (List Int)) (w : World) (out i : Value) (wr : World) : Prop := ∃ k : Nat, i = .int .i64 k ∧ k ≤ L.length ∧ OwnTs (fun _ => True) wr w.heap.size out (L.take k) ∧ Below w.heap.size w wr
end Go.Proofs.YtljkojpooajlhaaGreatDoor

/- Walks: slices.Grow, slices.Concat, of terms. -/
namespace Go.Proofs.YtljkojpooajlhaaGreatDoor
open Go Go.RowKit Go.Maps

theorem wpList_append_run2 {P : Program} {w : World} {ops : Array Oper} {rest : List Oper} {o : Oper} {a : Act} {Q : Exit → Act → World → Prop} (hgd : o.guard = none) (s x : Operand) (t t2 : TypeId)
    (ho : o.op = .call { callee := .builtin .append, args := #[s, x], argTypes := #[t, t2] }) {vs vx : Value} (hs : a.eval s = vs) (hx : a.eval x = vx) {v' : Value} {w' : World}
    (hr : (Builtin.append_ #[t, t2] o.type #[vs, vx]).run P w = .ok v' w') (h : wpList P ops Q rest (a.put o.dst v') w') : wpList P ops Q (o :: rest) a w := by
  refine wpList_plain hgd fun K hK => ?_
  unfold Oper.wp execOp
  simp only [ho, resolve, invoke, builtin, Sem.run_bind, Sem.run_pure, Result.andThen_ok, List.map_toArray, List.map_cons, List.map_nil, hs, hx, hr]
  exact hK _ _ h
theorem infoInt2 : ∃ i, Tryz.prog.info? 3 = some i ∧ i.zero = some (.int .i64 0) ∧ i.size = 1 ∧ i.bytes = 8 := by
  obtain ⟨i, h, h1, h2, h3⟩ := info_parts infoInt
  exact ⟨i, h, h1, h2, h3⟩
theorem ints_append {S2 : Nat → Prop} {w : World} {base : Nat} {v : Value} {l l2 : List Int} {a : Option Addr} {c : Nat} (ho : OwnI w base v l) (h2 : Ints S2 w a c l2) (hl : l.length + l2.length ≤ 10000000) (hb : base ≤ w.heap.size) :
    ∃ v' w', RowKit.Hid ((Builtin.append_ #[40, 40] 40 #[v, .slice a l2.length c]).run Tryz.prog w = .ok v' w') ∧ RowKit.Hid (OwnI w' base v' (l ++ l2)) ∧ RowKit.Hid (Below base w w') := by
  obtain ⟨v', w', hrun, ho', hg, -, -⟩ := ho.append_run (P := Tryz.prog) (t := 40) (ty := 40) Tryz.underlying40 infoInt rfl h2 (fun _ _ _ h => h) (by omega) (by unfold big; omega) hb
  exact ⟨v', w', Lib.hid hrun, Lib.hid ho', Lib.hid ((Below.refl _ _).grown hg hb (fun k e => (ho.lt k e).1))⟩

def cat1Rel (L : List (List Int)) (w : World) (size i : Value) (wr : World) : Prop := ∃ k : Nat, i = .int .i64 k ∧ k ≤ L.length ∧ size = .int .i64 ((L.take k).flatten.length : Nat) ∧ wr = w
def cat2Rel (L : List (List Int)) (w : World) (out i : Value) (wr : World) : Prop := ∃ k : Nat, i = .int .i64 k ∧ k ≤ L.length ∧ OwnI wr w.heap.size out (L.take k).flatten ∧ Below w.heap.size w wr
theorem flat_take_le {L : List (List Int)} {q : Nat} : (L.take q).flatten.length ≤ L.flatten.length := by
  have : L.flatten.length = (L.take q).flatten.length + (L.drop q).flatten.length := by rw [← List.length_append, ← List.flatten_append, List.take_append_drop]
  omega
theorem flat_take_succ {L : List (List Int)} {q : Nat} (h : q < L.length) : (L.take (q + 1)).flatten = (L.take q).flatten ++ L[q] := by
  rw [List.take_succ_eq_append_getElem h, List.flatten_append]; simp
end Go.Proofs.YtljkojpooajlhaaGreatDoor

/- Walks of package unify: match, Instance. -/
namespace Go.Proofs.YtljkojpooajlhaaGreatDoor
open Go Go.RowKit Go.Maps

open Classical in
/-- b is an instance of a -/
noncomputable def instB (s : Sg) (a b : List Int) : Bool := if ∃ η, Wsub s η ∧ ap η a = b then true else false
theorem instB_yes {s : Sg} {a b : List Int} {η : Int → List Int} (h : Wsub s η) (he : ap η a = b) : instB s a b = true := by
  unfold instB; exact if_pos ⟨η, h, he⟩
theorem instB_no {s : Sg} {a b : List Int} (h : ∀ η, Wsub s η → ap η a ≠ b) : instB s a b = false := by
  unfold instB; exact if_neg fun ⟨η, h1, h2⟩ => h η h1 h2
theorem instB_iff {s : Sg} {a b : List Int} : instB s a b = true ↔ ∃ η, Wsub s η ∧ ap η a = b := by unfold instB; split <;> simp_all

/-- the first k numbers of a have become the first i of b -/
structure MRel (s : Sg) (a b : List Int) (k i : Nat) (B : Bd) : Prop where
  ka : k ≤ a.length
  ib : i ≤ b.length
  op : ∃ c, skw s c (a.drop k) = some [] ∧ skw s c (b.drop i) = some []
  wf : ∀ n u, B n = some u → W1 s u
  fwd : ∀ η, (∀ n u, B n = some u → η n = u) → ap η (a.take k) = b.take i
  bwd : ∀ η, Wsub s η → ap η a = b → ∀ n u, B n = some u → η n = u
section
variable {s : Sg} {a b : List Int} {k i : Nat} {B : Bd}
theorem MRel.start (ha : W1 s a) (hb : W1 s b) : MRel s a b 0 0 (fun _ => none) :=
  ⟨Nat.zero_le _, Nat.zero_le _, ⟨1, by simpa using ha, by simpa using hb⟩, fun _ _ h => (by cases h), fun _ _ => rfl, fun _ _ _ _ _ h => (by cases h)⟩
theorem MRel.rest (h : MRel s a b k i B) {η : Int → List Int} (hw : Wsub s η) (he : ap η a = b) : ap η (a.drop k) = b.drop i := by
  have h1 := h.fwd η (h.bwd η hw he)
  have h2 : ap η (a.take k) ++ ap η (a.drop k) = b.take i ++ b.drop i := by rw [← ap_append, List.take_append_drop, List.take_append_drop, he]
  rw [h1] at h2
  exact List.append_cancel_left h2
/-- there is more of b, and what follows there is a part -/
theorem MRel.part (h : MRel s a b k i B) (hk : k < a.length) : i < b.length ∧ ∃ r, skw s 1 (b.drop i) = some r ∧ cw s a[k] = true := by
  obtain ⟨c, h1, h2⟩ := h.op
  cases c with
  | zero => rw [skw_zero] at h1; have := congrArg List.length (Option.some.inj h1); simp at this; omega
  | succ c =>
    obtain ⟨m, hm, -⟩ := skw_one h2
    exact ⟨(skw_drop h2).1, m, hm, (skw_drop h1).2.1⟩
theorem MRel.sym (h : MRel s a b k i B) (hk : k < a.length) (hi : i < b.length) (hp : ¬ a[k] < 0) (he : b[i] = a[k]) : MRel s a b (k + 1) (i + 1) B := by
  obtain ⟨c, h1, h2⟩ := h.op
  have ta : a.take (k + 1) = a.take k ++ [a[k]] := List.take_succ_eq_append_getElem hk
  have tb : b.take (i + 1) = b.take i ++ [b[i]] := List.take_succ_eq_append_getElem hi
  refine ⟨hk, hi, ?_, h.wf, fun η hη => ?_, h.bwd⟩
  · cases c with
    | zero => rw [skw_zero] at h1; have := congrArg List.length (Option.some.inj h1); simp at this; omega
    | succ c =>
      obtain ⟨_, _, g1⟩ := skw_drop h1
      obtain ⟨_, _, g2⟩ := skw_drop h2
      rw [he] at g2
      exact ⟨_, g1, g2⟩
  · rw [ta, tb, ap_append, h.fwd η hη, ap_pos hp, ap_nil, he]
theorem MRel.sym_no (h : MRel s a b k i B) (hk : k < a.length) (hi : i < b.length) (hp : ¬ a[k] < 0) (he : b[i] ≠ a[k]) : instB s a b = false := by
  refine instB_no fun η hw hq => ?_
  have := h.rest hw hq
  rw [List.drop_eq_getElem_cons hk, List.drop_eq_getElem_cons hi, ap_pos hp] at this
  exact he (List.cons.inj this).1.symm
theorem MRel.tail (h : MRel s a b k i B) (hk : k < a.length) (hn : a[k] < 0) {r : List Int} (hr : skw s 1 (b.drop i) = some r) {η : Int → List Int} (hw : Wsub s η) (hq : ap η a = b) : η a[k] = partW s (b.drop i) := by
  have h1 := h.rest hw hq
  rw [List.drop_eq_getElem_cons hk, ap_neg hn] at h1
  obtain ⟨p1, p2, -⟩ := partW_eq hr
  rw [p1] at h1
  exact (W1.uniq (hw _ hn) p2 h1).1
theorem part_ends {r : List Int} (hi : i < b.length) (hr : skw s 1 (b.drop i) = some r) : partW s (b.drop i) = (b.drop i).take (b.length - r.length - i) ∧ i ≤ b.length - r.length ∧ r = b.drop (b.length - r.length) ∧ b.take (b.length - r.length) = b.take i ++ partW s (b.drop i) ∧ W1 s (partW s (b.drop i)) ∧ (partW s (b.drop i)).length = b.length - r.length - i ∧ i < b.length - r.length := by
  obtain ⟨p1, p2, p3⟩ := partW_eq hr
  have hl := partW_len hr
  have hl2 := skw_len s 1 _ _ hr
  rw [List.length_drop] at hl hl2
  have e1 : partW s (b.drop i) = (b.drop i).take (b.length - r.length - i) := by
    unfold partW; rw [hr, Option.getD_some, List.length_drop]; congr 1; omega
  have hi2 : i ≤ b.length - r.length := by omega
  refine ⟨e1, hi2, ?_, ?_, p2, by omega, by omega⟩
  · have : (b.drop i).drop (b.length - r.length - i) = r := by
      rw [congrArg (List.drop (b.length - r.length - i)) p1, List.drop_append_of_le_length (by omega), List.drop_of_length_le (by omega), List.nil_append]
    rw [List.drop_drop, show i + (b.length - r.length - i) = b.length - r.length by omega] at this
    exact this.symm
  · rw [e1, ← List.take_add]; congr 1; omega
theorem MRel.var (h : MRel s a b k i B) (hk : k < a.length) (hn : a[k] < 0) {r : List Int} (hr : skw s 1 (b.drop i) = some r) (hB : B a[k] = none ∨ B a[k] = some (partW s (b.drop i))) :
    MRel s a b (k + 1) (b.length - r.length) (upB B a[k] (partW s (b.drop i))) := by
  have hi := (h.part hk).1
  obtain ⟨-, e2, e3, e4, e5, -⟩ := part_ends hi hr
  have ta : a.take (k + 1) = a.take k ++ [a[k]] := List.take_succ_eq_append_getElem hk
  have hsub : ∀ η : Int → List Int, (∀ n u, upB B a[k] (partW s (b.drop i)) n = some u → η n = u) → (∀ n u, B n = some u → η n = u) ∧ η a[k] = partW s (b.drop i) := fun η hη => by
    have hv := hη a[k] _ (by unfold upB; rw [if_pos rfl])
    refine ⟨fun n u hu => ?_, hv⟩
    by_cases e : n = a[k]
    · subst e
      rcases hB with g | g
      · rw [g] at hu; cases hu
      · rw [g] at hu; rw [← Option.some.inj hu]; exact hv
    · exact hη n u (by unfold upB; rw [if_neg e]; exact hu)
  refine ⟨hk, by omega, ?_, fun n u hu => ?_, fun η hη => ?_, fun η hw hq n u hu => ?_⟩
  · obtain ⟨c, h1, h2⟩ := h.op
    cases c with
    | zero => rw [skw_zero] at h1; have := congrArg List.length (Option.some.inj h1); simp at this; omega
    | succ c =>
      obtain ⟨_, _, g1⟩ := skw_drop h1
      rw [arW_neg hn, Nat.add_zero] at g1
      obtain ⟨m, m1, m2⟩ := skw_one h2
      rw [hr] at m1
      cases m1
      rw [← e3]
      exact ⟨c, g1, m2⟩
  · unfold upB at hu
    split at hu
    · cases hu; exact e5
    · exact h.wf n u hu
  · obtain ⟨g1, g2⟩ := hsub η hη
    rw [ta, ap_append, h.fwd η g1, ap_one hn, g2, e4]
  · unfold upB at hu
    split at hu
    · rename_i e; cases hu; rw [e]; exact h.tail hk hn hr hw hq
    · exact h.bwd η hw hq n u hu
theorem MRel.var_no (h : MRel s a b k i B) (hk : k < a.length) (hn : a[k] < 0) {r u : List Int} (hr : skw s 1 (b.drop i) = some r) (hB : B a[k] = some u) (hne : u ≠ partW s (b.drop i)) : instB s a b = false := by
  refine instB_no fun η hw hq => hne ?_
  rw [← h.bwd η hw hq _ _ hB]
  exact h.tail hk hn hr hw hq
theorem MRel.done (h : MRel s a b a.length i B) : instB s a b = true := by
  have hi : i = b.length := by
    obtain ⟨c, h1, h2⟩ := h.op
    rw [List.drop_length] at h1
    cases c with
    | zero => rw [skw_zero] at h2; have := congrArg List.length (Option.some.inj h2); simp at this; have := h.ib; omega
    | succ c => rw [skw_nil] at h1; cases h1
  have hf := h.fwd (fun n => (B n).getD [n]) (fun n u hu => by simp only [hu, Option.getD_some])
  rw [List.take_length, hi, List.take_length] at hf
  refine instB_yes (fun n hn => ?_) hf
  cases hB : B n with
  | none => exact W1.var hn
  | some u => exact h.wf n u hB
end

theorem zTerm (w : World) : (zeroValue 40).run Tryz.prog w = .ok (.slice none 0 0) w := by kernel_rfl
noncomputable abbrev KI := intK (P := Tryz.prog) (tk := 3) Tryz.underlying3
/-- a map in the world that holds what is bound -/
def BdMap (w0 w : World) (mb : Nat) (n : Nat) (B : Bd) : Prop :=
  ∃ f, VMap KI w mb n f ∧ (∀ x, B x = none → f x = none) ∧ ∀ x u, B x = some u → ∃ a c, f x = some (.slice a u.length c) ∧ Ints (fun b => b < w0.heap.size) w0 a c u
theorem BdMap.made (w0 w : World) : BdMap w0 (w.alloc (.map #[] 0)) w.heap.size 0 (fun _ => none) :=
  ⟨_, VMap.made KI w, fun _ _ => rfl, fun _ _ h => by cases h⟩
theorem BdMap.below {w0 w w' : World} {mb n K : Nat} {B : Bd} (h : BdMap w0 w mb n B) (hb : Below K w w') (hm : mb < K) : BdMap w0 w' mb n B := by
  obtain ⟨f, h1, h2, h3⟩ := h
  exact ⟨f, h1.below hb hm, h2, h3⟩
theorem BdMap.lt {w0 w : World} {mb n : Nat} {B : Bd} (h : BdMap w0 w mb n B) : mb < w.heap.size := by obtain ⟨f, h1, -⟩ := h; exact h1.lt
end Go.Proofs.YtljkojpooajlhaaGreatDoor

/- Walks: Built, of both. -/
namespace Go.Proofs.YtljkojpooajlhaaGreatDoor
open Go Go.RowKit Go.Maps

theorem Drew.trans {a b c : World} (h : Drew a b) (h2 : Drew b c) : Drew a c := by obtain ⟨n, rfl⟩ := h2; exact drew_more h n
def idxTPost (s : Sg) (L : List (List Int)) (w : World) (e : Ending) (w' : World) : Prop := ∃ n : Int, e = .returned (.int .i64 n) ∧ -1 ≤ n ∧ decide (0 ≤ n) = !(L.all (okT s)) ∧ Below w.heap.size w w'
def builtE (s : Sg) (y : Int) (L : List (List Int)) : List Int × Int :=
  if okSign s = true ∧ L.all (okT s) = true then
    (if 0 ≤ y ∧ y < s.length then (if (L.length : Int) = (s.getD y.toNat default).2 then (if 1 + L.flatten.length ≤ 60 then (y :: L.flatten, 0) else ([], 4)) else ([], 9)) else ([], 5))
  else ([], 1)
theorem builtE_1 {s : Sg} {y : Int} {L : List (List Int)} (h : ¬ (okSign s = true ∧ L.all (okT s) = true)) : builtE s y L = ([], 1) := by rw [builtE, if_neg h]
theorem builtE_5 {s : Sg} {y : Int} {L : List (List Int)} (h : okSign s = true ∧ L.all (okT s) = true) (h1 : ¬ (0 ≤ y ∧ y < s.length)) : builtE s y L = ([], 5) := by rw [builtE, if_pos h, if_neg h1]
theorem builtE_9 {s : Sg} {y : Int} {L : List (List Int)} (h : okSign s = true ∧ L.all (okT s) = true) (h1 : 0 ≤ y ∧ y < s.length) (h2 : ¬ (L.length : Int) = (s.getD y.toNat default).2) : builtE s y L = ([], 9) := by rw [builtE, if_pos h, if_pos h1, if_neg h2]
theorem builtE_4 {s : Sg} {y : Int} {L : List (List Int)} (h : okSign s = true ∧ L.all (okT s) = true) (h1 : 0 ≤ y ∧ y < s.length) (h2 : (L.length : Int) = (s.getD y.toNat default).2) (h3 : ¬ (1 + L.flatten.length ≤ 60)) : builtE s y L = ([], 4) := by rw [builtE, if_pos h, if_pos h1, if_pos h2, if_neg h3]
theorem builtE_0 {s : Sg} {y : Int} {L : List (List Int)} (h : okSign s = true ∧ L.all (okT s) = true) (h1 : 0 ≤ y ∧ y < s.length) (h2 : (L.length : Int) = (s.getD y.toNat default).2) (h3 : 1 + L.flatten.length ≤ 60) : builtE s y L = (y :: L.flatten, 0) := by rw [builtE, if_pos h, if_pos h1, if_pos h2, if_pos h3]
theorem rbelow {W W' : World} {l : List Int × Int} {e : Ending} (h : retE l W e W') : Below W.heap.size W W' := by obtain ⟨_, _, _, h⟩ := h; exact h

def brRel (y : Int) (L : List (List Int)) (w : World) (B : Nat) (out i : Value) (wr : World) : Prop := ∃ k : Nat, i = .int .i64 k ∧ k ≤ L.length ∧ OwnI wr B out (y :: (L.take k).flatten) ∧ Below B w wr
end Go.Proofs.YtljkojpooajlhaaGreatDoor

/- What unification makes of terms of valid logics, in plain words: renamed apart, unified, the canonical form; a hole in a term. No program is named. -/
namespace Go.Proofs.YtljkojpooajlhaaGreatDoor

/-- a put that goes well, written out -/
theorem put_form {s : Sg} {t p u : List Int} (h : (putE s t p u).2 = 0) : okT s t = true ∧ okT s u = true ∧ ∃ z r', place s t p 0 = some z ∧ (putE s t p u).1 = t.take z ++ (u ++ r') ∧ okT s (t.take z ++ (u ++ r')) = true ∧ t = t.take z ++ (partAt s (t.drop z) ++ r') ∧ okT s (partAt s (t.drop z)) = true ∧ t.drop (z + (partAt s (t.drop z)).length) = r' := by
  by_cases hok : okT s t = true ∧ okT s u = true
  · cases hp : place s t p 0 with
    | none => rw [putE_8 hok hp] at h; cases h
    | some z =>
      by_cases hl : (putL s t u z).length ≤ 60
      · rw [putE_0 hok hp hl]
        obtain ⟨r', hr, -⟩ := (place_sub p (okT_skip0 hok.1)).1 z hp
        obtain ⟨e1, e2, e3, e4⟩ := part_split hr
        have hu := (okT_parts hok.2).2.2.2
        have htl : (t.take z).length = z := by rw [List.length_take]; omega
        have hc : (putL s t u z).take z = t.take z := by unfold putL; rw [List.take_append_of_le_length (by omega), List.take_of_length_le (by omega)]
        have hd : (putL s t u z).drop z = u ++ r' := by
          unfold putL
          rw [e2, List.drop_append_of_le_length (by omega), List.drop_of_length_le (by omega), List.nil_append]
        have hzc : z ≤ (putL s t u z).length := by unfold putL; rw [List.length_append]; omega
        obtain ⟨-, g2, g3⟩ := place_put (by omega) hzc hc hr hd hu p (okT_skip0 hok.1) hp
        rw [List.drop_zero] at g3
        have hokc : okT s (putL s t u z) = true := okT_of_skip (okT_parts hok.1).1 g3 hl
        have hpl : putL s t u z = t.take z ++ (u ++ r') := by unfold putL; rw [e2]
        rw [hpl] at hokc
        refine ⟨hok.1, hok.2, z, r', rfl, hpl, hokc, ?_, (okT_part hok.1 hr).1, e2⟩
        rw [← (partAt_eq hr).1, List.take_append_drop]
      · rw [putE_4 hok hp hl] at h; cases h
  · rw [putE_1 hok] at h; cases h
/-- a term with a hole has as instances the term with anything in that place -/
theorem hole_inst {s : Sg} {t p u : List Int} {c : Int} (hc : c < 0) (hct : c ∉ t) (h1 : (putE s t p [c]).2 = 0) (h2 : (putE s t p u).2 = 0) :
    okT s (putE s t p [c]).1 = true ∧ okT s (putE s t p u).1 = true ∧ okT s t = true ∧ instB s (putE s t p [c]).1 (putE s t p u).1 = true ∧ instB s (putE s t p [c]).1 t = true := by
  obtain ⟨k1, -, z, r, hz, e1, o1, f1, p1, d1⟩ := put_form h1
  obtain ⟨-, k2, z', r', hz', e2, o2, f2, p2, d2⟩ := put_form h2
  rw [hz] at hz'
  cases hz'
  rw [d1] at d2
  subst d2
  have key : ∀ v : List Int, okT s v = true → instB s (t.take z ++ ([c] ++ r)) (t.take z ++ (v ++ r)) = true := by
    intro v hv
    refine instB_yes (η := fun n => if n = c then v else [n]) (fun n hn => ?_) ?_
    · show W1 s (if n = c then v else [n])
      split
      · exact okT_w1 hv
      · exact W1.var hn
    · have hid : ∀ l : List Int, c ∉ l → ap (fun n => if n = c then v else [n]) l = l := fun l hl => ap_id (fun n hn _ => if_neg (fun e => hl (by rw [← e]; exact hn)))
      rw [ap_append, ap_append, hid (t.take z) (fun hm => hct (List.mem_of_mem_take hm)), hid r (fun hm => hct (by rw [f1]; simp [hm])), ap_one hc, if_pos rfl]
  rw [e1, e2]
  refine ⟨o1, o2, k1, key u k2, ?_⟩
  have := key _ p1
  rw [← f1] at this
  exact this

/-- the variables of a term moved out of the way -/
def apN (n : Int) : Int := if n < 0 then n - 12 else n
def apartT (t : List Int) : List Int := t.map apN
theorem ap_apart {η : Int → List Int} {t : List Int} : ap η (apartT t) = ap (fun n => η (n - 12)) t := by
  induction t with
  | nil => rfl
  | cons n r ih =>
    show ap η (apN n :: apartT r) = _
    by_cases h : n < 0
    · rw [ap_neg h, apN, if_pos h, ap_neg (by omega), ih]
    · rw [ap_pos h, apN, if_neg h, ap_pos h, ih]
theorem apartT_eq (t : List Int) : apartT t = ap (fun n => [n - 12]) t := by
  induction t with
  | nil => rfl
  | cons n r ih =>
    show apN n :: apartT r = _
    by_cases h : n < 0
    · rw [ap_neg h, apN, if_pos h, ih]; rfl
    · rw [ap_pos h, apN, if_neg h, ih]
theorem apartT_w {s : Sg} {t : List Int} (h : W1 s t) : W1 s (apartT t) := by
  rw [apartT_eq]; exact h.ap (fun n hn => W1.var (by omega))
theorem apartT_len (t : List Int) : (apartT t).length = t.length := by unfold apartT; rw [List.length_map]
theorem okT_rg {s : Sg} {t : List Int} (h : okT s t = true) : ∀ n ∈ t, n < 0 → -12 ≤ n := fun n hn _ => (codeOk_bd (okT_parts h).1 (skip_codes s 1 t (okT_parts h).2.2.2 n hn)).1
theorem okT_Rg {s : Sg} {t : List Int} (h : okT s t = true) : Rg t := fun n hn h0 => by have := okT_rg h n hn h0; omega
theorem apartT_rg {s : Sg} {t : List Int} (h : okT s t = true) : Rg (apartT t) := fun n hn h0 => by
  unfold apartT at hn
  obtain ⟨m, hm, rfl⟩ := List.mem_map.1 hn
  unfold apN at h0 ⊢
  split
  · have := okT_rg h m hm ‹_›; omega
  · rename_i hh; rw [if_neg hh] at h0; omega
noncomputable def meetE (s : Sg) (a b : List Int) : List Int × Int := if okT s a = true ∧ okT s b = true then uniE s a (apartT b) a else ([], 1)
noncomputable def meetB (s : Sg) (a b : List Int) : Bool := okT s a && okT s b && uniB s a (apartT b)
noncomputable def unifB (s : Sg) (a b : List Int) : Bool := okT s a && okT s b && uniB s a b
theorem uniB_of_unified {s : Sg} {a b : List Int} (h : (∃ θ, IsMgu s a b θ)) : uniB s a b = true := by obtain ⟨θ, h⟩ := h; exact uniB_some h
end Go.Proofs.YtljkojpooajlhaaGreatDoor

/- Walks: Built. -/
namespace Go.Proofs.YtljkojpooajlhaaGreatDoor
open Go Go.RowKit Go.Maps

theorem OwnTs.lit1 {w : World} {a : Option Addr} {c : Nat} {u : List Int} {T : Nat → Prop} (h : Ints T w a c u) :
    OwnTs (fun _ => True) (w.alloc (.cells #[.slice a u.length c] 40)) w.heap.size (.slice (some ⟨w.heap.size, 0, none⟩) 1 1) [u] := by
  have hr := World.ownsRow_lit (base := w.heap.size) (e := 40) (size := 1) w #[.slice a u.length c] 1 (Nat.le_refl _) (by unfold maxLen; omega) (by simp)
  refine ⟨[[.slice a u.length c]], hr, rfl, fun i h1 h2 => ?_⟩
  match i, h1 with
  | 0, _ => exact ⟨a, c, rfl, (h.lt.weak (S' := Off (fun _ => True) (.slice (some ⟨w.heap.size, 0, none⟩) 1 1)) (fun b hb => ⟨trivial, fun e => by simp [Value.ownBlock] at e; omega⟩)).below (below1 _ _)⟩

end Go.Proofs.YtljkojpooajlhaaGreatDoor

/- Walks of package unify: a solver in the world; look. -/
namespace Go.Proofs.YtljkojpooajlhaaGreatDoor
open Go Go.RowKit Go.Maps

/-- looked up in k steps -/
def LkdN (B : Bd) (p : List Int) : Nat → List Int → Prop
  | 0, t => t = p ∧ ∀ n r, t = n :: r → n < 0 → B n = none
  | k + 1, t => ∃ n r u, t = n :: r ∧ n < 0 ∧ B n = some u ∧ LkdN B p k u
theorem Lkd.num {B : Bd} {t p : List Int} (h : Lkd B t p) : ∃ k, LkdN B p k t := by
  induction h with
  | stop h => exact ⟨0, rfl, h⟩
  | go hn hB _ ih => obtain ⟨k, hk⟩ := ih; exact ⟨k + 1, _, _, _, rfl, hn, hB, hk⟩

/-- the solver's own data: the sign and the map of what is bound -/
structure SolvW (w0 w : World) (xb mb n : Nat) (a1 : Option Addr) (c1 : Nat) (s : Sg) (B : Bd) : Prop where
  k0 : w.cell? ⟨xb, 0, none⟩ = some (.slice a1 s.length c1)
  k1 : w.cell? ⟨xb, 1, none⟩ = some (.map (some mb))
  map : BdMap w0 w mb n B
  bx : w0.heap.size ≤ xb
  bm : w0.heap.size ≤ mb
  ne : xb ≠ mb
  sg : Sign (fun b => b < w0.heap.size) w0 a1 c1 s
  bel : Below w0.heap.size w0 w
  wf : ∀ n u, B n = some u → W1 s u
theorem SolvW.lt {w0 w : World} {xb mb n : Nat} {a1 : Option Addr} {c1 : Nat} {s : Sg} {B : Bd} (h : SolvW w0 w xb mb n a1 c1 s B) : xb < w.heap.size := World.block_lt_of_cell? _ _ h.k0
theorem SolvW.below {w0 w w' : World} {xb mb n : Nat} {a1 : Option Addr} {c1 : Nat} {s : Sg} {B : Bd} (h : SolvW w0 w xb mb n a1 c1 s B) (hb : Below w.heap.size w w') : SolvW w0 w' xb mb n a1 c1 s B :=
  ⟨cell_later hb h.k0, cell_later hb h.k1, h.map.below hb h.map.lt, h.bx, h.bm, h.ne, h.sg, bcall h.bel hb, h.wf⟩

abbrev T0 (w0 : World) (a : Option Addr) (c : Nat) (t : List Int) : Prop := Ints (fun b => b < w0.heap.size) w0 a c t
/-- looked up in k steps, with where it lies -/
def LkF (w0 : World) (f : Int → Option Value) (B : Bd) (p : List Int) (a' : Option Addr) (c' : Nat) : Nat → Option Addr → Nat → List Int → Prop
  | 0, a, c, t => (t = p ∧ a = a' ∧ c = c') ∧ ∀ n r, t = n :: r → n < 0 → B n = none
  | k + 1, _, _, t => ∃ n r u a3 c3, t = n :: r ∧ n < 0 ∧ B n = some u ∧ f n = some (.slice a3 u.length c3) ∧ T0 w0 a3 c3 u ∧ LkF w0 f B p a' c' k a3 c3 u
theorem LkF.ex {w0 : World} {f : Int → Option Value} {B : Bd} {p : List Int} (h3 : ∀ x u, B x = some u → ∃ a c, f x = some (.slice a u.length c) ∧ T0 w0 a c u) :
    ∀ (k : Nat) (t : List Int) (a : Option Addr) (c : Nat), T0 w0 a c t → LkdN B p k t → ∃ a' c', LkF w0 f B p a' c' k a c t ∧ T0 w0 a' c' p
  | 0, t, a, c, hT, ⟨h1, h2⟩ => ⟨a, c, ⟨⟨h1, rfl, rfl⟩, h2⟩, h1 ▸ hT⟩
  | k + 1, t, a, c, hT, ⟨n, r, u, h1, h2, hB, h4⟩ => by
    obtain ⟨a3, c3, g1, g2⟩ := h3 n u hB
    obtain ⟨a', c', g3, g4⟩ := LkF.ex h3 k u a3 c3 g2 h4
    exact ⟨a', c', ⟨n, r, u, a3, c3, h1, h2, hB, g1, g2, g3⟩, g4⟩
def lookRel (w0 w : World) (s : Sg) (f : Int → Option Value) (B : Bd) (p : List Int) (a' : Option Addr) (c' : Nat) (k : Nat) (tv : Value) (wr : World) : Prop :=
  ∃ t a c, tv = .slice a (List.length t) c ∧ T0 w0 a c t ∧ W1 s t ∧ LkF w0 f B p a' c' k a c t ∧ Drew w wr
end Go.Proofs.YtljkojpooajlhaaGreatDoor

/- Walks of package unify: whether a variable comes. -/
namespace Go.Proofs.YtljkojpooajlhaaGreatDoor
open Go Go.RowKit Go.Maps

/-- what was met from M to M' is not v, and all that stands for it was met, too -/
def Mets (B : Bd) (v : Int) (M M' : Bd) : Prop := ∀ m, M m = none → (M' m).isSome = true → m ≠ v ∧ ∀ u, B m = some u → ∀ k ∈ u, k < 0 → (M' k).isSome = true
def Sub (M M' : Bd) : Prop := ∀ m, (M m).isSome = true → (M' m).isSome = true
theorem Sub.refl (M : Bd) : Sub M M := fun _ h => h
theorem Sub.trans {A B C : Bd} (h : Sub A B) (k : Sub B C) : Sub A C := fun m hm => k m (h m hm)
theorem Sub.up {M : Bd} {x : Int} {q : List Int} : Sub M (upB M x q) := fun m hm => by
  unfold upB; split
  · rfl
  · exact hm
theorem upB_same {M : Bd} {x : Int} {q : List Int} : (upB M x q) x = some q := by unfold upB; rw [if_pos rfl]
theorem upB_other {M : Bd} {x m : Int} {q : List Int} (h : m ≠ x) : (upB M x q) m = M m := by unfold upB; rw [if_neg h]
theorem isSome_none {α : Type} {o : Option α} (h : ¬ o.isSome = true) : o = none := by cases o <;> simp_all
theorem Mets.refl (B : Bd) (v : Int) (M : Bd) : Mets B v M M := fun m h1 h2 => by rw [h1] at h2; cases h2
theorem Mets.leaf {B M M1 : Bd} {v x : Int} (h : Mets B v M M1) (hx : x ≠ v) (hB : B x = none) : Mets B v M (upB M1 x []) := fun m h1 h2 => by
  by_cases e : m = x
  · subst e; exact ⟨hx, fun u hu => by rw [hB] at hu; cases hu⟩
  · rw [upB_other e] at h2
    obtain ⟨g1, g2⟩ := h m h1 h2
    exact ⟨g1, fun u hu k hk h0 => Sub.up _ (g2 u hu k hk h0)⟩
theorem Mets.node {B M M1 M2 : Bd} {v x : Int} {u : List Int} (h : Mets B v M M1) (hx : x ≠ v) (hB : B x = some u) (h2 : Mets B v (upB M1 x []) M2) (hs : Sub (upB M1 x []) M2) (hu : ∀ k ∈ u, k < 0 → (M2 k).isSome = true) : Mets B v M M2 := fun m g1 g2 => by
  by_cases e : m = x
  · subst e; exact ⟨hx, fun u' hu' => by rw [hB] at hu'; cases hu'; exact hu⟩
  · by_cases e1 : (M1 m).isSome = true
    · obtain ⟨k1, k2⟩ := h m g1 e1
      exact ⟨k1, fun u' hu' k hk h0 => hs k (Sub.up k (k2 u' hu' k hk h0))⟩
    · exact h2 m (by rw [upB_other e]; exact isSome_none e1) g2
theorem mets_not {s : Sg} {B : Bd} {θ : Int → List Int} {ρ : Int → Nat} (h : Slv s B θ ρ) {v : Int} {M : Bd} (hm : Mets B v (fun _ => none) M) : ∀ (K : Nat) (t : List Int), (∀ n ∈ t, n < 0 → (M n).isSome = true) → (∀ n ∈ t, n < 0 → ρ n < K) → v < 0 → v ∉ ap θ t
  | K, t, h1, h2, hv, hmem => by
    rcases mem_ap.1 hmem with ⟨-, e⟩ | ⟨n, hn, h0, hvn⟩
    · exact e hv
    · obtain ⟨g1, g2⟩ := hm n rfl (h1 n hn h0)
      cases hB : B n with
      | none => rw [h.free n h0 hB, List.mem_singleton] at hvn; exact g1 hvn.symm
      | some u =>
        rw [h.bnd n u hB] at hvn
        cases K with
        | zero => have := h2 n hn h0; omega
        | succ K =>
          exact mets_not h hm K u (g2 u hB) (fun m hm' h0' => by have := h.rk n u hB m hm' h0'; have := h2 n hn h0; omega) hv hvn

/-- the map of what was met -/
def MetW (w : World) (mm n : Nat) (M : Bd) : Prop := ∃ f, VMap KI w mm n f ∧ ∀ x, f x = (M x).map fun _ => .bool true
theorem MetW.made (w : World) : MetW (w.alloc (.map #[] 0)) w.heap.size 0 (fun _ => none) := ⟨_, VMap.made KI w, fun _ => rfl⟩
theorem MetW.lt {w : World} {mm n : Nat} {M : Bd} (h : MetW w mm n M) : mm < w.heap.size := by obtain ⟨f, h1, -⟩ := h; exact h1.lt
theorem MetW.below {w w' : World} {mm n K : Nat} {M : Bd} (h : MetW w mm n M) (hb : Below K w w') (hm : mm < K) : MetW w' mm n M := by
  obtain ⟨f, h1, h2⟩ := h; exact ⟨f, h1.below hb hm, h2⟩
theorem SolvW.grown {w0 w w' : World} {xb mb n k : Nat} {a1 : Option Addr} {c1 : Nat} {s : Sg} {B : Bd} (h : SolvW w0 w xb mb n a1 c1 s B) (hg : w.grownBy w' (some k)) (h1 : k ≠ xb) (h2 : k ≠ mb) (h3 : w0.heap.size ≤ k) : SolvW w0 w' xb mb n a1 c1 s B := by
  have hx : w'.heap[xb]? = w.heap[xb]? := hg.block xb h.lt (fun e => h1 (by injection e with e; exact e.symm))
  obtain ⟨f, m1, m2, m3⟩ := h.map
  exact ⟨(World.cell?_of_block (a := ⟨xb, 0, none⟩) hx).trans h.k0, (World.cell?_of_block (a := ⟨xb, 1, none⟩) hx).trans h.k1, ⟨f, m1.same (hg.block mb m1.lt (fun e => h2 (by injection e with e; exact e.symm))), m2, m3⟩, h.bx, h.bm, h.ne, h.sg,
    h.bel.grown hg h.bel.size (fun j e => by injection e with e; omega), h.wf⟩

theorem MetW.drawn {w : World} {mm n : Nat} {M : Bd} (h : MetW w mm n M) (m : Nat) : MetW (w.drewN m) mm n M := h.below ((Drew.mk w m).below w.heap.size) h.lt
end Go.Proofs.YtljkojpooajlhaaGreatDoor

/- Walks of package unify: comes, walked. -/
namespace Go.Proofs.YtljkojpooajlhaaGreatDoor
open Go Go.RowKit Go.Maps

def comesRet (B : Bd) (θ : Int → List Int) (v : Int) (t : List Int) (mm : Nat) (M : Bd) (w : World) (e : Ending) (w' : World) : Prop :=
  ∃ (M' : Bd) (n' : Nat) (r : Bool), e = .returned (.bool r) ∧ MetW w' mm n' M' ∧ n' + free M' ≤ 24 ∧ w.grownBy w' (some mm) ∧ Sub M M' ∧ (r = true → v ∈ ap θ t) ∧
    (r = false → (∀ n ∈ t, n < 0 → (M' n).isSome = true) ∧ Mets B v M M')
def comesRel (B : Bd) (v : Int) (t : List Int) (mm : Nat) (M : Bd) (w : World) (jv : Value) (wr : World) : Prop :=
  ∃ (j n : Nat) (M' : Bd), jv = .int .i64 j ∧ j ≤ t.length ∧ MetW wr mm n M' ∧ n + free M' ≤ 24 ∧ w.grownBy wr (some mm) ∧ Sub M M' ∧ (∀ n ∈ t.take j, n < 0 → (M' n).isSome = true) ∧ Mets B v M M'
theorem take_all {t : List Int} {j : Nat} {P : Int → Prop} (h : ∀ n ∈ t.take j, P n) (hj : j < t.length) (hp : P t[j]) : ∀ n ∈ t.take (j + 1), P n := by
  intro n hn
  rw [List.take_succ_eq_append_getElem hj, List.mem_append, List.mem_singleton] at hn
  rcases hn with e | e
  · exact h n e
  · rw [e]; exact hp

theorem grown_by' {w w1 w2 : World} {o : Option Nat} (h : w.grownBy w1 o) (b : w1.grownBy w2 o) : w.grownBy w2 o :=
  ⟨b.os.trans h.os, b.tape.trans h.tape, b.output.trans h.output, Nat.le_trans h.size b.size, fun x hx hne => (b.block x (Nat.lt_of_lt_of_le hx h.size) hne).trans (h.block x hx hne)⟩
theorem free_none : free (fun _ => none) = 24 := by decide
theorem rank_bound (ρ : Int → Nat) : ∀ t : List Int, ∃ K, ∀ m ∈ t, m < 0 → ρ m < K
  | [] => ⟨0, fun _ h => by cases h⟩
  | x :: t => by
    obtain ⟨K, hK⟩ := rank_bound ρ t
    refine ⟨max K (ρ x + 1), fun m hm h0 => ?_⟩
    rcases List.mem_cons.1 hm with e | e
    · subst e; omega
    · have := hK m e h0; omega
end Go.Proofs.YtljkojpooajlhaaGreatDoor

/- Two terms that can be made equal have a most general unifier; what it makes of terms is valid; names of variables do not matter. No program is named. -/
namespace Go.Proofs.YtljkojpooajlhaaGreatDoor

theorem arW_le3 {s : Sg} (hok : okSign s = true) {n : Int} (h : n < s.length) : arW s n ≤ 3 := by
  by_cases h0 : n < 0
  · rw [arW_neg h0]; omega
  · obtain ⟨m, rfl⟩ := Int.eq_ofNat_of_zero_le (show 0 ≤ n by omega)
    have hm : m < s.length := by omega
    have h1 := okSign_ars hok m hm
    have h2 := arW_sym hm h1.1
    omega
theorem argsW_le3 {s : Sg} (hok : okSign s = true) {P : List Int} (h : W1 s P) : (argsW s P).length ≤ 3 := by
  cases P with
  | nil => exact (h.ne rfl).elim
  | cons n r => rw [h.args.1]; exact arW_le3 hok h.args.2.2.2
theorem last_snoc' {α : Type} (L : List α) : L = [] ∨ ∃ L0 e, L = L0 ++ [e] := by
  rcases List.eq_nil_or_concat L with rfl | ⟨L0, e, rfl⟩
  · exact .inl rfl
  · exact .inr ⟨L0, e, by rw [List.concat_eq_append]⟩
theorem mgu_run {s : Sg} (hok : okSign s = true) {a b : List Int} : ∀ (k : Nat) (B : Bd) (θ : Int → List Int) (ρ : Int → Nat) (L : Prs), St s a b k B θ ρ L → (∃ θ', IsMgu s a b θ') ∨ ∀ η, Wsub s η → ap η a ≠ ap η b := by
  intro k
  induction k with
  | zero =>
    intro B θ ρ L h
    have hL : L = [] := h.halts
    subst hL
    exact .inl ⟨θ, B, ρ, h.slv, h.eq.done⟩
  | succ k ih =>
    intro B θ ρ L h
    rcases last_snoc' L with rfl | ⟨L0, ⟨x, y⟩, rfl⟩
    · exact .inl ⟨θ, B, ρ, h.slv, h.eq.done⟩
    · have hrk : ∀ t : List Int, ∀ n r, t = n :: r → n < 0 → ρ n < ρ (t.headD 0) + 1 := fun t n r e _ => by rw [e]; simp
      obtain ⟨p, hp⟩ := Lkd.ex h.slv _ x (hrk x)
      obtain ⟨q, hq⟩ := Lkd.ex h.slv _ y (hrk y)
      have hN := h.nxt hp hq
      generalize (turned p q).1 = P at hN
      generalize (turned p q).2 = Q at hN
      by_cases h0 : P.headD 0 < 0
      · by_cases he : Q.headD 0 = P.headD 0
        · exact ih _ _ _ _ (hN.same h0 he)
        · by_cases ho : P.headD 0 ∈ ap θ Q
          · exact .inr (hN.occ h0 he ho)
          · obtain ⟨θ', ρ', h'⟩ := hN.bind h0 he ho
            exact ih _ _ _ _ h'
      · by_cases he : Q.headD 0 = P.headD 0
        · exact ih _ _ _ _ (hN.args (by omega) he (argsW_le3 hok hN.sP.w))
        · exact .inr (hN.clash (by omega) (fun e => he e.symm))
theorem mgu_ex {s : Sg} (hok : okSign s = true) {a b : List Int} (ha : W1 s a) (hb : W1 s b) (ra : Rg a) (rb : Rg b) {η : Int → List Int} (hw : Wsub s η) (he : ap η a = ap η b) : ∃ θ, IsMgu s a b θ := by
  obtain ⟨k, hk⟩ := St.start ha hb ra rb
  rcases mgu_run hok k _ _ _ _ hk with h | h
  · exact h
  · exact (h η hw he).elim
theorem uniB_iff {s : Sg} (hok : okSign s = true) {a b : List Int} (ha : W1 s a) (hb : W1 s b) (ra : Rg a) (rb : Rg b) : uniB s a b = true ↔ ∃ η, Wsub s η ∧ ap η a = ap η b := by
  constructor
  · intro h
    cases hm : mgu s a b with
    | none => unfold uniB at h; rw [hm] at h; cases h
    | some θ => exact ⟨θ, (mgu_some hm).th, (mgu_some hm).eq⟩
  · rintro ⟨η, hw, he⟩
    obtain ⟨θ, hθ⟩ := mgu_ex hok ha hb ra rb hw he
    exact uniB_some hθ
/-- the two ways of a unification -/
theorem uni_cases {s : Sg} (hok : okSign s = true) {a b : List Int} (ha : W1 s a) (hb : W1 s b) (ra : Rg a) (rb : Rg b) :
    (∃ θ, IsMgu s a b θ) ∨ ((∀ η, Wsub s η → ap η a ≠ ap η b) ∧ uniB s a b = false ∧ ∀ t, uniE s a b t = ([], 8)) := by
  by_cases h : ∃ η, Wsub s η ∧ ap η a = ap η b
  · obtain ⟨η, hw, he⟩ := h
    exact .inl (mgu_ex hok ha hb ra rb hw he)
  · have h' : ∀ η, Wsub s η → ap η a ≠ ap η b := fun η hw he => h ⟨η, hw, he⟩
    exact .inr ⟨h', uniB_none h', uniE_none h'⟩
/-- renamed: a, b, t by one substitution that another one takes back -/
theorem uniE_turn {s : Sg} (hok : okSign s = true) {a b t a' b' t' : List Int} {σ τ : Int → List Int} (hσ : Wsub s σ) (hτ : Wsub s τ) (ha : W1 s a) (hb : W1 s b) (ra : Rg a) (rb : Rg b) (ha' : W1 s a') (hb' : W1 s b') (ra' : Rg a') (rb' : Rg b')
    (e1 : ap σ a = a') (e2 : ap σ b = b') (e3 : ap σ t = t') (f1 : ap τ a' = a) (f2 : ap τ b' = b) (f3 : ap τ t' = t) : uniE s a b t = uniE s a' b' t' ∧ uniB s a b = uniB s a' b' := by
  have cmp : ∀ {η ξ : Int → List Int}, Wsub s η → Wsub s ξ → Wsub s (fun n => ap ξ (η n)) := fun h1 h2 n hn => (h1 n hn).ap h2
  rcases uni_cases hok ha hb ra rb with ⟨θ, hθ⟩ | ⟨h1, h2, h3⟩
  · have w1 := cmp hτ hθ.th
    have q1 : ap (fun n => ap θ (τ n)) a' = ap (fun n => ap θ (τ n)) b' := by rw [← ap_ap, ← ap_ap, f1, f2]; exact hθ.eq
    obtain ⟨θ', hθ'⟩ := mgu_ex hok ha' hb' ra' rb' w1 q1
    have w2 := cmp hσ hθ'.th
    have q2 : ap (fun n => ap θ' (σ n)) a = ap (fun n => ap θ' (σ n)) b := by rw [← ap_ap, ← ap_ap, e1, e2]; exact hθ'.eq
    rw [uniE_some hθ, uniE_some hθ', uniB_some hθ, uniB_some hθ']
    have g1 := hθ.most w2 q2 t
    have k1 : ap (fun n => ap θ' (σ n)) (ap θ t) = ap θ' t' := by rw [g1, ← ap_ap, e3]
    have k2 : ap (fun n => ap θ (τ n)) (ap θ' t') = ap θ t := by
      have := hθ'.most w1 q1 t'
      rw [this, ← ap_ap, f3]
    obtain ⟨c1, c2, c3⟩ := canon_two w1 w2 k1 k2
    exact ⟨by unfold madeE; rw [c1, c2, c3], rfl⟩
  · have h' : ∀ η, Wsub s η → ap η a' ≠ ap η b' := fun η hw he => h1 _ (cmp hσ hw) (by rw [← ap_ap, ← ap_ap, e1, e2]; exact he)
    rw [h2, h3 t, uniB_none h', uniE_none h' t']
    exact ⟨rfl, rfl⟩

theorem skip_of_skw {s : Sg} : ∀ {k : Nat} {l r : List Int}, (∀ n ∈ l, n < 0 → -12 ≤ n) → skw s k l = some r → skip s k l = some r
  | 0, l, r, _, h => by rw [skw_zero] at h; rw [skip_zero]; exact h
  | k + 1, [], r, _, h => by simp [skw_nil] at h
  | k + 1, n :: l, r, hr, h => by
    rw [skw_cons] at h
    split at h
    · rename_i hc
      have hn := hr n (by simp)
      have hco : codeOk s n = true := by
        unfold cw at hc
        simp only [decide_eq_true_eq] at hc
        unfold codeOk
        simp only [Bool.or_eq_true, decide_eq_true_eq]
        omega
      rw [skip_cons, if_pos hco, (codeOk_w hco).2]
      exact skip_of_skw (fun m hm => hr m (by simp [hm])) h
    · cases h
theorem okT_of_w1 {s : Sg} {t : List Int} (hok : okSign s = true) (h : W1 s t) (hl : t.length ≤ 60) (hr : ∀ n ∈ t, n < 0 → -12 ≤ n) : okT s t = true := okT_of_skip hok (skip_of_skw hr h) hl
theorem canon_ap (t : List Int) : canon t = ap (fun n => [canonW (varsC t) n]) t := by
  unfold canon
  generalize varsC t = v
  induction t with
  | nil => rfl
  | cons n r ih =>
    rw [List.map_cons, ih]
    by_cases h : n < 0
    · rw [ap_neg h]; rfl
    · rw [ap_pos h, canonW_pos (by omega)]
theorem canon_w {s : Sg} {t : List Int} (h : W1 s t) : W1 s (canon t) := by
  rw [canon_ap]
  exact h.ap (fun n hn => W1.var (canonW_lt hn))
theorem canon_len (t : List Int) : (canon t).length = t.length := by unfold canon; rw [List.length_map]
/-- the canonical form is undone by putting the names back -/
theorem canon_back {s : Sg} (t : List Int) : ∃ τ, Wsub s τ ∧ ap τ (canon t) = t := by
  refine ⟨fun n => [if n < 0 then (varsC t).getD (-n - 1).toNat (-1) else n], fun n hn => ?_, ?_⟩
  · refine W1.var ?_
    rw [if_pos hn, List.getD_eq_getElem?_getD]
    cases h : (varsC t)[(-n - 1).toNat]? with
    | none => simp
    | some x => exact varsC_neg x (List.mem_of_getElem? h)
  · rw [canon_ap, ap_ap]
    refine ap_id (fun n hn h0 => ?_)
    have hm : n ∈ varsC t := mem_varsC.2 ⟨hn, h0⟩
    have hc := canonW_neg (v := varsC t) h0
    have hlt := canonW_lt (v := varsC t) h0
    rw [ap_one hlt, if_pos hlt]
    have hi := List.idxOf_lt_length_of_mem hm
    have : (-(canonW (varsC t) n) - 1).toNat = (varsC t).idxOf n := by rw [hc]; omega
    rw [this, List.getD_eq_getElem?_getD, List.getElem?_eq_getElem hi]
    simp
theorem canon_rg {t : List Int} (h : (varsC t).length ≤ 12) : ∀ n ∈ canon t, n < 0 → -12 ≤ n := by
  intro n hn h0
  unfold canon at hn
  obtain ⟨m, hm, rfl⟩ := List.mem_map.1 hn
  by_cases hm0 : m < 0
  · have hi := List.idxOf_lt_length_of_mem (mem_varsC.2 ⟨hm, hm0⟩)
    rw [canonW_neg hm0]; omega
  · rw [canonW_pos (by omega)] at h0; omega
theorem madeE_ok {s : Sg} {θ : Int → List Int} {t : List Int} (hok : okSign s = true) (hθ : Wsub s θ) (ht : W1 s t) (h : (madeE θ t).2 = 0) :
    okT s (madeE θ t).1 = true ∧ (madeE θ t).1 = canon (ap θ t) := by
  unfold madeE at h ⊢
  split
  · rename_i hc
    exact ⟨okT_of_w1 hok (canon_w (ht.ap hθ)) (by rw [canon_len]; exact hc.1) (canon_rg hc.2), rfl⟩
  · rename_i hc; rw [if_neg hc] at h; cases h
/-- what an instance of a renamed term makes of a -/
theorem meet_inst {s : Sg} {a j : List Int} (ha : okT s a = true) (hj : okT s j = true) {η : Int → List Int} (hw : Wsub s η) (he : ap η j = a) : meetE s a j = (canon a, 0) := by
  have hok := (okT_parts ha).1
  unfold meetE
  rw [if_pos ⟨ha, hj⟩]
  have hθ0 : Wsub s (fun n => if n < -12 then η (n + 12) else [n]) := fun n hn => by
    show W1 s (if n < -12 then η (n + 12) else [n])
    split
    · exact hw _ (by omega)
    · exact W1.var hn
  have e1 : ap (fun n => if n < -12 then η (n + 12) else [n]) a = a := ap_id (fun n hn h0 => if_neg (by have := okT_rg ha n hn h0; omega))
  have e2 : ap (fun n => if n < -12 then η (n + 12) else [n]) (apartT j) = a := by
    rw [ap_apart, ← he]
    refine ap_congr (fun n _ h0 => ?_)
    rw [if_pos (by omega)]; congr 1; omega
  obtain ⟨θ, hθ⟩ := mgu_ex hok (okT_w1 ha) (apartT_w (okT_w1 hj)) (okT_Rg ha) (apartT_rg hj) hθ0 (e1.trans e2.symm)
  have k := hθ.most hθ0 (e1.trans e2.symm) a
  rw [e1] at k
  obtain ⟨c1, c2, c3⟩ := canon_two hθ0 hθ.th (u1 := a) (u2 := ap θ a) rfl k
  rw [uniE_some hθ]
  unfold madeE
  rw [← c1, ← c2, ← c3, if_pos ⟨(okT_parts ha).2.2.1, varsC_le12 (skip_codes s 1 a (okT_parts ha).2.2.2)⟩]
end Go.Proofs.YtljkojpooajlhaaGreatDoor

/- Walks of package unify: the stack of pairs; where arguments lie; after of a logic; the step of unification. -/
namespace Go.Proofs.YtljkojpooajlhaaGreatDoor
open Go Go.RowKit Go.Maps

abbrev prE : Enc (List Int × List Int) := pairE (slE intE) (slE intE)
section
variable {S : Nat → Prop} {w : World} {base g n cap : Nat} {L : Prs}
theorem pr_len {xs : List (List Value)} {T : Nat → Prop} (hl : xs.length = L.length) (hx : ∀ i (h1 : i < xs.length) (h2 : i < L.length), prE.R T w xs[i] L[i]) : ∀ x ∈ xs, x.length = 2 := by
  intro x hxm
  obtain ⟨i, hi, rfl⟩ := List.getElem_of_mem hxm
  exact prE.len (hx i hi (by omega))
end

/-- the places of the arguments -/
def apos (s : Sg) (t : List Int) (m : Nat) : Nat := 1 + ((argsW s t).take m).flatten.length
theorem apos_zero (s : Sg) (t : List Int) : apos s t 0 = 1 := rfl
theorem args_at {s : Sg} {n : Int} {x : List Int} (h : W1 s (n :: x)) {m : Nat} (hm : m < arW s n) (hl : m < (argsW s (n :: x)).length) :
    skw s 1 ((n :: x).drop (apos s (n :: x) m)) = some ((n :: x).drop (apos s (n :: x) (m + 1))) ∧ apos s (n :: x) m < apos s (n :: x) (m + 1) ∧ apos s (n :: x) (m + 1) ≤ (n :: x).length ∧
      ((n :: x).drop (apos s (n :: x) m)).take (apos s (n :: x) (m + 1) - apos s (n :: x) m) = (argsW s (n :: x))[m] := by
  obtain ⟨h1, h2, h3, -⟩ := h.args
  obtain ⟨A, hA⟩ : ∃ A, argsW s (n :: x) = A := ⟨_, rfl⟩
  rw [hA] at h1 h2 h3
  simp only [apos, hA]
  have hd : ∀ k, (n :: x).drop (1 + (A.take k).flatten.length) = (A.drop k).flatten := fun k => by
    rw [Nat.add_comm, List.drop_succ_cons, ← h2]
    conv => lhs; rw [← List.take_append_drop k A]
    rw [List.flatten_append]
    have : ((A.take k ++ A.drop k).take k) = A.take k := by rw [List.take_append_drop]
    rw [this, List.drop_left]
  have ht : (A.take (m + 1)).flatten.length = (A.take m).flatten.length + (A[m]'(by omega)).length := by
    rw [List.take_succ_eq_append_getElem (by omega), List.flatten_append, List.length_append]; simp
  have hdm : (A.drop m).flatten = A[m]'(by omega) ++ (A.drop (m + 1)).flatten := by rw [List.drop_eq_getElem_cons (by omega), List.flatten_cons]
  have hw := h3 _ (List.getElem_mem (by omega : m < A.length))
  have hle : (A.take (m + 1)).flatten.length ≤ x.length := by
    rw [← h2]
    conv => rhs; rw [← List.take_append_drop (m + 1) A]
    rw [List.flatten_append, List.length_append]; omega
  have hwl := hw.len
  refine ⟨?_, by omega, by rw [List.length_cons]; omega, ?_⟩
  · rw [hd, hd, hdm, skw_append s 1 _ _ _ hw]; rfl
  · rw [hd, ht, hdm, show 1 + ((A.take m).flatten.length + (A[m]'(by omega)).length) - (1 + (A.take m).flatten.length) = (A[m]'(by omega)).length by omega, List.take_left]
theorem args_all {s : Sg} {t : List Int} (h : W1 s t) {n : Int} (hn : t.headD 0 = n) : (argsW s t).length = arW s n ∧ n < s.length ∧ ∀ m (hm : m < (argsW s t).length), skw s 1 (t.drop (apos s t m)) = some (t.drop (apos s t (m + 1))) ∧ apos s t m < apos s t (m + 1) ∧ apos s t (m + 1) ≤ t.length ∧
    (t.drop (apos s t m)).take (apos s t (m + 1) - apos s t m) = (argsW s t)[m] := by
  cases t with
  | nil => exact (h.ne rfl).elim
  | cons k x =>
    simp only [List.headD_cons] at hn
    subst hn
    exact ⟨h.args.1, h.args.2.2.2, fun m hm => args_at h (by rw [← h.args.1]; exact hm) hm⟩
theorem drop_len {t : List Int} {k : Nat} (h : k ≤ t.length) : t.length - (t.drop k).length = k := by rw [List.length_drop]; omega

end Go.Proofs.YtljkojpooajlhaaGreatDoor

/- Walks of package unify: solve. -/
namespace Go.Proofs.YtljkojpooajlhaaGreatDoor
open Go Go.RowKit Go.Maps

theorem T0.back {w0 w : World} (hB : Below w0.heap.size w0 w) {S : Nat → Prop} {a : Option Addr} {c : Nat} {t : List Int} (h : Ints S w a c t) (hS : ∀ b, S b → b < w0.heap.size) : T0 w0 a c t :=
  h.mono (fun b _ hb => hS b hb) (fun b hb _ => (hB.block b (hS b hb)).symm)

def solRet (w0 : World) (xb mb : Nat) (a1 : Option Addr) (c1 : Nat) (s : Sg) (a b : List Int) (e : Ending) (w' : World) : Prop :=
  ∃ r, e = .returned (.bool r) ∧ Below w0.heap.size w0 w' ∧ (r = false → ∀ η, Wsub s η → ap η a ≠ ap η b) ∧
    (r = true → ∃ B θ ρ n, Slv s B θ ρ ∧ RgB B ∧ (∀ η, Wsub s η → (Sat B η ↔ ap η a = ap η b)) ∧ SolvW w0 w' xb mb n a1 c1 s B ∧ ∀ n u, B n = some u → InfT a b u)
section
variable {P : Program} {Q : Exit → Act → World → Prop} {md : Region.Mode} {S : World → Prop} {l : List Oper} {listed : Array Bool} {fuel : Nat} {a : Act} {w : World}
/-- two operations either of which may come up -/
theorem region_2 (i j : Nat) {o o' : Oper} (hi : l[i]? = some o) (hj : l[j]? = some o') (hr : Region.ready md l.toArray listed = [i, j])
    (h : ∀ K' : Act → World → Prop, Shut (∀ a w, S w → (S w → wpAnyH P md l.toArray Q S fuel (listed.setIfInBounds i true) a w) → K' a w) → if Region.wanted o (yielded l.toArray a.tmps) = true then Oper.wp P o a w K' Q else K' (a.put o.dst undef) w)
    (h' : ∀ K' : Act → World → Prop, Shut (∀ a w, S w → (S w → wpAnyH P md l.toArray Q S fuel (listed.setIfInBounds j true) a w) → K' a w) → if Region.wanted o' (yielded l.toArray a.tmps) = true then Oper.wp P o' a w K' Q else K' (a.put o'.dst undef) w) :
    wpAnyH P md l.toArray Q S (fuel + 1) listed a w :=
  wpAnyH_ready hr (by simp) (AllReadyH.cons (by simpa using hi) h (AllReadyH.cons (by simpa using hj) h' AllReadyH.nil))
end
theorem SolvW.keep {w0 w w' : World} {xb mb n K : Nat} {a1 : Option Addr} {c1 : Nat} {s : Sg} {B : Bd} (h : SolvW w0 w xb mb n a1 c1 s B) (hb : Below K w w') (h1 : xb < K) (h2 : mb < K) (h3 : w0.heap.size ≤ K) : SolvW w0 w' xb mb n a1 c1 s B :=
  ⟨(World.cell?_of_block (a := ⟨xb, 0, none⟩) (hb.block xb h1)).trans h.k0, (World.cell?_of_block (a := ⟨xb, 1, none⟩) (hb.block xb h1)).trans h.k1, h.map.below hb h2, h.bx, h.bm, h.ne, h.sg, h.bel.trans (hb.mono h3), h.wf⟩
theorem SolvW.stored {w0 w w' : World} {xb mb n n' : Nat} {a1 : Option Addr} {c1 : Nat} {s : Sg} {B : Bd} {v : Int} {q : List Int} (h : SolvW w0 w xb mb n a1 c1 s B) (hg : w.grownBy w' (some mb)) (hD : BdMap w0 w' mb n' (upB B v q)) (hq : W1 s q) : SolvW w0 w' xb mb n' a1 c1 s (upB B v q) := by
  have hx : w'.heap[xb]? = w.heap[xb]? := hg.block xb h.lt (fun e => h.ne (by injection e))
  refine ⟨(World.cell?_of_block (a := ⟨xb, 0, none⟩) hx).trans h.k0, (World.cell?_of_block (a := ⟨xb, 1, none⟩) hx).trans h.k1, hD, h.bx, h.bm, h.ne, h.sg, h.bel.grown hg h.bel.size (fun j e => by have := h.bm; injection e with e; omega), fun m u hu => ?_⟩
  unfold upB at hu
  split at hu
  · cases hu; exact hq
  · exact h.wf m u hu
theorem rank_head (ρ : Int → Nat) (t : List Int) : ∀ n r, t = n :: r → n < 0 → ρ n < ρ (t.headD 0) + 1 := fun n r e _ => by rw [e]; simp
theorem last_snoc {α : Type} {L : List α} (h : 0 < L.length) : ∃ L0 e, L = L0 ++ [e] ∧ L0.length + 1 = L.length := by
  rcases List.eq_nil_or_concat L with rfl | ⟨L0, e, rfl⟩
  · simp at h
  · exact ⟨L0, e, by rw [List.concat_eq_append], by simp⟩
end Go.Proofs.YtljkojpooajlhaaGreatDoor

/- Walks of package unify: solved, apart, Meets, Unifiable. -/
namespace Go.Proofs.YtljkojpooajlhaaGreatDoor
open Go Go.RowKit Go.Maps

def apRel (t : List Int) (w : World) (B0 g cap : Nat) (i : Value) (wr : World) : Prop :=
  ∃ k : Nat, i = .int .i64 k ∧ k ≤ t.length ∧ OwnI wr B0 (.slice (some ⟨g, 0, none⟩) t.length cap) (doneTo apN t k) ∧ Below w.heap.size w wr
def solvedRet (w : World) (a1 : Option Addr) (c1 : Nat) (s : Sg) (a b : List Int) (e : Ending) (w' : World) : Prop :=
  ∃ xb mb r, e = .returned (.tuple #[.pointer (some ⟨xb, 0, none⟩), .bool r]) ∧ Below w.heap.size w w' ∧ (r = false → ∀ η, Wsub s η → ap η a ≠ ap η b) ∧
    (r = true → ∃ B θ ρ n, Slv s B θ ρ ∧ RgB B ∧ IsMgu s a b θ ∧ SolvW w w' xb mb n a1 c1 s B)
theorem solved_uniB {w w' : World} {a1 : Option Addr} {c1 xb mb : Nat} {s : Sg} {a b : List Int} {r : Bool} (hf : r = false → ∀ η, Wsub s η → ap η a ≠ ap η b) (ht : r = true → ∃ B θ ρ n, Slv s B θ ρ ∧ RgB B ∧ IsMgu s a b θ ∧ SolvW w w' xb mb n a1 c1 s B) : r = uniB s a b := by
  cases r with
  | false => exact (uniB_none (hf rfl)).symm
  | true => obtain ⟨B, θ, ρ, n, -, -, h, -⟩ := ht rfl; exact (uniB_some h).symm

end Go.Proofs.YtljkojpooajlhaaGreatDoor

/- Walks of package unify: code, named. -/
namespace Go.Proofs.YtljkojpooajlhaaGreatDoor
open Go Go.RowKit Go.Maps

def namRel (t : List Int) (w : World) (out i : Value) (wr : World) : Prop :=
  ∃ k : Nat, i = .int .i64 k ∧ k ≤ t.length ∧ IMap Tryz.prog 3 3 wr w.heap.size (varsC (t.take k)).length (nameF t k) ∧ OwnI wr (w.heap.size + 1) out ((t.take k).map (canonW (varsC t))) ∧ Below w.heap.size w wr
theorem nam_push {w : World} {base : Nat} {v : Value} {l : List Int} (ho : OwnI w base v l) (x : Int) (hx : inRange x) (hl : l.length ≤ 10000000) (hb : base ≤ w.heap.size) :
    ∃ v' w', RowKit.Hid ((Builtin.append_ #[40, 40] 40 #[v, .slice (some ⟨w.heap.size, 0, none⟩) 1 1]).run Tryz.prog (w.alloc (.cells #[.int .i64 x] 3)) = .ok v' w') ∧ RowKit.Hid (OwnI w' base v' (l ++ [x])) ∧ RowKit.Hid (w.grownBy w' v.ownBlock) := by
  obtain ⟨v', w', hrun, ho', hg, -⟩ := ho.push (P := Tryz.prog) (t := 40) (ty := 40) Tryz.underlying40 infoInt rfl (vs := [.int .i64 x]) (x := x) ⟨rfl, hx⟩ (by omega) (by unfold big; omega) hb
  exact ⟨v', w', Lib.hid hrun, Lib.hid ho', Lib.hid hg⟩
end Go.Proofs.YtljkojpooajlhaaGreatDoor

/- Walks of package unify: full, made, Meet. -/
namespace Go.Proofs.YtljkojpooajlhaaGreatDoor
open Go Go.RowKit Go.Maps

/-- only what lies from K on, and the box B0, has turned -/
structure FB (K B0 : Nat) (w w' : World) : Prop where
  os : w'.os = w.os
  tape : w'.tape = w.tape
  output : w'.output = w.output
  size : w.heap.size ≤ w'.heap.size
  block : ∀ b, b < K → b ≠ B0 → w'.heap[b]? = w.heap[b]?
section
variable {K B0 : Nat} {w w1 w2 : World}
theorem FB.refl (K B0 : Nat) (w : World) : FB K B0 w w := ⟨rfl, rfl, rfl, Nat.le_refl _, fun _ _ _ => rfl⟩
theorem FB.trans (h : FB K B0 w w1) (k : FB K B0 w1 w2) : FB K B0 w w2 := ⟨k.os.trans h.os, k.tape.trans h.tape, k.output.trans h.output, Nat.le_trans h.size k.size, fun b hb hne => (k.block b hb hne).trans (h.block b hb hne)⟩
theorem FB.below (h : FB K B0 w w1) {C : Nat} (h1 : C ≤ K) (h2 : C ≤ B0) : Below C w w1 := ⟨h.os, h.tape, h.output, h.size, fun b hb => h.block b (by omega) (by omega)⟩
theorem FB.cell (h : FB K B0 w w1) {b off : Nat} {v : Value} (hb : b < K) (hne : b ≠ B0) (hc : w.cell? ⟨b, off, none⟩ = some v) : w1.cell? ⟨b, off, none⟩ = some v := (World.cell?_of_block (w := w) (h.block b hb hne)).trans hc
end
section
variable {w0 w w1 : World} {xb mb nb : Nat} {a1 : Option Addr} {c1 : Nat} {s : Sg} {B : Bd} {xx wb ob K : Nat} {o o' : List Int}
end
theorem len_app (a b : List Int) : (a ++ b).length = a.length + b.length := List.length_append
theorem ap_cut {θ : Int → List Int} {t : List Int} {j : Nat} (h : j < t.length) : ap θ (t.take (j + 1)) = ap θ (t.take j) ++ ap θ [t[j]] ∧ (ap θ (t.take j) ++ ap θ [t[j]]).length ≤ (ap θ t).length := by
  have e : ap θ (t.take (j + 1)) = ap θ (t.take j) ++ ap θ [t[j]] := by rw [List.take_succ_eq_append_getElem h, ap_append]
  refine ⟨e, ?_⟩
  rw [← e]
  have : ap θ t = ap θ (t.take (j + 1)) ++ ap θ (t.drop (j + 1)) := by rw [← ap_append, List.take_append_drop]
  rw [this, List.length_append]; omega
end Go.Proofs.YtljkojpooajlhaaGreatDoor

/- Walks of package unify: full, made, Meet. -/
namespace Go.Proofs.YtljkojpooajlhaaGreatDoor
open Go Go.RowKit Go.Maps

theorem retE.below {r : List Int × Int} {w w1 : World} {e : Ending} {w' : World} (h : retE r w1 e w') (hb : Below w.heap.size w w1) : retE r w e w' := by
  obtain ⟨v, h1, h2, h3⟩ := h
  exact ⟨v, h1, OwnL.baseMono h2 hb.size, bcall hb h3⟩
end Go.Proofs.YtljkojpooajlhaaGreatDoor
