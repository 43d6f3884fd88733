/- Walks: arguments of terms, of the program. -/
import Derived.Test.YtnhaoalcpbefoaaGreatDoorWalkI
import Derived.Test.YtnhaoalcpbefoaaGreatDoorMath4
namespace Go.Proofs.YtnhaoalcpbefoaaGreatDoor
open Go Go.RowKit Go.Maps

abbrev OwnTs (S : Nat → Prop) (w : World) (base : Nat) (v : Value) (l : List (List Int)) : Prop := OwnL (slE intE) S w base 28 v l
theorem infoTerm : (Tryz.prog.info? 28).map (fun i => (i.zero, i.size, i.bytes)) = some (some (.slice none 0 0), 1, 24) := by kernel_rfl
/-- a part of a slice -/
theorem Ints.part {S : Nat → Prop} {w : World} {b off c : Nat} {l : List Int} (h : Ints S w (some ⟨b, off, none⟩) c l) (i j c' : Nat) (hij : i ≤ j) (hj : j ≤ l.length) (h1 : j - i ≤ c') (h2 : c' ≤ c) :
    Ints S w (some ⟨b, off + i, none⟩) c' ((l.drop i).take (j - i)) := by
  refine ⟨by simp; omega, Nat.le_trans h2 h.max, fun e => by simp at e, fun hne => ?_⟩
  have hl : 0 < ((l.drop i).take (j - i)).length := by
    rcases Nat.eq_zero_or_pos ((l.drop i).take (j - i)).length with h0 | h0
    · exact (hne (List.length_eq_zero_iff.1 h0)).elim
    · exact h0
  simp at hl
  obtain ⟨b', o', he, hb, hlt, hc⟩ := h.dat (by intro e; subst e; simp at hl)
  simp only [Option.some.injEq, Addr.mk.injEq, and_true] at he
  obtain ⟨rfl, rfl⟩ := he
  refine ⟨b, off + i, rfl, hb, hlt, fun k hk => ?_⟩
  simp at hk
  obtain ⟨vs, v1, v2, v3⟩ := hc (i + k) (by omega)
  refine ⟨vs, v1, fun q hq => ?_, ?_⟩
  · have := v2 q hq
    rw [show off + i + k * intE.size + q = off + (i + k) * intE.size + q by simp [intE]; omega]
    exact this
  · have : ((l.drop i).take (j - i))[k]'(by simp; omega) = l[i + k]'(by omega) := by simp
    rw [this]; exact v3

/-- append of one term -/
theorem Ts_push {S : Nat → Prop} {w wr w1 : World} {out : Value} {l : List (List Int)} (ho : OwnTs S wr w.heap.size out l) (hB : Below w.heap.size w wr) (hB1 : Below wr.heap.size wr w1) {a : Option Addr} {c : Nat} {u : List Int} (hu : Ints (Off S out) w1 a c u) (hl : l.length + 1 ≤ 1000000) :
    ∃ v' w', RowKit.Hid ((Builtin.append_ #[56, 56] 56 #[out, .slice (some ⟨w1.heap.size, 0, none⟩) 1 1]).run Tryz.prog (w1.alloc (.cells #[.slice a u.length c] 28)) = .ok v' w') ∧ RowKit.Hid (OwnTs S w' w.heap.size v' (l ++ [u])) ∧ RowKit.Hid (Below w.heap.size w w') := by
  have hB2 := hB.trans (hB1.mono hB.size)
  have ho1 := ho.call hB1
  obtain ⟨v', w', hrun, ho', hg, hat⟩ := ho1.push (P := Tryz.prog) (t := 56) (ty := 56) Tryz.underlying56 infoTerm rfl (vs := [.slice a u.length c]) (x := u) ⟨_, _, rfl, hu⟩ (by omega) (by unfold big; omega) hB2.size
  exact ⟨v', w', Lib.hid hrun, Lib.hid ho', Lib.hid (hB2.grown hg hB2.size (fun k e => (ho1.lt k e).1))⟩

def argRel (S2 : Nat → Prop) (s : Sg) (t : List Int) (m : Nat) (w : World) (out at_ i : Value) (wr : World) : Prop :=
  ∃ j p : Nat, i = .int .i64 j ∧ at_ = .int .i64 p ∧ j ≤ m ∧ 1 ≤ p ∧ p ≤ t.length ∧ skip s (m - j) (t.drop p) = some [] ∧ (argsT s t).take j ++ splitK s (m - j) (t.drop p) = argsT s t ∧
    OwnTs (fun b => S2 b ∧ b < w.heap.size) wr w.heap.size out ((argsT s t).take j) ∧ Below w.heap.size w wr
def retTerms (S : Nat → Prop) (w : World) (l : List (List Int)) (e : Ending) (w' : World) : Prop := ∃ v, e = .returned v ∧ OwnTs S w' w.heap.size v l ∧ Below w.heap.size w w'

theorem retTerms.weak {S S' : Nat → Prop} {w : World} {l : List (List Int)} {e : Ending} {w' : World} (h : retTerms S w l e w') (hS : ∀ b, S b → S' b) : retTerms S' w l e w' := by
  obtain ⟨v, rfl, ⟨xs, h1, h2, h3⟩, hb⟩ := h
  exact ⟨v, rfl, ⟨xs, h1, h2, fun i g1 g2 => (slE intE).mono (h3 i g1 g2) (fun b _ hb => ⟨hS b hb.1, hb.2⟩) (.refl _ _)⟩, hb⟩
end Go.Proofs.YtnhaoalcpbefoaaGreatDoor
