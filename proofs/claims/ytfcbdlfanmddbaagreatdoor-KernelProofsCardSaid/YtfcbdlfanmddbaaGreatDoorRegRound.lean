/- A region that draws its order, in a round of a range over a function: walked outside the fence under one condition on the world, where no operation calls. No program is named. -/
import Derived.Test.YtfcbdlfanmddbaaGreatDoorRegion
import Derived.OrdersIn
import Derived.TacticsIn
namespace Go.Proofs.YtfcbdlfanmddbaaGreatDoor
open Go Go.RowKit

/-- operations that yield a value or nothing -/
def plainOp : Op → Bool
  | .move _ | .assign _ | .alloc _ | .box _ _ | .load _ _ | .store _ _ _ | .binOp _ _ _ _ _ | .unOp _ _ _ | .fieldAddr _ _ _ | .field _ _ _ | .indexAddr _ _ _ | .index _ _ _ | .buildSlice _ _ _ | .extract _ _ => true
  | _ => false
theorem run_value {P : Program} {w w' : World} {s : Sem Value} {x : Next} (h : (do pure (Next.value (← s)) : Sem Next).run P w = .ok x w') : ∃ v, x = .value v := by
  simp only [Sem.run_bind, Sem.run_pure] at h
  cases hs : s.run P w with
  | ok v w2 => rw [hs] at h; simp only [Result.andThen_ok] at h; injection h with h1 h2; exact ⟨v, h1.symm⟩
  | halt x w2 => rw [hs] at h; simp [Result.andThen] at h
theorem run_skip {P : Program} {w w' : World} {s : Sem Unit} {x : Next} (h : (do s; pure Next.skip : Sem Next).run P w = .ok x w') : x = .skip := by
  simp only [Sem.run_bind, Sem.run_pure] at h
  cases hs : s.run P w with
  | ok v w2 => rw [hs] at h; simp only [Result.andThen_ok] at h; injection h with h1 h2; exact h1.symm
  | halt x w2 => rw [hs] at h; simp [Result.andThen] at h
theorem plain_run {P : Program} {w w' : World} {o : Oper} {ρ : Operand → Value} {x : Next} (hp : plainOp o.op = true) (h : (execOp ρ o).run P w = .ok x w') : (∃ v, x = .value v) ∨ x = .skip := by
  unfold execOp at h
  cases ho : o.op <;> rw [ho] at hp h <;> first | (cases hp; done) | (dsimp only at h; exact .inl (run_value h)) | (dsimp only at h; exact .inr (run_skip h)) | (dsimp only at h; rw [Sem.run_pure] at h; injection h with h1 h2; exact .inl ⟨_, h1.symm⟩)
theorem plain_about {P : Program} {w : World} {o : Oper} {ρ : Operand → Value} (hp : plainOp o.op = true) : o.about P w ρ = none := by
  unfold Oper.about
  cases ho : o.op <;> first | rfl | (rw [ho] at hp; cases hp; done)
theorem plain_defer {o : Oper} (hp : plainOp o.op = true) : ∀ c, o.op ≠ .defer c := fun c e => by rw [e] at hp; cases hp
section
variable {F : Fence} {n : Nat} {P : Program} {ops : Array Oper} {Q : Exit → Act → World → Prop}
theorem plain_wpIn {o : Oper} (hp : plainOp o.op = true) {a : Act} {w : World} {K : Act → World → Prop} (h : o.wp P a w K Q) : o.wpIn F n P a w K Q := by
  refine ⟨fun f hf => (by rw [plain_about hp] at hf; cases hf), ?_⟩
  rw [Oper.semAt_eq _ _ _ (plain_defer hp)]
  unfold Oper.wp at h
  cases hr : (execOp a.eval o).run P w with
  | ok x w' =>
    rw [hr] at h
    rcases plain_run hp hr with ⟨v, rfl⟩ | rfl
    · exact h
    · exact h
  | halt x w' =>
    rw [hr] at h
    cases x <;> first | exact h | exact h.elim
theorem plain_wpOpIn (hp : ∀ (i : Nat) (o : Oper), ops[i]? = some o → plainOp o.op = true) (hL : ¬ LetsOut Q) {i : Nat} {a : Act} {w : World} {K : Act → World → Prop} (h : wpOp P ops Q i K a w) : wpOpIn F n P ops Q i K a w := by
  unfold wpOp at h
  unfold wpOpIn
  cases ho : ops[i]? with
  | none => rw [ho] at h; exact h
  | some o =>
    rw [ho] at h
    have hpo := hp i o ho
    simp only at h ⊢
    split
    · rename_i hw
      rw [if_pos hw] at h
      rcases h with h | ⟨-, h⟩
      · exact plain_wpIn hpo h
      · exact (hL h).elim
    · rename_i hw
      rw [if_neg hw] at h
      exact ⟨fun f hf => (by rw [plain_about hpo] at hf; cases hf), h⟩
theorem plain_wpAnyIn (hp : ∀ (i : Nat) (o : Oper), ops[i]? = some o → plainOp o.op = true) (hL : ¬ LetsOut Q) {md : Region.Mode} : ∀ (fuel : Nat) (listed : Array Bool) (a : Act) (w : World), wpAny P md ops Q fuel listed a w → wpAnyIn F n P md ops Q fuel listed a w
  | 0, _, _, _, h => h
  | fuel + 1, _, _, _, h => ⟨h.1, fun i hi => wpOpIn_mono (fun a' w' h' => plain_wpAnyIn hp hL fuel _ a' w' h') (plain_wpOpIn hp hL (h.2 i hi))⟩
theorem region_round {id : Nat} {l : List Oper} {S : World → Prop} {a : Act} {w : World} (hm : P.follows .mixedOrders = true) (hp : l.all (fun o => plainOp o.op) = true) (hL : ¬ LetsOut Q) (hS : S w.drew)
    (h : S w.drew → wpAnyH P .any l.toArray Q S l.toArray.size (Array.replicate l.toArray.size false) a w.drew) : (Code.region id l.toArray true).wpIn F n P Q a w := by
  refine wpIn_region_any hm (plain_wpAnyIn (fun i o ho => ?_) hL _ _ _ _ (wpAny_of_held _ _ _ _ (h hS)))
  have hm2 : o ∈ l := by
    rw [List.getElem?_toArray] at ho
    exact List.mem_of_getElem? ho
  exact List.all_eq_true.1 hp o hm2
end
end Go.Proofs.YtfcbdlfanmddbaaGreatDoor
