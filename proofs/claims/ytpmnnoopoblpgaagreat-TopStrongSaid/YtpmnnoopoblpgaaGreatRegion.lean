/- A region that draws its order, walked operation by operation under one condition on the world. No program is named. -/
import Derived.WalkKit
import Derived.Deep.RegionHeld3
namespace Go.Proofs.YtpmnnoopoblpgaaGreat
open Go Go.RowKit
section
variable {P : Program} {Q : Exit → Act → World → Prop} {md : Region.Mode} {S : World → Prop} {l : List Oper} {listed : Array Bool} {fuel : Nat} {a : Act} {w : World}
/-- an operation that yields its value in every world that meets S -/
theorem region_take (i : Nat) (d : Option Tmp) {oi : Oper} {v : Value} (hi : l[i]? = some oi) (hd : oi.dst = d)
    (hs : Region.noSelect l.toArray = true) (hf : Region.free md l.toArray listed i = true) (hr : (Region.ready md l.toArray listed).contains i = true)
    (hQ : ∀ c a w, Q (.panic c) (a.put d v) w → Q (.panic c) a w) (hg : Region.wanted oi (yielded l.toArray a.tmps) = true) (hy : ∀ w, S w → (execOp a.eval oi).run P w = .ok (.value v) w) (hS : S w)
    (h : wpAnyH P md l.toArray Q S fuel (listed.setIfInBounds i true) (a.put d v) w) : wpAnyH P md l.toArray Q S (fuel + 1) listed a w := by
  subst hd
  exact wpAnyH_take (by simpa using hi) hs hf hr hQ (.inl ⟨hg, hy⟩) hS h
/-- an operation whose guard says no -/
theorem region_skip (i : Nat) (d : Option Tmp) {oi : Oper} (hi : l[i]? = some oi) (hd : oi.dst = d)
    (hs : Region.noSelect l.toArray = true) (hf : Region.free md l.toArray listed i = true) (hr : (Region.ready md l.toArray listed).contains i = true)
    (hQ : ∀ c a w, Q (.panic c) (a.put d undef) w → Q (.panic c) a w) (hg : Region.wanted oi (yielded l.toArray a.tmps) = false) (hS : S w)
    (h : wpAnyH P md l.toArray Q S fuel (listed.setIfInBounds i true) (a.put d undef) w) : wpAnyH P md l.toArray Q S (fuel + 1) listed a w := by
  subst hd
  exact wpAnyH_take (by simpa using hi) hs hf hr hQ (.inr ⟨hg, rfl⟩) hS h
/-- an operation that is the only one that may come up: a call -/
theorem region_call (i : Nat) {o : Oper} (hi : l[i]? = some o) (hr : Region.ready md l.toArray listed = [i])
    (h : ∀ K' : Act → World → Prop, Shut (∀ a w, S w → (S w → wpAnyH P md l.toArray Q S fuel (listed.setIfInBounds i true) a w) → K' a w) → if Region.wanted o (yielded l.toArray a.tmps) = true then Oper.wp P o a w K' Q else K' (a.put o.dst undef) w) :
    wpAnyH P md l.toArray Q S (fuel + 1) listed a w :=
  wpAnyH_ready hr (by simp) (AllReadyH.cons (by simpa using hi) h AllReadyH.nil)
end
theorem oper_append_run {P : Program} {w : World} {o : Oper} {a : Act} {K : Act → World → Prop} {Q : Exit → Act → World → Prop} (s x : Operand) (t : TypeId)
    (ho : o.op = .call { callee := .builtin .append, args := #[s, x], argTypes := #[t, t] }) {vs vx : Value} (hs : a.eval s = vs) (hx : a.eval x = vx) {v' : Value} {w' : World}
    (hr : (Builtin.append_ #[t, t] o.type #[vs, vx]).run P w = .ok v' w') (h : K (a.put o.dst v') w') : Oper.wp P o a w K Q := by
  unfold Oper.wp execOp
  simp only [ho, resolve, invoke, builtin, Sem.run_bind, Sem.run_pure, Result.andThen_ok, List.map_toArray, List.map_cons, List.map_nil, hs, hx, hr]
  exact h
end Go.Proofs.YtpmnnoopoblpgaaGreat
