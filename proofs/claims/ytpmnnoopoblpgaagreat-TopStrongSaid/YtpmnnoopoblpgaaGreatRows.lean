/-
  No cell of these rows narrows 'for every input' (looked for: loops, veiled, ifaces, maps, wideKeys, modest, calm, conditions, laid).
  DERIVED. THE GIVEN ROWS OF THIS SEAT. 8 by the template 'for every input the law returns true; each argument reads behind the call as it read before'; 0 by the template 'total and deterministic' (their statements: YtpmnnoopoblpgaaGreatTotals.lean).
  GIVEN WITH THE SEED: the statements are not yours to turn. If you find one false, say at which input.
  Laid BY PROGRAM, IN A SANDBOX (cutbox-rows.mjs): the forced cells as the released guide's own fill.sh prints them over the translation 8be96f97ee33b4c6… (all of the seat's roots in one cut). By AI agents, Wed Nov 11 2026. No macro, syntax, notation, axiom, sorry.
-/
import Derived.Test.YtpmnnoopoblpgaaGreatChecked
import GoSem.Claim
import GoSem.ClaimJoined
import GoSem.ClaimMapViews
import Derived.JoinedTies
import Derived.KernelRfl
namespace Go.Proofs.YtpmnnoopoblpgaaGreat
/- THE CELL 'sum', in the pinned program and in every row, IS THE sha256 OF THE DUMP (.gsa) THAT YtpmnnoopoblpgaaGreatProg.lean LOADS. Nothing in Lean hashes anything: it is a label: what it is worth is what the hold of that sum in a sandbox is worth. -/
noncomputable def Tryz.pinned : Pinned := { name := "ytpmnnoopoblpgaagreat", sum := "8be96f97ee33b4c62ef322dfd2e44673143a894d465cf9c876c126b5de76bd1d", checked := Tryz.checked }
namespace Rows
def none {H : Type} : Left H := { results := [], args := [] }

/-- 'lemmarylaw06.DepsGeneral': WHATEVER THE INPUT: true; the input reads as it did. -/
def depsGeneralSpec : ChangeSpec := { name := "depsGeneral", fn := fun _ => fun
  | [d1, d2, d3, d4] => { results := [.lit (.bool true)], args := [d1, d2, d3, d4] }
  | _ => none }
def depsGeneralRow : OpenClaim := { program := "ytpmnnoopoblpgaagreat", sum := "8be96f97ee33b4c62ef322dfd2e44673143a894d465cf9c876c126b5de76bd1d", func := "lemmary/lemmarylaw06.DepsGeneral", spec := "depsGeneral", unfollowed := true, recurses := true, apart := false }
def DepsGeneralSaid : Prop := depsGeneralRow.holds Tryz.pinned (OpenSpec.ofChange depsGeneralSpec)

/-- ITS FALSE NEIGHBOUR: 'it returns false'. Refute it at one input. -/
def depsGeneralWrong : ChangeSpec := { name := "depsGeneral", fn := fun _ => fun
  | [d1, d2, d3, d4] => { results := [.lit (.bool false)], args := [d1, d2, d3, d4] }
  | _ => none }
def DepsGeneralWrongFalsely : Prop := depsGeneralRow.holds Tryz.pinned (OpenSpec.ofChange depsGeneralWrong)

/-- 'lemmarylaw06.DepsNames': WHATEVER THE INPUT: true; the input reads as it did. -/
def depsNamesSpec : ChangeSpec := { name := "depsNames", fn := fun _ => fun
  | [d1, d2, d3] => { results := [.lit (.bool true)], args := [d1, d2, d3] }
  | _ => none }
def depsNamesRow : OpenClaim := { program := "ytpmnnoopoblpgaagreat", sum := "8be96f97ee33b4c62ef322dfd2e44673143a894d465cf9c876c126b5de76bd1d", func := "lemmary/lemmarylaw06.DepsNames", spec := "depsNames", unfollowed := true, recurses := true, apart := false }
def DepsNamesSaid : Prop := depsNamesRow.holds Tryz.pinned (OpenSpec.ofChange depsNamesSpec)

/-- ITS FALSE NEIGHBOUR: 'it returns false'. Refute it at one input. -/
def depsNamesWrong : ChangeSpec := { name := "depsNames", fn := fun _ => fun
  | [d1, d2, d3] => { results := [.lit (.bool false)], args := [d1, d2, d3] }
  | _ => none }
def DepsNamesWrongFalsely : Prop := depsNamesRow.holds Tryz.pinned (OpenSpec.ofChange depsNamesWrong)

/-- 'lemmarylaw06.DepsHolds': WHATEVER THE INPUT: true; the input reads as it did. -/
def depsHoldsSpec : ChangeSpec := { name := "depsHolds", fn := fun _ => fun
  | [d1, d2, d3] => { results := [.lit (.bool true)], args := [d1, d2, d3] }
  | _ => none }
def depsHoldsRow : OpenClaim := { program := "ytpmnnoopoblpgaagreat", sum := "8be96f97ee33b4c62ef322dfd2e44673143a894d465cf9c876c126b5de76bd1d", func := "lemmary/lemmarylaw06.DepsHolds", spec := "depsHolds", unfollowed := true, recurses := true, apart := false }
def DepsHoldsSaid : Prop := depsHoldsRow.holds Tryz.pinned (OpenSpec.ofChange depsHoldsSpec)

/-- ITS FALSE NEIGHBOUR: 'it returns false'. Refute it at one input. -/
def depsHoldsWrong : ChangeSpec := { name := "depsHolds", fn := fun _ => fun
  | [d1, d2, d3] => { results := [.lit (.bool false)], args := [d1, d2, d3] }
  | _ => none }
def DepsHoldsWrongFalsely : Prop := depsHoldsRow.holds Tryz.pinned (OpenSpec.ofChange depsHoldsWrong)

/-- 'lemmarylaw06.DepsBreaks': WHATEVER THE INPUT: true; the input reads as it did. -/
def depsBreaksSpec : ChangeSpec := { name := "depsBreaks", fn := fun _ => fun
  | [d1, d2, d3, d4] => { results := [.lit (.bool true)], args := [d1, d2, d3, d4] }
  | _ => none }
def depsBreaksRow : OpenClaim := { program := "ytpmnnoopoblpgaagreat", sum := "8be96f97ee33b4c62ef322dfd2e44673143a894d465cf9c876c126b5de76bd1d", func := "lemmary/lemmarylaw06.DepsBreaks", spec := "depsBreaks", unfollowed := true, recurses := true, apart := false }
def DepsBreaksSaid : Prop := depsBreaksRow.holds Tryz.pinned (OpenSpec.ofChange depsBreaksSpec)

/-- ITS FALSE NEIGHBOUR: 'it returns false'. Refute it at one input. -/
def depsBreaksWrong : ChangeSpec := { name := "depsBreaks", fn := fun _ => fun
  | [d1, d2, d3, d4] => { results := [.lit (.bool false)], args := [d1, d2, d3, d4] }
  | _ => none }
def DepsBreaksWrongFalsely : Prop := depsBreaksRow.holds Tryz.pinned (OpenSpec.ofChange depsBreaksWrong)

/-- 'lemmarylaw06.DepsLeans': WHATEVER THE INPUT: true; the input reads as it did. -/
def depsLeansSpec : ChangeSpec := { name := "depsLeans", fn := fun _ => fun
  | [d1, d2, d3] => { results := [.lit (.bool true)], args := [d1, d2, d3] }
  | _ => none }
def depsLeansRow : OpenClaim := { program := "ytpmnnoopoblpgaagreat", sum := "8be96f97ee33b4c62ef322dfd2e44673143a894d465cf9c876c126b5de76bd1d", func := "lemmary/lemmarylaw06.DepsLeans", spec := "depsLeans", unfollowed := true, recurses := true, apart := false }
def DepsLeansSaid : Prop := depsLeansRow.holds Tryz.pinned (OpenSpec.ofChange depsLeansSpec)

/-- ITS FALSE NEIGHBOUR: 'it returns false'. Refute it at one input. -/
def depsLeansWrong : ChangeSpec := { name := "depsLeans", fn := fun _ => fun
  | [d1, d2, d3] => { results := [.lit (.bool false)], args := [d1, d2, d3] }
  | _ => none }
def DepsLeansWrongFalsely : Prop := depsLeansRow.holds Tryz.pinned (OpenSpec.ofChange depsLeansWrong)

/-- 'lemmarylaw06.DepsOrders': WHATEVER THE INPUT: true; the input reads as it did. -/
def depsOrdersSpec : ChangeSpec := { name := "depsOrders", fn := fun _ => fun
  | [d1, d2, d3, d4] => { results := [.lit (.bool true)], args := [d1, d2, d3, d4] }
  | _ => none }
def depsOrdersRow : OpenClaim := { program := "ytpmnnoopoblpgaagreat", sum := "8be96f97ee33b4c62ef322dfd2e44673143a894d465cf9c876c126b5de76bd1d", func := "lemmary/lemmarylaw06.DepsOrders", spec := "depsOrders", unfollowed := true, recurses := true, apart := false }
def DepsOrdersSaid : Prop := depsOrdersRow.holds Tryz.pinned (OpenSpec.ofChange depsOrdersSpec)

/-- ITS FALSE NEIGHBOUR: 'it returns false'. Refute it at one input. -/
def depsOrdersWrong : ChangeSpec := { name := "depsOrders", fn := fun _ => fun
  | [d1, d2, d3, d4] => { results := [.lit (.bool false)], args := [d1, d2, d3, d4] }
  | _ => none }
def DepsOrdersWrongFalsely : Prop := depsOrdersRow.holds Tryz.pinned (OpenSpec.ofChange depsOrdersWrong)

/-- 'lemmarylaw06.DepsCircles': WHATEVER THE INPUT: true; the input reads as it did. -/
def depsCirclesSpec : ChangeSpec := { name := "depsCircles", fn := fun _ => fun
  | [d1, d2, d3] => { results := [.lit (.bool true)], args := [d1, d2, d3] }
  | _ => none }
def depsCirclesRow : OpenClaim := { program := "ytpmnnoopoblpgaagreat", sum := "8be96f97ee33b4c62ef322dfd2e44673143a894d465cf9c876c126b5de76bd1d", func := "lemmary/lemmarylaw06.DepsCircles", spec := "depsCircles", unfollowed := true, recurses := true, apart := false }
def DepsCirclesSaid : Prop := depsCirclesRow.holds Tryz.pinned (OpenSpec.ofChange depsCirclesSpec)

/-- ITS FALSE NEIGHBOUR: 'it returns false'. Refute it at one input. -/
def depsCirclesWrong : ChangeSpec := { name := "depsCircles", fn := fun _ => fun
  | [d1, d2, d3] => { results := [.lit (.bool false)], args := [d1, d2, d3] }
  | _ => none }
def DepsCirclesWrongFalsely : Prop := depsCirclesRow.holds Tryz.pinned (OpenSpec.ofChange depsCirclesWrong)

/-- 'lemmarytop.TopStrong': WHATEVER THE INPUT: true; the input reads as it did. -/
def topStrongSpec : ChangeSpec := { name := "topStrong", fn := fun _ => fun
  | [d1, d2] => { results := [.lit (.bool true)], args := [d1, d2] }
  | _ => none }
def topStrongRow : OpenClaim := { program := "ytpmnnoopoblpgaagreat", sum := "8be96f97ee33b4c62ef322dfd2e44673143a894d465cf9c876c126b5de76bd1d", func := "lemmary/lemmarytop.TopStrong", spec := "topStrong", unfollowed := true, recurses := true, apart := false }
def TopStrongSaid : Prop := topStrongRow.holds Tryz.pinned (OpenSpec.ofChange topStrongSpec)

/-- ITS FALSE NEIGHBOUR: 'it returns false'. Refute it at one input. -/
def topStrongWrong : ChangeSpec := { name := "topStrong", fn := fun _ => fun
  | [d1, d2] => { results := [.lit (.bool false)], args := [d1, d2] }
  | _ => none }
def TopStrongWrongFalsely : Prop := topStrongRow.holds Tryz.pinned (OpenSpec.ofChange topStrongWrong)

/- THE SECOND FORM. 'bulk': how many values and letters a reading holds, each counted each time it is reached (what is shared counts as often as it is met; a slice's spare places count too). A statement '..UptoSaid' is the law's where the arguments, and the package variables that the reading takes, are together of bulk at most 1048576: NARROWER than '..Said'. Prove '..Said' where nothing that the law and all that it calls make is longer than what came in: it says more and counts as full. Else prove '..UptoSaid'. A law counts once. -/
mutual
def uptoBulk {H : Type} : DataW H → Nat
  | .lit (.string bytes) => bytes.length + 1
  | .lit _ => 1
  | .nil => 1
  | .ptr d => uptoBulk d + 1
  | .slice elems spare => uptoBulkAll elems + uptoBulkAll spare + 1
  | .agg parts => uptoBulkAll parts + 1
  | .iface _ d => uptoBulk d + 1
  | .map entries => uptoBulkEntries entries + 1
  | .held _ => 1
def uptoBulkAll {H : Type} : List (DataW H) → Nat
  | [] => 0
  | d :: r => uptoBulk d + uptoBulkAll r
def uptoBulkEntries {H : Type} : List (Lit × DataW H) → Nat
  | [] => 0
  | x :: r => uptoBulkEntry x + uptoBulkEntries r
def uptoBulkEntry {H : Type} : Lit × DataW H → Nat
  | (.string bytes, d) => bytes.length + uptoBulk d + 1
  | (_, d) => uptoBulk d + 1
 end
def uptoSmall : (H : Type) → List (DataW H) → Bool := fun _ ds => decide (uptoBulkAll ds ≤ 1048576)
def OpenSpec.upto (s : _root_.Go.ChangeSpec) : _root_.Go.OpenSpec := { _root_.Go.OpenSpec.ofChange s with cond := some uptoSmall }

/-- 'lemmarylaw06.DepsGeneral', WHERE WHAT IT READS IS OF BULK AT MOST 1048576: true; the input reads as it did. -/
def depsGeneralUptoRow : OpenClaim := { program := "ytpmnnoopoblpgaagreat", sum := "8be96f97ee33b4c62ef322dfd2e44673143a894d465cf9c876c126b5de76bd1d", func := "lemmary/lemmarylaw06.DepsGeneral", spec := "depsGeneral", unfollowed := true, recurses := true, apart := false, narrowed := true }
def DepsGeneralUptoSaid : Prop := depsGeneralUptoRow.holds Tryz.pinned (OpenSpec.upto depsGeneralSpec)

/-- 'lemmarylaw06.DepsNames', WHERE WHAT IT READS IS OF BULK AT MOST 1048576: true; the input reads as it did. -/
def depsNamesUptoRow : OpenClaim := { program := "ytpmnnoopoblpgaagreat", sum := "8be96f97ee33b4c62ef322dfd2e44673143a894d465cf9c876c126b5de76bd1d", func := "lemmary/lemmarylaw06.DepsNames", spec := "depsNames", unfollowed := true, recurses := true, apart := false, narrowed := true }
def DepsNamesUptoSaid : Prop := depsNamesUptoRow.holds Tryz.pinned (OpenSpec.upto depsNamesSpec)

/-- 'lemmarylaw06.DepsHolds', WHERE WHAT IT READS IS OF BULK AT MOST 1048576: true; the input reads as it did. -/
def depsHoldsUptoRow : OpenClaim := { program := "ytpmnnoopoblpgaagreat", sum := "8be96f97ee33b4c62ef322dfd2e44673143a894d465cf9c876c126b5de76bd1d", func := "lemmary/lemmarylaw06.DepsHolds", spec := "depsHolds", unfollowed := true, recurses := true, apart := false, narrowed := true }
def DepsHoldsUptoSaid : Prop := depsHoldsUptoRow.holds Tryz.pinned (OpenSpec.upto depsHoldsSpec)

/-- 'lemmarylaw06.DepsBreaks', WHERE WHAT IT READS IS OF BULK AT MOST 1048576: true; the input reads as it did. -/
def depsBreaksUptoRow : OpenClaim := { program := "ytpmnnoopoblpgaagreat", sum := "8be96f97ee33b4c62ef322dfd2e44673143a894d465cf9c876c126b5de76bd1d", func := "lemmary/lemmarylaw06.DepsBreaks", spec := "depsBreaks", unfollowed := true, recurses := true, apart := false, narrowed := true }
def DepsBreaksUptoSaid : Prop := depsBreaksUptoRow.holds Tryz.pinned (OpenSpec.upto depsBreaksSpec)

/-- 'lemmarylaw06.DepsLeans', WHERE WHAT IT READS IS OF BULK AT MOST 1048576: true; the input reads as it did. -/
def depsLeansUptoRow : OpenClaim := { program := "ytpmnnoopoblpgaagreat", sum := "8be96f97ee33b4c62ef322dfd2e44673143a894d465cf9c876c126b5de76bd1d", func := "lemmary/lemmarylaw06.DepsLeans", spec := "depsLeans", unfollowed := true, recurses := true, apart := false, narrowed := true }
def DepsLeansUptoSaid : Prop := depsLeansUptoRow.holds Tryz.pinned (OpenSpec.upto depsLeansSpec)

/-- 'lemmarylaw06.DepsOrders', WHERE WHAT IT READS IS OF BULK AT MOST 1048576: true; the input reads as it did. -/
def depsOrdersUptoRow : OpenClaim := { program := "ytpmnnoopoblpgaagreat", sum := "8be96f97ee33b4c62ef322dfd2e44673143a894d465cf9c876c126b5de76bd1d", func := "lemmary/lemmarylaw06.DepsOrders", spec := "depsOrders", unfollowed := true, recurses := true, apart := false, narrowed := true }
def DepsOrdersUptoSaid : Prop := depsOrdersUptoRow.holds Tryz.pinned (OpenSpec.upto depsOrdersSpec)

/-- 'lemmarylaw06.DepsCircles', WHERE WHAT IT READS IS OF BULK AT MOST 1048576: true; the input reads as it did. -/
def depsCirclesUptoRow : OpenClaim := { program := "ytpmnnoopoblpgaagreat", sum := "8be96f97ee33b4c62ef322dfd2e44673143a894d465cf9c876c126b5de76bd1d", func := "lemmary/lemmarylaw06.DepsCircles", spec := "depsCircles", unfollowed := true, recurses := true, apart := false, narrowed := true }
def DepsCirclesUptoSaid : Prop := depsCirclesUptoRow.holds Tryz.pinned (OpenSpec.upto depsCirclesSpec)

/-- 'lemmarytop.TopStrong', WHERE WHAT IT READS IS OF BULK AT MOST 1048576: true; the input reads as it did. -/
def topStrongUptoRow : OpenClaim := { program := "ytpmnnoopoblpgaagreat", sum := "8be96f97ee33b4c62ef322dfd2e44673143a894d465cf9c876c126b5de76bd1d", func := "lemmary/lemmarytop.TopStrong", spec := "topStrong", unfollowed := true, recurses := true, apart := false, narrowed := true }
def TopStrongUptoSaid : Prop := topStrongUptoRow.holds Tryz.pinned (OpenSpec.upto topStrongSpec)

end Rows
end Go.Proofs.YtpmnnoopoblpgaaGreat
