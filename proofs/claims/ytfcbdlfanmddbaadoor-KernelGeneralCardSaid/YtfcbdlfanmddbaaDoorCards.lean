/-
  DERIVED. GIVEN WITH THE SEED: THE CARDS: each row of YtfcbdlfanmddbaaDoorRows.lean that lists a variable, with what it lists TIED to the program's text (the seventh form; the later family's looks); each row that meets fmt, with fmt's text TOLD by the authors' own Lean function (tested against real Go, not proved from fmt's source: count such statements apart). THE CARD IS WHAT COUNTS. Prove the row's statement (the work); the ties are given (YtfcbdlfanmddbaaDoorTie.lean); close each card by the builder's one call (the guide's Derived/Test/ToyasCard.lean, 'card_holds'). Laid BY PROGRAM, IN A SANDBOX (cutbox-door.mjs). By AI agents, Wed Nov 11 2026. No macro, syntax, notation, axiom, sorry.
-/
import Derived.Test.YtfcbdlfanmddbaaDoorRows
import GoSem.ClaimSeven
namespace Go.Proofs.YtfcbdlfanmddbaaDoor
namespace Rows

/-- THE TIED CARD OF 'lemmarylaw04.KernelGeneral'. -/
def kernelGeneralCard : Claim7 := { stood := { row := kernelGeneralRow, standIns := [], harness := (true, "b3745f485fdecd7abe0520432dc59a46b76f29baa8e9da68cb05252658b20546"), looks := true }, kinds := [], alts := [], laidByText := true, laidKinds := [.data, .data, .data, .sentinel, .sentinel], laidTests := true, laidLooks := .later }
def KernelGeneralCardSaid : Prop := Claim7.holds Tryd.pinned (.plain (OpenSpec.ofChange kernelGeneralSpec)) kernelGeneralCard

/-- THE SECOND FORM's CARD OF 'lemmarylaw04.KernelGeneral'. -/
def kernelGeneralUptoCard : Claim7 := { stood := { row := kernelGeneralUptoRow, standIns := [], harness := (true, "b3745f485fdecd7abe0520432dc59a46b76f29baa8e9da68cb05252658b20546"), looks := true }, kinds := [], alts := [], laidByText := true, laidKinds := [.data, .data, .data, .sentinel, .sentinel], laidTests := true, laidLooks := .later }
def KernelGeneralUptoCardSaid : Prop := Claim7.holds Tryd.pinned (.plain (OpenSpec.upto kernelGeneralSpec)) kernelGeneralUptoCard
end Rows
end Go.Proofs.YtfcbdlfanmddbaaDoor
