/-
  DERIVED. GIVEN WITH THE SEED: THE CARDS: each row of YtlejmeegkpdabaaGreatDoorRows.lean that lists a variable, with what it lists TIED to the program's text (the seventh form; the later family's looks); each row that meets fmt, with fmt's text TOLD by the authors' own Lean function (tested against real Go, not proved from fmt's source: count such statements apart). THE CARD IS WHAT COUNTS. Prove the row's statement (the work); the ties are given (YtlejmeegkpdabaaGreatDoorTie.lean); close each card by the builder's one call (the guide's Derived/Test/ToyasCard.lean, 'card_holds'). Laid BY PROGRAM, IN A SANDBOX (cutbox-door.mjs). By AI agents, Wed Nov 11 2026. No macro, syntax, notation, axiom, sorry.
-/
import Derived.Test.YtlejmeegkpdabaaGreatDoorRows
import GoSem.ClaimSeven
namespace Go.Proofs.YtlejmeegkpdabaaGreatDoor
namespace Rows

/-- THE TIED CARD OF 'lemmarylaw06.DepsTexts'. -/
def depsTextsCard : Claim7 := { stood := { row := depsTextsRow, standIns := [], harness := (true, "b5256e26b9e0e3b8b07e25d57746f9c6b024cb44f305463d1dbcba4894373b84"), looks := true }, kinds := [], alts := [], laidByText := true, laidKinds := [.data, .data, .data, .data, .sentinel, .sentinel, .pinned], laidTests := true, laidLooks := .later }
def DepsTextsCardSaid : Prop := Claim7.holds Tryz.pinned (.plain (OpenSpec.ofChange depsTextsSpec)) depsTextsCard

/-- THE SECOND FORM's CARD OF 'lemmarylaw06.DepsTexts'. -/
def depsTextsUptoCard : Claim7 := { stood := { row := depsTextsUptoRow, standIns := [], harness := (true, "b5256e26b9e0e3b8b07e25d57746f9c6b024cb44f305463d1dbcba4894373b84"), looks := true }, kinds := [], alts := [], laidByText := true, laidKinds := [.data, .data, .data, .data, .sentinel, .sentinel, .pinned], laidTests := true, laidLooks := .later }
def DepsTextsUptoCardSaid : Prop := Claim7.holds Tryz.pinned (.plain (OpenSpec.upto depsTextsSpec)) depsTextsUptoCard
end Rows
end Go.Proofs.YtlejmeegkpdabaaGreatDoor
