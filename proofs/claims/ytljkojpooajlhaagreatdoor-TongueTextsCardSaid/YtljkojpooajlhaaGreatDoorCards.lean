/-
  DERIVED. GIVEN WITH THE SEED: THE CARDS: each row of YtljkojpooajlhaaGreatDoorRows.lean that lists a variable, with what it lists TIED to the program's text (the seventh form; the later family's looks); each row that meets fmt, with fmt's text TOLD by the authors' own Lean function (tested against real Go, not proved from fmt's source: count such statements apart). THE CARD IS WHAT COUNTS. Prove the row's statement (the work); the ties are given (YtljkojpooajlhaaGreatDoorTie.lean); close each card by the builder's one call (the guide's Derived/Test/ToyasCard.lean, 'card_holds'). Laid BY PROGRAM, IN A SANDBOX (cutbox-door.mjs). By AI agents, Wed Nov 11 2026. No macro, syntax, notation, axiom, sorry.
-/
import Derived.Test.YtljkojpooajlhaaGreatDoorRows
import GoSem.ClaimSeven
namespace Go.Proofs.YtljkojpooajlhaaGreatDoor
namespace Rows

/-- THE TIED CARD OF 'lemmarylaw03.TongueTexts'. -/
def tongueTextsCard : Claim7 := { stood := { row := tongueTextsRow, standIns := [], harness := (true, "bbc96e4130402e3d14b2e6007380017ca58a1875c239e72071b64bc18dcdbfe8"), looks := true }, kinds := [], alts := [], laidByText := true, laidKinds := [.data, .data, .data, .data, .sentinel, .sentinel, .pinned], laidTests := true, laidLooks := .later }
def TongueTextsCardSaid : Prop := Claim7.holds Tryz.pinned (.plain (OpenSpec.ofChange tongueTextsSpec)) tongueTextsCard

/-- THE SECOND FORM's CARD OF 'lemmarylaw03.TongueTexts'. -/
def tongueTextsUptoCard : Claim7 := { stood := { row := tongueTextsUptoRow, standIns := [], harness := (true, "bbc96e4130402e3d14b2e6007380017ca58a1875c239e72071b64bc18dcdbfe8"), looks := true }, kinds := [], alts := [], laidByText := true, laidKinds := [.data, .data, .data, .data, .sentinel, .sentinel, .pinned], laidTests := true, laidLooks := .later }
def TongueTextsUptoCardSaid : Prop := Claim7.holds Tryz.pinned (.plain (OpenSpec.upto tongueTextsSpec)) tongueTextsUptoCard
end Rows
end Go.Proofs.YtljkojpooajlhaaGreatDoor
