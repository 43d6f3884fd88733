/-
  DERIVED. GIVEN WITH THE SEED: THE CARDS: each row of YtnhaoalcpbefoaaDoorRows.lean that lists a variable, with what it lists TIED to the program's text (the seventh form; the later family's looks); each row that meets fmt, with fmt's text TOLD by the authors' own Lean function (tested against real Go, not proved from fmt's source: count such statements apart). THE CARD IS WHAT COUNTS. Prove the row's statement (the work); the ties are given (YtnhaoalcpbefoaaDoorTie.lean); close each card by the builder's one call (the guide's Derived/Test/ToyasCard.lean, 'card_holds'). Laid BY PROGRAM, IN A SANDBOX (cutbox-door.mjs). By AI agents, Wed Nov 11 2026. No macro, syntax, notation, axiom, sorry.
-/
import Derived.Test.YtnhaoalcpbefoaaDoorRows
import GoSem.ClaimSeven
namespace Go.Proofs.YtnhaoalcpbefoaaDoor
namespace Rows

/-- THE TIED CARD OF 'lemmarylaw03.TongueWrites'. -/
def tongueWritesCard : Claim7 := { stood := { row := tongueWritesRow, standIns := [], harness := (true, "47b2a44513bf017e379907c6528ddd824b999c818cf32be7758c4a882d5366fa"), looks := true }, kinds := [], alts := [], laidByText := true, laidKinds := [.data, .data, .data, .sentinel, .sentinel], laidTests := true, laidLooks := .later }
def TongueWritesCardSaid : Prop := Claim7.holds Tryd.pinned (.plain (OpenSpec.ofChange tongueWritesSpec)) tongueWritesCard

/-- THE TIED CARD OF 'lemmarylaw03.TongueReads'. -/
def tongueReadsCard : Claim7 := { stood := { row := tongueReadsRow, standIns := [], harness := (true, "47b2a44513bf017e379907c6528ddd824b999c818cf32be7758c4a882d5366fa"), looks := true }, kinds := [], alts := [], laidByText := true, laidKinds := [.data, .data, .data, .sentinel, .sentinel], laidTests := true, laidLooks := .later }
def TongueReadsCardSaid : Prop := Claim7.holds Tryd.pinned (.plain (OpenSpec.ofChange tongueReadsSpec)) tongueReadsCard

/-- THE TIED CARD OF 'lemmarylaw03.TongueTranslates'. -/
def tongueTranslatesCard : Claim7 := { stood := { row := tongueTranslatesRow, standIns := [], harness := (true, "47b2a44513bf017e379907c6528ddd824b999c818cf32be7758c4a882d5366fa"), looks := true }, kinds := [], alts := [], laidByText := true, laidKinds := [.data, .data, .data, .sentinel, .sentinel], laidTests := true, laidLooks := .later }
def TongueTranslatesCardSaid : Prop := Claim7.holds Tryd.pinned (.plain (OpenSpec.ofChange tongueTranslatesSpec)) tongueTranslatesCard

/-- THE TIED CARD OF 'lemmarylaw01.TermTexts'. -/
def termTextsCard : Claim7 := { stood := { row := termTextsRow, standIns := [], harness := (true, "47b2a44513bf017e379907c6528ddd824b999c818cf32be7758c4a882d5366fa"), looks := true }, kinds := [], alts := [], laidByText := true, laidKinds := [.data, .data, .data, .data, .sentinel, .sentinel, .pinned], laidTests := true, laidLooks := .later }
def TermTextsCardSaid : Prop := Claim7.holds Tryd.pinned (.plain (OpenSpec.ofChange termTextsSpec)) termTextsCard

/-- THE SECOND FORM's CARD OF 'lemmarylaw03.TongueWrites'. -/
def tongueWritesUptoCard : Claim7 := { stood := { row := tongueWritesUptoRow, standIns := [], harness := (true, "47b2a44513bf017e379907c6528ddd824b999c818cf32be7758c4a882d5366fa"), looks := true }, kinds := [], alts := [], laidByText := true, laidKinds := [.data, .data, .data, .sentinel, .sentinel], laidTests := true, laidLooks := .later }
def TongueWritesUptoCardSaid : Prop := Claim7.holds Tryd.pinned (.plain (OpenSpec.upto tongueWritesSpec)) tongueWritesUptoCard

/-- THE SECOND FORM's CARD OF 'lemmarylaw03.TongueReads'. -/
def tongueReadsUptoCard : Claim7 := { stood := { row := tongueReadsUptoRow, standIns := [], harness := (true, "47b2a44513bf017e379907c6528ddd824b999c818cf32be7758c4a882d5366fa"), looks := true }, kinds := [], alts := [], laidByText := true, laidKinds := [.data, .data, .data, .sentinel, .sentinel], laidTests := true, laidLooks := .later }
def TongueReadsUptoCardSaid : Prop := Claim7.holds Tryd.pinned (.plain (OpenSpec.upto tongueReadsSpec)) tongueReadsUptoCard

/-- THE SECOND FORM's CARD OF 'lemmarylaw03.TongueTranslates'. -/
def tongueTranslatesUptoCard : Claim7 := { stood := { row := tongueTranslatesUptoRow, standIns := [], harness := (true, "47b2a44513bf017e379907c6528ddd824b999c818cf32be7758c4a882d5366fa"), looks := true }, kinds := [], alts := [], laidByText := true, laidKinds := [.data, .data, .data, .sentinel, .sentinel], laidTests := true, laidLooks := .later }
def TongueTranslatesUptoCardSaid : Prop := Claim7.holds Tryd.pinned (.plain (OpenSpec.upto tongueTranslatesSpec)) tongueTranslatesUptoCard

/-- THE SECOND FORM's CARD OF 'lemmarylaw01.TermTexts'. -/
def termTextsUptoCard : Claim7 := { stood := { row := termTextsUptoRow, standIns := [], harness := (true, "47b2a44513bf017e379907c6528ddd824b999c818cf32be7758c4a882d5366fa"), looks := true }, kinds := [], alts := [], laidByText := true, laidKinds := [.data, .data, .data, .data, .sentinel, .sentinel, .pinned], laidTests := true, laidLooks := .later }
def TermTextsUptoCardSaid : Prop := Claim7.holds Tryd.pinned (.plain (OpenSpec.upto termTextsSpec)) termTextsUptoCard
end Rows
end Go.Proofs.YtnhaoalcpbefoaaDoor
