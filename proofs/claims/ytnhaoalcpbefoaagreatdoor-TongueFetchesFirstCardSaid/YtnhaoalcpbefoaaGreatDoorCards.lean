/-
  DERIVED. GIVEN WITH THE SEED: THE CARDS: each row of YtnhaoalcpbefoaaGreatDoorRows.lean that lists a variable, with what it lists TIED to the program's text (the seventh form; the later family's looks); each row that meets fmt, with fmt's text TOLD by the authors' own Lean function (tested against real Go, not proved from fmt's source: count such statements apart). THE CARD IS WHAT COUNTS. Prove the row's statement (the work); the ties are given (YtnhaoalcpbefoaaGreatDoorTie.lean); close each card by the builder's one call (the guide's Derived/Test/ToyasCard.lean, 'card_holds'). Laid BY PROGRAM, IN A SANDBOX (cutbox-door.mjs). By AI agents, Wed Nov 11 2026. No macro, syntax, notation, axiom, sorry.
-/
import Derived.Test.YtnhaoalcpbefoaaGreatDoorRows
import GoSem.ClaimSeven
namespace Go.Proofs.YtnhaoalcpbefoaaGreatDoor
namespace Rows

/-- THE TIED CARD OF 'lemmarylaw03.TongueCarries'. -/
def tongueCarriesCard : Claim7 := { stood := { row := tongueCarriesRow, standIns := [], harness := (true, "67a3ec231f6f376e8aa4c704921ed01b7f057470c371dd1c6a21078408826a53"), looks := true }, kinds := [], alts := [], laidByText := true, laidKinds := [.data, .data, .data, .sentinel, .sentinel], laidTests := true, laidLooks := .later }
def TongueCarriesCardSaid : Prop := Claim7.holds Tryz.pinned (.plain (OpenSpec.ofChange tongueCarriesSpec)) tongueCarriesCard

/-- THE TIED CARD OF 'lemmarylaw03.TongueTurns'. -/
def tongueTurnsCard : Claim7 := { stood := { row := tongueTurnsRow, standIns := [], harness := (true, "67a3ec231f6f376e8aa4c704921ed01b7f057470c371dd1c6a21078408826a53"), looks := true }, kinds := [], alts := [], laidByText := true, laidKinds := [.data, .data, .data, .sentinel, .sentinel], laidTests := true, laidLooks := .later }
def TongueTurnsCardSaid : Prop := Claim7.holds Tryz.pinned (.plain (OpenSpec.ofChange tongueTurnsSpec)) tongueTurnsCard

/-- THE TIED CARD OF 'lemmarylaw03.TongueFetches'. -/
def tongueFetchesCard : Claim7 := { stood := { row := tongueFetchesRow, standIns := [], harness := (true, "67a3ec231f6f376e8aa4c704921ed01b7f057470c371dd1c6a21078408826a53"), looks := true }, kinds := [], alts := [], laidByText := true, laidKinds := [.data, .data, .data, .sentinel, .sentinel], laidTests := true, laidLooks := .later }
def TongueFetchesCardSaid : Prop := Claim7.holds Tryz.pinned (.plain (OpenSpec.ofChange tongueFetchesSpec)) tongueFetchesCard

/-- THE TIED CARD OF 'lemmarylaw03.TongueFetchesFirst'. -/
def tongueFetchesFirstCard : Claim7 := { stood := { row := tongueFetchesFirstRow, standIns := [], harness := (true, "67a3ec231f6f376e8aa4c704921ed01b7f057470c371dd1c6a21078408826a53"), looks := true }, kinds := [], alts := [], laidByText := true, laidKinds := [.data, .data, .data, .sentinel, .sentinel], laidTests := true, laidLooks := .later }
def TongueFetchesFirstCardSaid : Prop := Claim7.holds Tryz.pinned (.plain (OpenSpec.ofChange tongueFetchesFirstSpec)) tongueFetchesFirstCard

/-- THE TIED CARD OF 'lemmarylaw03.TongueTexts'. -/
def tongueTextsCard : Claim7 := { stood := { row := tongueTextsRow, standIns := [], harness := (true, "67a3ec231f6f376e8aa4c704921ed01b7f057470c371dd1c6a21078408826a53"), looks := true }, kinds := [], alts := [], laidByText := true, laidKinds := [.data, .data, .data, .data, .sentinel, .sentinel, .pinned], laidTests := true, laidLooks := .later }
def TongueTextsCardSaid : Prop := Claim7.holds Tryz.pinned (.plain (OpenSpec.ofChange tongueTextsSpec)) tongueTextsCard

/-- THE SECOND FORM's CARD OF 'lemmarylaw03.TongueCarries'. -/
def tongueCarriesUptoCard : Claim7 := { stood := { row := tongueCarriesUptoRow, standIns := [], harness := (true, "67a3ec231f6f376e8aa4c704921ed01b7f057470c371dd1c6a21078408826a53"), looks := true }, kinds := [], alts := [], laidByText := true, laidKinds := [.data, .data, .data, .sentinel, .sentinel], laidTests := true, laidLooks := .later }
def TongueCarriesUptoCardSaid : Prop := Claim7.holds Tryz.pinned (.plain (OpenSpec.upto tongueCarriesSpec)) tongueCarriesUptoCard

/-- THE SECOND FORM's CARD OF 'lemmarylaw03.TongueTurns'. -/
def tongueTurnsUptoCard : Claim7 := { stood := { row := tongueTurnsUptoRow, standIns := [], harness := (true, "67a3ec231f6f376e8aa4c704921ed01b7f057470c371dd1c6a21078408826a53"), looks := true }, kinds := [], alts := [], laidByText := true, laidKinds := [.data, .data, .data, .sentinel, .sentinel], laidTests := true, laidLooks := .later }
def TongueTurnsUptoCardSaid : Prop := Claim7.holds Tryz.pinned (.plain (OpenSpec.upto tongueTurnsSpec)) tongueTurnsUptoCard

/-- THE SECOND FORM's CARD OF 'lemmarylaw03.TongueFetches'. -/
def tongueFetchesUptoCard : Claim7 := { stood := { row := tongueFetchesUptoRow, standIns := [], harness := (true, "67a3ec231f6f376e8aa4c704921ed01b7f057470c371dd1c6a21078408826a53"), looks := true }, kinds := [], alts := [], laidByText := true, laidKinds := [.data, .data, .data, .sentinel, .sentinel], laidTests := true, laidLooks := .later }
def TongueFetchesUptoCardSaid : Prop := Claim7.holds Tryz.pinned (.plain (OpenSpec.upto tongueFetchesSpec)) tongueFetchesUptoCard

/-- THE SECOND FORM's CARD OF 'lemmarylaw03.TongueFetchesFirst'. -/
def tongueFetchesFirstUptoCard : Claim7 := { stood := { row := tongueFetchesFirstUptoRow, standIns := [], harness := (true, "67a3ec231f6f376e8aa4c704921ed01b7f057470c371dd1c6a21078408826a53"), looks := true }, kinds := [], alts := [], laidByText := true, laidKinds := [.data, .data, .data, .sentinel, .sentinel], laidTests := true, laidLooks := .later }
def TongueFetchesFirstUptoCardSaid : Prop := Claim7.holds Tryz.pinned (.plain (OpenSpec.upto tongueFetchesFirstSpec)) tongueFetchesFirstUptoCard

/-- THE SECOND FORM's CARD OF 'lemmarylaw03.TongueTexts'. -/
def tongueTextsUptoCard : Claim7 := { stood := { row := tongueTextsUptoRow, standIns := [], harness := (true, "67a3ec231f6f376e8aa4c704921ed01b7f057470c371dd1c6a21078408826a53"), looks := true }, kinds := [], alts := [], laidByText := true, laidKinds := [.data, .data, .data, .data, .sentinel, .sentinel, .pinned], laidTests := true, laidLooks := .later }
def TongueTextsUptoCardSaid : Prop := Claim7.holds Tryz.pinned (.plain (OpenSpec.upto tongueTextsSpec)) tongueTextsUptoCard
end Rows
end Go.Proofs.YtnhaoalcpbefoaaGreatDoor
