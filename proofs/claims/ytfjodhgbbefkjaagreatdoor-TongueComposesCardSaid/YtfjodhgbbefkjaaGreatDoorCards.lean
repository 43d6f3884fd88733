/-
  DERIVED. GIVEN WITH THE SEED: THE CARDS: each row of YtfjodhgbbefkjaaGreatDoorRows.lean that lists a variable, with what it lists TIED to the program's text (the seventh form; the later family's looks); each row that meets fmt, with fmt's text TOLD by the authors' own Lean function (tested against real Go, not proved from fmt's source: count such statements apart). THE CARD IS WHAT COUNTS. Prove the row's statement (the work); the ties are given (YtfjodhgbbefkjaaGreatDoorTie.lean); close each card by the builder's one call (the guide's Derived/Test/ToyasCard.lean, 'card_holds'). Laid BY PROGRAM, IN A SANDBOX (cutbox-door.mjs). By AI agents, Wed Nov 11 2026. No macro, syntax, notation, axiom, sorry.
-/
import Derived.Test.YtfjodhgbbefkjaaGreatDoorRows
import GoSem.ClaimSeven
namespace Go.Proofs.YtfjodhgbbefkjaaGreatDoor
namespace Rows

/-- THE TIED CARD OF 'lemmarylaw03.TongueFirst'. -/
def tongueFirstCard : Claim7 := { stood := { row := tongueFirstRow, standIns := [], harness := (true, "e70530f0158976009768158b125fcfcc71e67520f75ddb57c81bf27c6f2e299c"), looks := true }, kinds := [], alts := [], laidByText := true, laidKinds := [.data, .data, .data, .sentinel, .sentinel], laidTests := true, laidLooks := .later }
def TongueFirstCardSaid : Prop := Claim7.holds Tryz.pinned (.plain (OpenSpec.ofChange tongueFirstSpec)) tongueFirstCard

/-- THE TIED CARD OF 'lemmarylaw03.TongueValid'. -/
def tongueValidCard : Claim7 := { stood := { row := tongueValidRow, standIns := [], harness := (true, "e70530f0158976009768158b125fcfcc71e67520f75ddb57c81bf27c6f2e299c"), looks := true }, kinds := [], alts := [], laidByText := true, laidKinds := [.data, .data, .data, .sentinel, .sentinel], laidTests := true, laidLooks := .later }
def TongueValidCardSaid : Prop := Claim7.holds Tryz.pinned (.plain (OpenSpec.ofChange tongueValidSpec)) tongueValidCard

/-- THE TIED CARD OF 'lemmarylaw03.TongueCarries'. -/
def tongueCarriesCard : Claim7 := { stood := { row := tongueCarriesRow, standIns := [], harness := (true, "e70530f0158976009768158b125fcfcc71e67520f75ddb57c81bf27c6f2e299c"), looks := true }, kinds := [], alts := [], laidByText := true, laidKinds := [.data, .data, .data, .sentinel, .sentinel], laidTests := true, laidLooks := .later }
def TongueCarriesCardSaid : Prop := Claim7.holds Tryz.pinned (.plain (OpenSpec.ofChange tongueCarriesSpec)) tongueCarriesCard

/-- THE TIED CARD OF 'lemmarylaw03.TongueComposes'. -/
def tongueComposesCard : Claim7 := { stood := { row := tongueComposesRow, standIns := [], harness := (true, "e70530f0158976009768158b125fcfcc71e67520f75ddb57c81bf27c6f2e299c"), looks := true }, kinds := [], alts := [], laidByText := true, laidKinds := [.data, .data, .data, .sentinel, .sentinel], laidTests := true, laidLooks := .later }
def TongueComposesCardSaid : Prop := Claim7.holds Tryz.pinned (.plain (OpenSpec.ofChange tongueComposesSpec)) tongueComposesCard

/-- THE TIED CARD OF 'lemmarylaw03.TongueBack'. -/
def tongueBackCard : Claim7 := { stood := { row := tongueBackRow, standIns := [], harness := (true, "e70530f0158976009768158b125fcfcc71e67520f75ddb57c81bf27c6f2e299c"), looks := true }, kinds := [], alts := [], laidByText := true, laidKinds := [.data, .data, .data, .sentinel, .sentinel], laidTests := true, laidLooks := .later }
def TongueBackCardSaid : Prop := Claim7.holds Tryz.pinned (.plain (OpenSpec.ofChange tongueBackSpec)) tongueBackCard

/-- THE TIED CARD OF 'lemmarylaw03.TongueTurns'. -/
def tongueTurnsCard : Claim7 := { stood := { row := tongueTurnsRow, standIns := [], harness := (true, "e70530f0158976009768158b125fcfcc71e67520f75ddb57c81bf27c6f2e299c"), looks := true }, kinds := [], alts := [], laidByText := true, laidKinds := [.data, .data, .data, .sentinel, .sentinel], laidTests := true, laidLooks := .later }
def TongueTurnsCardSaid : Prop := Claim7.holds Tryz.pinned (.plain (OpenSpec.ofChange tongueTurnsSpec)) tongueTurnsCard

/-- THE TIED CARD OF 'lemmarylaw03.TongueFetches'. -/
def tongueFetchesCard : Claim7 := { stood := { row := tongueFetchesRow, standIns := [], harness := (true, "e70530f0158976009768158b125fcfcc71e67520f75ddb57c81bf27c6f2e299c"), looks := true }, kinds := [], alts := [], laidByText := true, laidKinds := [.data, .data, .data, .sentinel, .sentinel], laidTests := true, laidLooks := .later }
def TongueFetchesCardSaid : Prop := Claim7.holds Tryz.pinned (.plain (OpenSpec.ofChange tongueFetchesSpec)) tongueFetchesCard

/-- THE TIED CARD OF 'lemmarylaw03.TongueFetchesFirst'. -/
def tongueFetchesFirstCard : Claim7 := { stood := { row := tongueFetchesFirstRow, standIns := [], harness := (true, "e70530f0158976009768158b125fcfcc71e67520f75ddb57c81bf27c6f2e299c"), looks := true }, kinds := [], alts := [], laidByText := true, laidKinds := [.data, .data, .data, .sentinel, .sentinel], laidTests := true, laidLooks := .later }
def TongueFetchesFirstCardSaid : Prop := Claim7.holds Tryz.pinned (.plain (OpenSpec.ofChange tongueFetchesFirstSpec)) tongueFetchesFirstCard

/-- THE TIED CARD OF 'lemmarylaw03.TongueTexts'. -/
def tongueTextsCard : Claim7 := { stood := { row := tongueTextsRow, standIns := [], harness := (true, "e70530f0158976009768158b125fcfcc71e67520f75ddb57c81bf27c6f2e299c"), looks := true }, kinds := [], alts := [], laidByText := true, laidKinds := [.data, .data, .data, .data, .sentinel, .sentinel, .pinned], laidTests := true, laidLooks := .later }
def TongueTextsCardSaid : Prop := Claim7.holds Tryz.pinned (.plain (OpenSpec.ofChange tongueTextsSpec)) tongueTextsCard

/-- THE SECOND FORM's CARD OF 'lemmarylaw03.TongueFirst'. -/
def tongueFirstUptoCard : Claim7 := { stood := { row := tongueFirstUptoRow, standIns := [], harness := (true, "e70530f0158976009768158b125fcfcc71e67520f75ddb57c81bf27c6f2e299c"), looks := true }, kinds := [], alts := [], laidByText := true, laidKinds := [.data, .data, .data, .sentinel, .sentinel], laidTests := true, laidLooks := .later }
def TongueFirstUptoCardSaid : Prop := Claim7.holds Tryz.pinned (.plain (OpenSpec.upto tongueFirstSpec)) tongueFirstUptoCard

/-- THE SECOND FORM's CARD OF 'lemmarylaw03.TongueValid'. -/
def tongueValidUptoCard : Claim7 := { stood := { row := tongueValidUptoRow, standIns := [], harness := (true, "e70530f0158976009768158b125fcfcc71e67520f75ddb57c81bf27c6f2e299c"), looks := true }, kinds := [], alts := [], laidByText := true, laidKinds := [.data, .data, .data, .sentinel, .sentinel], laidTests := true, laidLooks := .later }
def TongueValidUptoCardSaid : Prop := Claim7.holds Tryz.pinned (.plain (OpenSpec.upto tongueValidSpec)) tongueValidUptoCard

/-- THE SECOND FORM's CARD OF 'lemmarylaw03.TongueCarries'. -/
def tongueCarriesUptoCard : Claim7 := { stood := { row := tongueCarriesUptoRow, standIns := [], harness := (true, "e70530f0158976009768158b125fcfcc71e67520f75ddb57c81bf27c6f2e299c"), looks := true }, kinds := [], alts := [], laidByText := true, laidKinds := [.data, .data, .data, .sentinel, .sentinel], laidTests := true, laidLooks := .later }
def TongueCarriesUptoCardSaid : Prop := Claim7.holds Tryz.pinned (.plain (OpenSpec.upto tongueCarriesSpec)) tongueCarriesUptoCard

/-- THE SECOND FORM's CARD OF 'lemmarylaw03.TongueComposes'. -/
def tongueComposesUptoCard : Claim7 := { stood := { row := tongueComposesUptoRow, standIns := [], harness := (true, "e70530f0158976009768158b125fcfcc71e67520f75ddb57c81bf27c6f2e299c"), looks := true }, kinds := [], alts := [], laidByText := true, laidKinds := [.data, .data, .data, .sentinel, .sentinel], laidTests := true, laidLooks := .later }
def TongueComposesUptoCardSaid : Prop := Claim7.holds Tryz.pinned (.plain (OpenSpec.upto tongueComposesSpec)) tongueComposesUptoCard

/-- THE SECOND FORM's CARD OF 'lemmarylaw03.TongueBack'. -/
def tongueBackUptoCard : Claim7 := { stood := { row := tongueBackUptoRow, standIns := [], harness := (true, "e70530f0158976009768158b125fcfcc71e67520f75ddb57c81bf27c6f2e299c"), looks := true }, kinds := [], alts := [], laidByText := true, laidKinds := [.data, .data, .data, .sentinel, .sentinel], laidTests := true, laidLooks := .later }
def TongueBackUptoCardSaid : Prop := Claim7.holds Tryz.pinned (.plain (OpenSpec.upto tongueBackSpec)) tongueBackUptoCard

/-- THE SECOND FORM's CARD OF 'lemmarylaw03.TongueTurns'. -/
def tongueTurnsUptoCard : Claim7 := { stood := { row := tongueTurnsUptoRow, standIns := [], harness := (true, "e70530f0158976009768158b125fcfcc71e67520f75ddb57c81bf27c6f2e299c"), looks := true }, kinds := [], alts := [], laidByText := true, laidKinds := [.data, .data, .data, .sentinel, .sentinel], laidTests := true, laidLooks := .later }
def TongueTurnsUptoCardSaid : Prop := Claim7.holds Tryz.pinned (.plain (OpenSpec.upto tongueTurnsSpec)) tongueTurnsUptoCard

/-- THE SECOND FORM's CARD OF 'lemmarylaw03.TongueFetches'. -/
def tongueFetchesUptoCard : Claim7 := { stood := { row := tongueFetchesUptoRow, standIns := [], harness := (true, "e70530f0158976009768158b125fcfcc71e67520f75ddb57c81bf27c6f2e299c"), looks := true }, kinds := [], alts := [], laidByText := true, laidKinds := [.data, .data, .data, .sentinel, .sentinel], laidTests := true, laidLooks := .later }
def TongueFetchesUptoCardSaid : Prop := Claim7.holds Tryz.pinned (.plain (OpenSpec.upto tongueFetchesSpec)) tongueFetchesUptoCard

/-- THE SECOND FORM's CARD OF 'lemmarylaw03.TongueFetchesFirst'. -/
def tongueFetchesFirstUptoCard : Claim7 := { stood := { row := tongueFetchesFirstUptoRow, standIns := [], harness := (true, "e70530f0158976009768158b125fcfcc71e67520f75ddb57c81bf27c6f2e299c"), looks := true }, kinds := [], alts := [], laidByText := true, laidKinds := [.data, .data, .data, .sentinel, .sentinel], laidTests := true, laidLooks := .later }
def TongueFetchesFirstUptoCardSaid : Prop := Claim7.holds Tryz.pinned (.plain (OpenSpec.upto tongueFetchesFirstSpec)) tongueFetchesFirstUptoCard

/-- THE SECOND FORM's CARD OF 'lemmarylaw03.TongueTexts'. -/
def tongueTextsUptoCard : Claim7 := { stood := { row := tongueTextsUptoRow, standIns := [], harness := (true, "e70530f0158976009768158b125fcfcc71e67520f75ddb57c81bf27c6f2e299c"), looks := true }, kinds := [], alts := [], laidByText := true, laidKinds := [.data, .data, .data, .data, .sentinel, .sentinel, .pinned], laidTests := true, laidLooks := .later }
def TongueTextsUptoCardSaid : Prop := Claim7.holds Tryz.pinned (.plain (OpenSpec.upto tongueTextsSpec)) tongueTextsUptoCard
end Rows
end Go.Proofs.YtfjodhgbbefkjaaGreatDoor
