/-
  DERIVED. GIVEN WITH THE SEED: THE CARDS: each row of YtgkddhakhapjlaaDoorRows.lean that lists a variable, with what it lists TIED to the program's text (the seventh form; the later family's looks); each row that meets fmt, with fmt's text TOLD by the authors' own Lean function (tested against real Go, not proved from fmt's source: count such statements apart). THE CARD IS WHAT COUNTS. Prove the row's statement (the work); the ties are given (YtgkddhakhapjlaaDoorTie.lean); close each card by the builder's one call (the guide's Derived/Test/ToyasCard.lean, 'card_holds'). Laid BY PROGRAM, IN A SANDBOX (cutbox-door.mjs). By AI agents, Wed Nov 11 2026. No macro, syntax, notation, axiom, sorry.
-/
import Derived.Test.YtgkddhakhapjlaaDoorRows
import GoSem.ClaimSeven
namespace Go.Proofs.YtgkddhakhapjlaaDoor
namespace Rows

/-- THE TIED CARD OF 'lemmarylaw04.KernelJoins'. -/
def kernelJoinsCard : Claim7 := { stood := { row := kernelJoinsRow, standIns := [], harness := (true, "5b8440ac7ae1fa5965000318e24cdec71759e9a81b57789db5ab2838a46ba285"), looks := true }, kinds := [], alts := [], laidByText := true, laidKinds := [.data, .data, .data, .sentinel, .sentinel], laidTests := true, laidLooks := .later }
def KernelJoinsCardSaid : Prop := Claim7.holds Tryd.pinned (.plain (OpenSpec.ofChange kernelJoinsSpec)) kernelJoinsCard

/-- THE TIED CARD OF 'lemmarylaw04.KernelMoves'. -/
def kernelMovesCard : Claim7 := { stood := { row := kernelMovesRow, standIns := [], harness := (true, "5b8440ac7ae1fa5965000318e24cdec71759e9a81b57789db5ab2838a46ba285"), looks := true }, kinds := [], alts := [], laidByText := true, laidKinds := [.data, .data, .data, .sentinel, .sentinel], laidTests := true, laidLooks := .later }
def KernelMovesCardSaid : Prop := Claim7.holds Tryd.pinned (.plain (OpenSpec.ofChange kernelMovesSpec)) kernelMovesCard

/-- THE TIED CARD OF 'lemmarylaw04.KernelMonotone'. -/
def kernelMonotoneCard : Claim7 := { stood := { row := kernelMonotoneRow, standIns := [], harness := (true, "5b8440ac7ae1fa5965000318e24cdec71759e9a81b57789db5ab2838a46ba285"), looks := true }, kinds := [], alts := [], laidByText := true, laidKinds := [.data, .data, .data, .sentinel, .sentinel], laidTests := true, laidLooks := .later }
def KernelMonotoneCardSaid : Prop := Claim7.holds Tryd.pinned (.plain (OpenSpec.ofChange kernelMonotoneSpec)) kernelMonotoneCard

/-- THE TIED CARD OF 'lemmarylaw04.KernelUntrees'. -/
def kernelUntreesCard : Claim7 := { stood := { row := kernelUntreesRow, standIns := [], harness := (true, "5b8440ac7ae1fa5965000318e24cdec71759e9a81b57789db5ab2838a46ba285"), looks := true }, kinds := [], alts := [], laidByText := true, laidKinds := [.data, .data, .data, .sentinel, .sentinel], laidTests := true, laidLooks := .later }
def KernelUntreesCardSaid : Prop := Claim7.holds Tryd.pinned (.plain (OpenSpec.ofChange kernelUntreesSpec)) kernelUntreesCard

/-- THE TIED CARD OF 'lemmarylaw04.KernelShares'. -/
def kernelSharesCard : Claim7 := { stood := { row := kernelSharesRow, standIns := [], harness := (true, "5b8440ac7ae1fa5965000318e24cdec71759e9a81b57789db5ab2838a46ba285"), looks := true }, kinds := [], alts := [], laidByText := true, laidKinds := [.data, .data, .data, .sentinel, .sentinel], laidTests := true, laidLooks := .later }
def KernelSharesCardSaid : Prop := Claim7.holds Tryd.pinned (.plain (OpenSpec.ofChange kernelSharesSpec)) kernelSharesCard

/-- THE TIED CARD OF 'lemmarylaw04.KernelGeneral'. -/
def kernelGeneralCard : Claim7 := { stood := { row := kernelGeneralRow, standIns := [], harness := (true, "5b8440ac7ae1fa5965000318e24cdec71759e9a81b57789db5ab2838a46ba285"), looks := true }, kinds := [], alts := [], laidByText := true, laidKinds := [.data, .data, .data, .sentinel, .sentinel], laidTests := true, laidLooks := .later }
def KernelGeneralCardSaid : Prop := Claim7.holds Tryd.pinned (.plain (OpenSpec.ofChange kernelGeneralSpec)) kernelGeneralCard

/-- THE SECOND FORM's CARD OF 'lemmarylaw04.KernelJoins'. -/
def kernelJoinsUptoCard : Claim7 := { stood := { row := kernelJoinsUptoRow, standIns := [], harness := (true, "5b8440ac7ae1fa5965000318e24cdec71759e9a81b57789db5ab2838a46ba285"), looks := true }, kinds := [], alts := [], laidByText := true, laidKinds := [.data, .data, .data, .sentinel, .sentinel], laidTests := true, laidLooks := .later }
def KernelJoinsUptoCardSaid : Prop := Claim7.holds Tryd.pinned (.plain (OpenSpec.upto kernelJoinsSpec)) kernelJoinsUptoCard

/-- THE SECOND FORM's CARD OF 'lemmarylaw04.KernelMoves'. -/
def kernelMovesUptoCard : Claim7 := { stood := { row := kernelMovesUptoRow, standIns := [], harness := (true, "5b8440ac7ae1fa5965000318e24cdec71759e9a81b57789db5ab2838a46ba285"), looks := true }, kinds := [], alts := [], laidByText := true, laidKinds := [.data, .data, .data, .sentinel, .sentinel], laidTests := true, laidLooks := .later }
def KernelMovesUptoCardSaid : Prop := Claim7.holds Tryd.pinned (.plain (OpenSpec.upto kernelMovesSpec)) kernelMovesUptoCard

/-- THE SECOND FORM's CARD OF 'lemmarylaw04.KernelMonotone'. -/
def kernelMonotoneUptoCard : Claim7 := { stood := { row := kernelMonotoneUptoRow, standIns := [], harness := (true, "5b8440ac7ae1fa5965000318e24cdec71759e9a81b57789db5ab2838a46ba285"), looks := true }, kinds := [], alts := [], laidByText := true, laidKinds := [.data, .data, .data, .sentinel, .sentinel], laidTests := true, laidLooks := .later }
def KernelMonotoneUptoCardSaid : Prop := Claim7.holds Tryd.pinned (.plain (OpenSpec.upto kernelMonotoneSpec)) kernelMonotoneUptoCard

/-- THE SECOND FORM's CARD OF 'lemmarylaw04.KernelUntrees'. -/
def kernelUntreesUptoCard : Claim7 := { stood := { row := kernelUntreesUptoRow, standIns := [], harness := (true, "5b8440ac7ae1fa5965000318e24cdec71759e9a81b57789db5ab2838a46ba285"), looks := true }, kinds := [], alts := [], laidByText := true, laidKinds := [.data, .data, .data, .sentinel, .sentinel], laidTests := true, laidLooks := .later }
def KernelUntreesUptoCardSaid : Prop := Claim7.holds Tryd.pinned (.plain (OpenSpec.upto kernelUntreesSpec)) kernelUntreesUptoCard

/-- THE SECOND FORM's CARD OF 'lemmarylaw04.KernelShares'. -/
def kernelSharesUptoCard : Claim7 := { stood := { row := kernelSharesUptoRow, standIns := [], harness := (true, "5b8440ac7ae1fa5965000318e24cdec71759e9a81b57789db5ab2838a46ba285"), looks := true }, kinds := [], alts := [], laidByText := true, laidKinds := [.data, .data, .data, .sentinel, .sentinel], laidTests := true, laidLooks := .later }
def KernelSharesUptoCardSaid : Prop := Claim7.holds Tryd.pinned (.plain (OpenSpec.upto kernelSharesSpec)) kernelSharesUptoCard

/-- THE SECOND FORM's CARD OF 'lemmarylaw04.KernelGeneral'. -/
def kernelGeneralUptoCard : Claim7 := { stood := { row := kernelGeneralUptoRow, standIns := [], harness := (true, "5b8440ac7ae1fa5965000318e24cdec71759e9a81b57789db5ab2838a46ba285"), looks := true }, kinds := [], alts := [], laidByText := true, laidKinds := [.data, .data, .data, .sentinel, .sentinel], laidTests := true, laidLooks := .later }
def KernelGeneralUptoCardSaid : Prop := Claim7.holds Tryd.pinned (.plain (OpenSpec.upto kernelGeneralSpec)) kernelGeneralUptoCard
end Rows
end Go.Proofs.YtgkddhakhapjlaaDoor
