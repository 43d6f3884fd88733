/-
  DERIVED. GIVEN WITH THE SEED: THE CARDS: each row of YthkamffmpejckaaGreatDoorRows.lean that lists a variable, with what it lists TIED to the program's text (the seventh form; the later family's looks); each row that meets fmt, with fmt's text TOLD by the authors' own Lean function (tested against real Go, not proved from fmt's source: count such statements apart). THE CARD IS WHAT COUNTS. Prove the row's statement (the work); the ties are given (YthkamffmpejckaaGreatDoorTie.lean); close each card by the builder's one call (the guide's Derived/Test/ToyasCard.lean, 'card_holds'). Laid BY PROGRAM, IN A SANDBOX (cutbox-door.mjs). By AI agents, Wed Nov 11 2026. No macro, syntax, notation, axiom, sorry.
-/
import Derived.Test.YthkamffmpejckaaGreatDoorRows
import GoSem.ClaimSeven
namespace Go.Proofs.YthkamffmpejckaaGreatDoor
namespace Rows

/-- THE TIED CARD OF 'lemmarylaw04.KernelRuns'. -/
def kernelRunsCard : Claim7 := { stood := { row := kernelRunsRow, standIns := [], harness := (true, "2a7e4f436b53304f03f4f3d8e552eb70fdf7a973d90c0b1c9b00c5ed8274d827"), looks := true }, kinds := [], alts := [], laidByText := true, laidKinds := [.data, .data, .data, .sentinel, .sentinel], laidTests := true, laidLooks := .later }
def KernelRunsCardSaid : Prop := Claim7.holds Tryz.pinned (.plain (OpenSpec.ofChange kernelRunsSpec)) kernelRunsCard

/-- THE TIED CARD OF 'lemmarylaw04.KernelDetaches'. -/
def kernelDetachesCard : Claim7 := { stood := { row := kernelDetachesRow, standIns := [], harness := (true, "2a7e4f436b53304f03f4f3d8e552eb70fdf7a973d90c0b1c9b00c5ed8274d827"), looks := true }, kinds := [], alts := [], laidByText := true, laidKinds := [.data, .data, .data, .sentinel, .sentinel], laidTests := true, laidLooks := .later }
def KernelDetachesCardSaid : Prop := Claim7.holds Tryz.pinned (.plain (OpenSpec.ofChange kernelDetachesSpec)) kernelDetachesCard

/-- THE TIED CARD OF 'lemmarylaw04.KernelChecks'. -/
def kernelChecksCard : Claim7 := { stood := { row := kernelChecksRow, standIns := [], harness := (true, "2a7e4f436b53304f03f4f3d8e552eb70fdf7a973d90c0b1c9b00c5ed8274d827"), looks := true }, kinds := [], alts := [], laidByText := true, laidKinds := [.data, .data, .data, .sentinel, .sentinel], laidTests := true, laidLooks := .later }
def KernelChecksCardSaid : Prop := Claim7.holds Tryz.pinned (.plain (OpenSpec.ofChange kernelChecksSpec)) kernelChecksCard

/-- THE TIED CARD OF 'lemmarylaw04.KernelReaches'. -/
def kernelReachesCard : Claim7 := { stood := { row := kernelReachesRow, standIns := [], harness := (true, "2a7e4f436b53304f03f4f3d8e552eb70fdf7a973d90c0b1c9b00c5ed8274d827"), looks := true }, kinds := [], alts := [], laidByText := true, laidKinds := [.data, .data, .data, .sentinel, .sentinel], laidTests := true, laidLooks := .later }
def KernelReachesCardSaid : Prop := Claim7.holds Tryz.pinned (.plain (OpenSpec.ofChange kernelReachesSpec)) kernelReachesCard

/-- THE SECOND FORM's CARD OF 'lemmarylaw04.KernelRuns'. -/
def kernelRunsUptoCard : Claim7 := { stood := { row := kernelRunsUptoRow, standIns := [], harness := (true, "2a7e4f436b53304f03f4f3d8e552eb70fdf7a973d90c0b1c9b00c5ed8274d827"), looks := true }, kinds := [], alts := [], laidByText := true, laidKinds := [.data, .data, .data, .sentinel, .sentinel], laidTests := true, laidLooks := .later }
def KernelRunsUptoCardSaid : Prop := Claim7.holds Tryz.pinned (.plain (OpenSpec.upto kernelRunsSpec)) kernelRunsUptoCard

/-- THE SECOND FORM's CARD OF 'lemmarylaw04.KernelDetaches'. -/
def kernelDetachesUptoCard : Claim7 := { stood := { row := kernelDetachesUptoRow, standIns := [], harness := (true, "2a7e4f436b53304f03f4f3d8e552eb70fdf7a973d90c0b1c9b00c5ed8274d827"), looks := true }, kinds := [], alts := [], laidByText := true, laidKinds := [.data, .data, .data, .sentinel, .sentinel], laidTests := true, laidLooks := .later }
def KernelDetachesUptoCardSaid : Prop := Claim7.holds Tryz.pinned (.plain (OpenSpec.upto kernelDetachesSpec)) kernelDetachesUptoCard

/-- THE SECOND FORM's CARD OF 'lemmarylaw04.KernelChecks'. -/
def kernelChecksUptoCard : Claim7 := { stood := { row := kernelChecksUptoRow, standIns := [], harness := (true, "2a7e4f436b53304f03f4f3d8e552eb70fdf7a973d90c0b1c9b00c5ed8274d827"), looks := true }, kinds := [], alts := [], laidByText := true, laidKinds := [.data, .data, .data, .sentinel, .sentinel], laidTests := true, laidLooks := .later }
def KernelChecksUptoCardSaid : Prop := Claim7.holds Tryz.pinned (.plain (OpenSpec.upto kernelChecksSpec)) kernelChecksUptoCard

/-- THE SECOND FORM's CARD OF 'lemmarylaw04.KernelReaches'. -/
def kernelReachesUptoCard : Claim7 := { stood := { row := kernelReachesUptoRow, standIns := [], harness := (true, "2a7e4f436b53304f03f4f3d8e552eb70fdf7a973d90c0b1c9b00c5ed8274d827"), looks := true }, kinds := [], alts := [], laidByText := true, laidKinds := [.data, .data, .data, .sentinel, .sentinel], laidTests := true, laidLooks := .later }
def KernelReachesUptoCardSaid : Prop := Claim7.holds Tryz.pinned (.plain (OpenSpec.upto kernelReachesSpec)) kernelReachesUptoCard
end Rows
end Go.Proofs.YthkamffmpejckaaGreatDoor
