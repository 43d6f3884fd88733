/- Facts of the program's types that every law's row wants. -/
import Derived.Test.YtfjodhgbbefkjaaGreatDoorRows
import Derived.Test.YtfjodhgbbefkjaaGreatDoorOpen
namespace Go.Proofs.YtfjodhgbbefkjaaGreatDoor
open Go Go.RowKit Go.ChangeShapes Go.WideShapes Go.ChangeAt
theorem Tryz.own : ownKnob Tryz.prog.godebug = none := by kernel_rfl
theorem Tryz.laidOut : laidOutB Tryz.prog = true := by kernel_rfl
theorem gInt : Gives Tryz.prog 3 intE := gives_int Tryz.underlying3
theorem gStr : Gives Tryz.prog 9 strE := gives_str Tryz.underlying9
theorem gTerm : Gives Tryz.prog 41 (slE intE) := gives_slice Tryz.underlying41 (by kernel_rfl) gInt
theorem gSym : Gives Tryz.prog 72 symE := gives_pair Tryz.underlying72 rfl rfl (by kernel_rfl) (by kernel_rfl) (by kernel_rfl) gStr gInt
theorem gSign : Gives Tryz.prog 23 (slE symE) := gives_slice Tryz.underlying23 (by kernel_rfl) gSym
theorem gTerms : Gives Tryz.prog 68 (slE (slE intE)) := gives_slice Tryz.underlying68 (by kernel_rfl) gTerm
theorem gInts : Gives Tryz.prog 36 (slE intE) := gives_slice Tryz.underlying36 (by kernel_rfl) gInt
end Go.Proofs.YtfjodhgbbefkjaaGreatDoor
