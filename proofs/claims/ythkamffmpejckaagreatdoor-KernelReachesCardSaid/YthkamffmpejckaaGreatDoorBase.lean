/- Facts of the program's types that every law's row wants. -/
import Derived.Test.YthkamffmpejckaaGreatDoorRows
import Derived.Test.YthkamffmpejckaaGreatDoorOpen
namespace Go.Proofs.YthkamffmpejckaaGreatDoor
open Go Go.RowKit Go.ChangeShapes Go.WideShapes Go.ChangeAt
theorem Tryz.own : ownKnob Tryz.prog.godebug = none := by kernel_rfl
theorem Tryz.laidOut : laidOutB Tryz.prog = true := by kernel_rfl
theorem gInt : Gives Tryz.prog 3 intE := gives_int Tryz.underlying3
theorem gStr : Gives Tryz.prog 9 strE := gives_str Tryz.underlying9
theorem gTerm : Gives Tryz.prog 34 (slE intE) := gives_slice Tryz.underlying34 (by kernel_rfl) gInt
theorem gSym : Gives Tryz.prog 53 symE := gives_pair Tryz.underlying53 rfl rfl (by kernel_rfl) (by kernel_rfl) (by kernel_rfl) gStr gInt
theorem gSign : Gives Tryz.prog 23 (slE symE) := gives_slice Tryz.underlying23 (by kernel_rfl) gSym
theorem gTerms : Gives Tryz.prog 24 (slE (slE intE)) := gives_slice Tryz.underlying24 (by kernel_rfl) gTerm
theorem gInts : Gives Tryz.prog 33 (slE intE) := gives_slice Tryz.underlying33 (by kernel_rfl) gInt
end Go.Proofs.YthkamffmpejckaaGreatDoor
