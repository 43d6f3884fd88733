/- Facts of the program's types that every law's row wants. -/
import Derived.Test.YtljkojpooajlhaaGreatDoorRows
import Derived.Test.YtljkojpooajlhaaGreatDoorOpen
namespace Go.Proofs.YtljkojpooajlhaaGreatDoor
open Go Go.RowKit Go.ChangeShapes Go.WideShapes Go.ChangeAt
theorem Tryz.own : ownKnob Tryz.prog.godebug = none := by kernel_rfl
theorem Tryz.laidOut : laidOutB Tryz.prog = true := by kernel_rfl
theorem gInt : Gives Tryz.prog 3 intE := gives_int Tryz.underlying3
theorem gStr : Gives Tryz.prog 9 strE := gives_str Tryz.underlying9
theorem gTerm : Gives Tryz.prog 40 (slE intE) := gives_slice Tryz.underlying40 (by kernel_rfl) gInt
theorem gSym : Gives Tryz.prog 37 symE := gives_pair Tryz.underlying37 rfl rfl (by kernel_rfl) (by kernel_rfl) (by kernel_rfl) gStr gInt
theorem gSign : Gives Tryz.prog 39 (slE symE) := gives_slice Tryz.underlying39 (by kernel_rfl) gSym
theorem gInts : Gives Tryz.prog 31 (slE intE) := gives_slice Tryz.underlying31 (by kernel_rfl) gInt
end Go.Proofs.YtljkojpooajlhaaGreatDoor
