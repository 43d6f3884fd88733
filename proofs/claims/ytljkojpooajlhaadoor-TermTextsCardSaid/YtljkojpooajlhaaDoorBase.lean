/- Facts of the program's types that every law's row wants. -/
import Derived.Test.YtljkojpooajlhaaDoorRows
import Derived.Test.YtljkojpooajlhaaDoorOpen
namespace Go.Proofs.YtljkojpooajlhaaDoor
open Go Go.RowKit Go.ChangeShapes Go.WideShapes Go.ChangeAt
theorem Tryd.own : ownKnob Tryd.prog.godebug = none := by kernel_rfl
theorem Tryd.laidOut : laidOutB Tryd.prog = true := by kernel_rfl
theorem gInt : Gives Tryd.prog 3 intE := gives_int Tryd.underlying3
theorem gStr : Gives Tryd.prog 9 strE := gives_str Tryd.underlying9
theorem gTerm : Gives Tryd.prog 34 (slE intE) := gives_slice Tryd.underlying34 (by kernel_rfl) gInt
theorem gSym : Gives Tryd.prog 36 symE := gives_pair Tryd.underlying36 rfl rfl (by kernel_rfl) (by kernel_rfl) (by kernel_rfl) gStr gInt
theorem gSign : Gives Tryd.prog 23 (slE symE) := gives_slice Tryd.underlying23 (by kernel_rfl) gSym
theorem gTerms : Gives Tryd.prog 32 (slE (slE intE)) := gives_slice Tryd.underlying32 (by kernel_rfl) gTerm
theorem gInts : Gives Tryd.prog 33 (slE intE) := gives_slice Tryd.underlying33 (by kernel_rfl) gInt
end Go.Proofs.YtljkojpooajlhaaDoor
