/- Facts of the program's types that every law's row wants. -/
import Derived.Test.YtljkojpooajlhaaRows
import Derived.Test.YtljkojpooajlhaaOpen
namespace Go.Proofs.Ytljkojpooajlhaa
open Go Go.RowKit Go.ChangeShapes Go.WideShapes Go.ChangeAt
theorem Try.own : ownKnob Try.prog.godebug = none := by kernel_rfl
theorem Try.laidOut : laidOutB Try.prog = true := by kernel_rfl
theorem gInt : Gives Try.prog 3 intE := gives_int Try.underlying3
theorem gStr : Gives Try.prog 9 strE := gives_str Try.underlying9
theorem gTerm : Gives Try.prog 35 (slE intE) := gives_slice Try.underlying35 (by kernel_rfl) gInt
theorem gSym : Gives Try.prog 46 symE := gives_pair Try.underlying46 rfl rfl (by kernel_rfl) (by kernel_rfl) (by kernel_rfl) gStr gInt
theorem gSign : Gives Try.prog 23 (slE symE) := gives_slice Try.underlying23 (by kernel_rfl) gSym
theorem gTerms : Gives Try.prog 27 (slE (slE intE)) := gives_slice Try.underlying27 (by kernel_rfl) gTerm
theorem gInts : Gives Try.prog 34 (slE intE) := gives_slice Try.underlying34 (by kernel_rfl) gInt
end Go.Proofs.Ytljkojpooajlhaa
