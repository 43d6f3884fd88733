/- Facts of the program's types that every law's row wants. -/
import Derived.Test.YtgkddhakhapjlaaRows
import Derived.Test.YtgkddhakhapjlaaOpen
namespace Go.Proofs.Ytgkddhakhapjlaa
open Go Go.RowKit Go.ChangeShapes Go.WideShapes Go.ChangeAt
theorem Try.own : ownKnob Try.prog.godebug = none := by kernel_rfl
theorem Try.laidOut : laidOutB Try.prog = true := by kernel_rfl
theorem gInt : Gives Try.prog 3 intE := gives_int Try.underlying3
theorem gStr : Gives Try.prog 9 strE := gives_str Try.underlying9
theorem gTerm : Gives Try.prog 25 (slE intE) := gives_slice Try.underlying25 (by kernel_rfl) gInt
theorem gSym : Gives Try.prog 39 symE := gives_pair Try.underlying39 rfl rfl (by kernel_rfl) (by kernel_rfl) (by kernel_rfl) gStr gInt
theorem gSign : Gives Try.prog 23 (slE symE) := gives_slice Try.underlying23 (by kernel_rfl) gSym
theorem gTerms : Gives Try.prog 37 (slE (slE intE)) := gives_slice Try.underlying37 (by kernel_rfl) gTerm
theorem gInts : Gives Try.prog 24 (slE intE) := gives_slice Try.underlying24 (by kernel_rfl) gInt
theorem gSwap : Gives Try.prog 27 (pairE (slE intE) (pairE (slE intE) (slE intE))) := gives_three Try.underlying27 rfl rfl rfl (by kernel_rfl) (by kernel_rfl) (by kernel_rfl) (by kernel_rfl) gTerm gInts gTerm
end Go.Proofs.Ytgkddhakhapjlaa
