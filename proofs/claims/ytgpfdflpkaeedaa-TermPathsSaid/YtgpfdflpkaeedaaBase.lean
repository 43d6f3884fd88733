/- Facts of the program's types that every law's row wants. -/
import Derived.Test.YtgpfdflpkaeedaaRows
import Derived.Test.YtgpfdflpkaeedaaOpen
namespace Go.Proofs.Ytgpfdflpkaeedaa
open Go Go.RowKit Go.ChangeShapes Go.WideShapes Go.ChangeAt
theorem Try.own : ownKnob Try.prog.godebug = none := by kernel_rfl
theorem Try.laidOut : laidOutB Try.prog = true := by kernel_rfl
theorem gInt : Gives Try.prog 3 intE := gives_int Try.underlying3
theorem gStr : Gives Try.prog 9 strE := gives_str Try.underlying9
theorem gTerm : Gives Try.prog 25 (slE intE) := gives_slice Try.underlying25 (by kernel_rfl) gInt
theorem gSym : Gives Try.prog 60 symE := gives_pair Try.underlying60 rfl rfl (by kernel_rfl) (by kernel_rfl) (by kernel_rfl) gStr gInt
theorem gSign : Gives Try.prog 23 (slE symE) := gives_slice Try.underlying23 (by kernel_rfl) gSym
theorem gTerms3 : Gives Try.prog 26 (pairE (slE intE) (pairE (slE intE) (slE intE))) := gives_array3 Try.underlying26 (by kernel_rfl) (by kernel_rfl) gTerm
theorem gTerms : Gives Try.prog 45 (slE (slE intE)) := gives_slice Try.underlying45 (by kernel_rfl) gTerm
theorem gInts : Gives Try.prog 24 (slE intE) := gives_slice Try.underlying24 (by kernel_rfl) gInt
theorem gPlace : Gives Try.prog 43 (pairE (slE intE) (pairE (slE intE) (slE intE))) := gives_three Try.underlying43 rfl rfl rfl (by kernel_rfl) (by kernel_rfl) (by kernel_rfl) (by kernel_rfl) gTerm gTerm gInts
end Go.Proofs.Ytgpfdflpkaeedaa
