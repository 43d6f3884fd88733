/- Facts of the program's types that every law's row wants. -/
import Derived.Test.YtpmnnoopoblpgaaGreatRows
import Derived.Test.YtpmnnoopoblpgaaGreatOpen
namespace Go.Proofs.YtpmnnoopoblpgaaGreat
open Go Go.RowKit Go.ChangeShapes Go.WideShapes Go.ChangeAt
theorem Tryz.own : ownKnob Tryz.prog.godebug = none := by kernel_rfl
theorem Tryz.laidOut : laidOutB Tryz.prog = true := by kernel_rfl
theorem gInt : Gives Tryz.prog 3 intE := gives_int Tryz.underlying3
theorem gStr : Gives Tryz.prog 9 strE := gives_str Tryz.underlying9
theorem gTerm : Gives Tryz.prog 26 (slE intE) := gives_slice Tryz.underlying26 (by kernel_rfl) gInt
theorem gSym : Gives Tryz.prog 115 symE := gives_pair Tryz.underlying115 rfl rfl (by kernel_rfl) (by kernel_rfl) (by kernel_rfl) gStr gInt
theorem gSign : Gives Tryz.prog 23 (slE symE) := gives_slice Tryz.underlying23 (by kernel_rfl) gSym
theorem gTerms : Gives Tryz.prog 77 (slE (slE intE)) := gives_slice Tryz.underlying77 (by kernel_rfl) gTerm
theorem gInts : Gives Tryz.prog 25 (slE intE) := gives_slice Tryz.underlying25 (by kernel_rfl) gInt
end Go.Proofs.YtpmnnoopoblpgaaGreat
