/- The proof of a statement, some of its texts joined in build order: part K18. -/
import Derived.Test.YtlejmeegkpdabaaGreatDoorRows
import Derived.Test.YtlejmeegkpdabaaGreatDoorMxK14
namespace Go.Proofs.YtlejmeegkpdabaaGreatDoor
open Go Go.RowKit Go.ChangeShapes Go.WideShapes Go.ChangeAt
theorem Tryz.own:ownKnob Tryz.prog.godebug=none:=by kernel_rfl
theorem Tryz.laidOut:laidOutB Tryz.prog=true:=by kernel_rfl
theorem lw:Gives Tryz.prog 3 intE:=Di Tryz.underlying3
theorem nE:Gives Tryz.prog 9 strE:=Dk Tryz.underlying9
theorem Dc:Gives Tryz.prog 42 (cI intE):=lz Tryz.underlying42 (by kernel_rfl) lw
theorem Db:Gives Tryz.prog 78 mn:=Dj Tryz.underlying78 rfl rfl (by kernel_rfl) (by kernel_rfl) (by kernel_rfl) nE lw
theorem gSign:Gives Tryz.prog 23 (cI mn):=lz Tryz.underlying23 (by kernel_rfl) Db
end Go.Proofs.YtlejmeegkpdabaaGreatDoor
