/- The proof of a statement, some of its texts joined in build order: part K20. -/
import Derived.Test.YtlejmeegkpdabaaGreatDoorMxK11
import Derived.Lib.LaidTab
namespace Go.Proofs.YtlejmeegkpdabaaGreatDoor
open Go Go.RowKit
theorem Im{W:World}{n1 n2:String}{d1 d2:DataW Unit}{rest:List (String×DataW Unit)}(h:laidMet Tryz.prog ((n1,d1)::(n2,d2)::("internal/strconv.uint64pow10",Lib.tabData .u64 Lib.pow10Tab)::rest) W):TabW W:=by
 have hg:Tryz.prog.globalNamed "internal/strconv.uint64pow10" =some 3:=by kernel_rfl
 have f:(Tryz.prog.globals[3]?).map (·.type)=some 246:=by kernel_rfl
 obtain⟨l,⟨_,_,_,_,_,_,_,_,_,_,⟨_,_,_,_,_,_,_,_,_,_,⟨k,m,j,g,p,q,b,c,a,hd,_,_⟩,_⟩,_⟩,_⟩:=h
 obtain rfl:=Option.some.inj (hg.symm.trans b)
 obtain rfl:=Option.some.inj (f.symm.trans c)
 have i:Lib.TabIs Tryz.prog W "internal/strconv.uint64pow10" .u64 Lib.pow10Tab:=by
  unfold Lib.TabIs
  rw[a,←Lib.cells_of_tab Tryz.underlying246 Tryz.underlying197 (by kernel_rfl) (by kernel_rfl) hd]
 exact Eq.mp (congrArg (fun s=>Lib.TabIs Tryz.prog W s .u64 Lib.pow10Tab) (by kernel_rfl)) i
end Go.Proofs.YtlejmeegkpdabaaGreatDoor
