/- The table of powers of ten, as the rows lay it. -/
import Derived.Test.YtggfhjfebnhbjaaGreatDoorBld
import Derived.Lib.LaidTab
namespace Go.Proofs.YtggfhjfebnhbjaaGreatDoor
open Go Go.RowKit
theorem tabW_of_laid {W : World} {n1 n2 : String} {d1 d2 : DataW Unit} {rest : List (String × DataW Unit)} (h : laidMet Tryz.prog ((n1, d1) :: (n2, d2) :: ("internal/strconv.uint64pow10", Lib.tabData .u64 Lib.pow10Tab) :: rest) W) : TabW W := by
  have hg : Tryz.prog.globalNamed "internal/strconv.uint64pow10" = some 3 := by kernel_rfl
  have hty : (Tryz.prog.globals[3]?).map (·.type) = some 221 := by kernel_rfl
  obtain ⟨ps, ⟨_, _, _, _, _, _, _, _, _, _, ⟨_, _, _, _, _, _, _, _, _, _, ⟨g', t', cs, fuel, p, q, hg', ht', hvar, hd, _, _⟩, _⟩, _⟩, _⟩ := h
  obtain rfl := Option.some.inj (hg.symm.trans hg')
  obtain rfl := Option.some.inj (hty.symm.trans ht')
  have h2 : Lib.TabIs Tryz.prog W "internal/strconv.uint64pow10" .u64 Lib.pow10Tab := by
    unfold Lib.TabIs
    rw [hvar, ← Lib.cells_of_tab Tryz.underlying221 Tryz.underlying184 (by kernel_rfl) (by kernel_rfl) hd]
  exact Eq.mp (congrArg (fun s => Lib.TabIs Tryz.prog W s .u64 Lib.pow10Tab) (by kernel_rfl)) h2
end Go.Proofs.YtggfhjfebnhbjaaGreatDoor
