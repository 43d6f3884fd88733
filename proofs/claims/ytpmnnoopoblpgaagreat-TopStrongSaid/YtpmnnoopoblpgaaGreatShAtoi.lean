/- The library's contract of strconv.Atoi, laid at the program (by the shelf's plain mode, numbers by name). -/
import Derived.Shelf.Strconv.Atoi
import Derived.Test.YtpmnnoopoblpgaaGreatWalkA
namespace Go.Proofs.YtpmnnoopoblpgaaGreat
open Go Go.RowKit Go.Shelf

theorem bytesWorld_low (w : World) (e : TypeId) (t : ByteArray) : Below w.heap.size w (Lib.bytesWorld w e t) := by
  exact ⟨rfl, rfl, rfl, by rw [Lib.bytesWorld_size]; omega, fun j hj => Lib.bytesWorld_at_old w e t j hj⟩
end Go.Proofs.YtpmnnoopoblpgaaGreat
