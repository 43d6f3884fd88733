/- The proof of a statement, some of its texts joined in build order: part K15. -/
import Derived.Shelf.Strconv.Atoi
import Derived.Test.YtlejmeegkpdabaaGreatDoorMxK10
namespace Go.Proofs.YtlejmeegkpdabaaGreatDoor
open Go Go.RowKit Go.Shelf
theorem tM(w:World)(e:TypeId)(t:ByteArray):Below w.heap.size w (Lib.bytesWorld w e t):=by
 exact⟨rfl,rfl,rfl,by rw[Lib.bytesWorld_size];omega,fun j a=>Lib.bytesWorld_at_old w e t j a⟩
end Go.Proofs.YtlejmeegkpdabaaGreatDoor
