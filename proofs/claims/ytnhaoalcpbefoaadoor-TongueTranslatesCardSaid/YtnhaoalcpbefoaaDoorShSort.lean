/- The library's contracts of slices.Sort and slices.Compact at numbers, laid at the program (by the shelf's plain mode, numbers by name). -/
import Derived.Shelf.Sort.Plain
import Derived.Shelf.Slices.CompactI
import Derived.Shelf.Slices.In.SortNone
import Derived.Test.YtnhaoalcpbefoaaDoorWalkA
namespace Go.Proofs.YtnhaoalcpbefoaaDoor
open Go Go.RowKit Go.Shelf

end Go.Proofs.YtnhaoalcpbefoaaDoor
