/- Walks: lists of terms alike. -/
import Derived.Test.YtgkddhakhapjlaaDoorWalkM
import Derived.Test.YtgkddhakhapjlaaDoorWalkJ
namespace Go.Proofs.YtgkddhakhapjlaaDoor
open Go Go.RowKit Go.Maps

end Go.Proofs.YtgkddhakhapjlaaDoor
