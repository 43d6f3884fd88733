/- The library's strings.Join and strconv.Itoa (of small numbers) laid at the program (by the shelf's plain mode, numbers by name). -/
import Derived.Shelf.Strings.OnBuilder
import Derived.Shelf.Strconv.Itoa3
import Derived.Test.YtljkojpooajlhaaWalkA
namespace Go.Proofs.Ytljkojpooajlhaa
open Go Go.RowKit Go.Shelf

end Go.Proofs.Ytljkojpooajlhaa
