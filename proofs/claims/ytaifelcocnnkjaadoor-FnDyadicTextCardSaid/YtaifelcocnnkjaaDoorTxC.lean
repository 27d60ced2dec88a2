/- Slices of texts: equality, marks; splitting a text at a byte; the walk of the law on SplitText. -/
import Derived.Test.YtaifelcocnnkjaaDoorTxB
import Derived.Deep.RegionHeld3
namespace Go.Proofs.YtaifelcocnnkjaaDoor
open Go.RowKit

end Go.Proofs.YtaifelcocnnkjaaDoor
