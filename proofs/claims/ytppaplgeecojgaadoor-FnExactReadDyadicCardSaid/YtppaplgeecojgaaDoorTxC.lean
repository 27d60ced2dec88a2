/- Slices of texts: equality, marks; splitting a text at a byte; the walk of the law on SplitText. -/
import Derived.Test.YtppaplgeecojgaaDoorTxB
import Derived.Deep.RegionHeld3
namespace Go.Proofs.YtppaplgeecojgaaDoor
open Go.RowKit

end Go.Proofs.YtppaplgeecojgaaDoor
