/- Slices of texts: equality, marks; splitting a text at a byte; the walk of the law on SplitText. -/
import Derived.Test.YtcogdogiceokdaaDoorTxB
import Derived.Deep.RegionHeld3
namespace Go.Proofs.YtcogdogiceokdaaDoor
open Go.RowKit

end Go.Proofs.YtcogdogiceokdaaDoor
