/- Contracts: negating, halving, making, comparing and adding dyadic numbers. -/
import Derived.Test.YtaifelcocnnkjaaDoorDyB
import Derived.Deep.RegionHeld3
namespace Go.Proofs.YtaifelcocnnkjaaDoor
open Go.RowKit

def negV (t p : Int) : Int × Int × Bool := if gd t p then (-t, p, true) else (0, 0, false)


end Go.Proofs.YtaifelcocnnkjaaDoor
