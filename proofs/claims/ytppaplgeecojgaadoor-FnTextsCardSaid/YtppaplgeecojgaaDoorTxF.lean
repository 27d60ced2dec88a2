/- Joining texts by the program; the walk of the law on JoinTexts. -/
import Derived.Test.YtppaplgeecojgaaDoorTxE
namespace Go.Proofs.YtppaplgeecojgaaDoor
open Go.RowKit

theorem toNat_u8 (b : UInt8) : ((b.toNat : Int)).toNat.toUInt8 = b := by simp
end Go.Proofs.YtppaplgeecojgaaDoor
