/- Joining texts by the program; the walk of the law on JoinTexts. -/
import Derived.Test.YtaifelcocnnkjaaDoorTxE
namespace Go.Proofs.YtaifelcocnnkjaaDoor
open Go.RowKit

theorem toNat_u8 (b : UInt8) : ((b.toNat : Int)).toNat.toUInt8 = b := by simp
end Go.Proofs.YtaifelcocnnkjaaDoor
