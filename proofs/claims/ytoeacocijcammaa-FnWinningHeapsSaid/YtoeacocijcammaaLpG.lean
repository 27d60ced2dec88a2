/- FnWinningHeaps: the bound on values given. -/
import Derived.Test.YtoeacocijcammaaLpF
import Derived.Test.YtoeacocijcammaaHbB
namespace Go.Proofs.Ytoeacocijcammaa
theorem w_FnWinningHeaps (A : Option Addr) (n c : Nat) (bs : List Int) (w : World) (rd : RdV w A n (bs.map (Value.int .u8))) (f : Fits .u8 bs) (m : n ≤ maxLen) :
    Calls Try.prog 8 #[.slice A n c] w fun e w' => e = .returned (.bool true) ∧ Go.RowKit.Below w.heap.size w w' :=
  w_FnWinningHeaps_of bnd A n c bs w rd f m
end Go.Proofs.Ytoeacocijcammaa
