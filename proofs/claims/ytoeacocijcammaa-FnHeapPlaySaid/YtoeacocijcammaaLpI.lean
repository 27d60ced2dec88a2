/- FnHeapPlay: the bound on values given. -/
import Derived.Test.YtoeacocijcammaaLpH
import Derived.Test.YtoeacocijcammaaHbB
namespace Go.Proofs.Ytoeacocijcammaa
theorem w_FnHeapPlay (A : Option Addr) (n c : Nat) (bs : List Int) (w : World) (rd : RdV w A n (bs.map (Value.int .u8))) (f : Fits .u8 bs) (m : n ≤ maxLen) :
    Calls Try.prog 9 #[.slice A n c] w fun e w' => e = .returned (.bool true) ∧ Go.RowKit.Below w.heap.size w w' :=
  w_FnHeapPlay_of bnd A n c bs w rd f m
end Go.Proofs.Ytoeacocijcammaa
