/- PlayHeaps: the walk of its law, the bound on values given. -/
import Derived.Test.YtoeacocijcammaaLnF
import Derived.Test.YtoeacocijcammaaHbB
namespace Go.Proofs.Ytoeacocijcammaa
theorem w_FnExactPlayHeaps (A : Option Addr) (n c : Nat) (xs : List Int) (B : Option Addr) (m d : Nat) (hs : List Int) (w : World) (rd : RdV w A n (xs.map (Value.int .i64))) (f : Fits .i64 xs) (h : n ≤ maxLen)
    (rh : RdV w B m (hs.map (Value.int .i64))) (f' : Fits .i64 hs) (h' : m ≤ maxLen) :
    Calls Try.prog 6 #[.slice A n c, .slice B m d] w fun e w' => e = .returned (.bool true) ∧ Go.RowKit.Below w.heap.size w w' :=
  w_FnExactPlayHeaps_of2 bnd A n c xs B m d hs w rd f h rh f' h'
end Go.Proofs.Ytoeacocijcammaa
