/- A new cursor; what is known of a code that came in. -/
import Derived.Test.YtoeacocijcammaaCur
namespace Go.Proofs.Ytoeacocijcammaa
open Go.RowKit

theorem cur_new {w : World} {A : Option Addr} {n c : Nat} {bs : List Int} (hr : RdV w A n (bs.map (Value.int .u8))) (hf : Fits .u8 bs) :
    Cur (w.alloc (.cells #[.slice A n c, .int .i64 0, .int .u64 0] 55)) w.heap.size A n c bs 0 :=
  ⟨⟨0, 0, heap_alloc_new _ _, by omega, by omega, rfl⟩, hr.below ((Below.refl _ _).alloc (Nat.le_refl _) _), hf, fun hn b off e => by
    obtain ⟨b', off', hA, hb, _⟩ := hr.at_ hn
    rw [hA] at e
    injection e with e
    injection e with e1
    omega⟩
/-- What is known of a code that came in. -/
def Code8 (w : World) (A : Option Addr) (n : Nat) (bs : List Int) : Prop := RdV w A n (bs.map (Value.int .u8)) ∧ Fits .u8 bs ∧ n ≤ 65537
theorem Code8.below {w w' : World} {A : Option Addr} {n : Nat} {bs : List Int} (h : Code8 w A n bs) (hb : Below w.heap.size w w') : Code8 w' A n bs :=
  ⟨h.1.below hb, h.2.1, h.2.2⟩
end Go.Proofs.Ytoeacocijcammaa
