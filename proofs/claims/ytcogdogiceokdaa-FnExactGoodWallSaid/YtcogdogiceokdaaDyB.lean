/- Contracts: scaled, lowest and their kin, of the program and of the reference. -/
import Derived.Test.YtcogdogiceokdaaDv
import Derived.Test.YtcogdogiceokdaaDyPlain
namespace Go.Proofs.Ytcogdogiceokdaa
open Go.RowKit

theorem wrap_sc {n : Nat} {t p : Int} (hn : n ≤ 24) (h1 : -1000001 ≤ t) (h2 : t ≤ 1000001) (h3 : 0 ≤ p) : wrap64 (t * 2 ^ ((n : Int) - p).toNat) = sc n t p := by
  have hb := sc_bd (n := n) (p := p) h1 h2
  have hp : (2 : Int) ^ n ≤ 2 ^ 24 := by
    have : (2 : Nat) ^ n ≤ 2 ^ 24 := Nat.pow_le_pow_right (by omega) hn
    exact_mod_cast this
  have e : t * 2 ^ ((n : Int) - p).toNat = sc n t p := by
    unfold sc
    rw [show ((n : Int) - p).toNat = n - p.toNat from by omega]
  rw [e]
  have h24 : (2 : Int) ^ 24 = 16777216 := by decide
  rw [h24] at hp
  exact IntWalk.wrap64_in _ ⟨by omega, by omega⟩
set_option maxHeartbeats 400000 in
theorem s_l2Scaled (t p : Int) (w : World) (h1 : -1000001 ≤ t) (h2 : t ≤ 1000001) (h3 : 0 ≤ p) (h4 : p ≤ 16) :
    Calls Try.prog 55 #[dv t p] w fun e w' => e = .returned (.int .i64 (sc 24 t p)) ∧ Below w.heap.size w w' := by
  have hw : Hid (wrap64 (t * 2 ^ (24 - p).toNat) = sc 24 t p) := Lib.hid (wrap_sc (n := 24) (by omega) (by omega) (by omega) h3)
  go_enter Try.func55, Try.ntmps55
  go_wp2
  go_ret
  exact ⟨ret_int hw.out, by go_grown⟩

def lowV (t : Int) (p : Nat) : Int × Int × Bool := if gd (red t p).1 (red t p).2 then ((red t p).1, (red t p).2, true) else (0, 0, false)
end Go.Proofs.Ytcogdogiceokdaa
