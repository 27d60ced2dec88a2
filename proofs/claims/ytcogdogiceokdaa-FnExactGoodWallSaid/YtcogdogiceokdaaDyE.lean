/- Contracts: making, halving, adding, the birthday. -/
import Derived.Test.YtcogdogiceokdaaDyC
namespace Go.Proofs.Ytcogdogiceokdaa
open Go.RowKit

set_option maxHeartbeats 1000000 in
theorem s_l2Make (t : Int) (p : Nat) (w : World) (h1 : -4611686018427387904 ≤ t) (h2 : t ≤ 4611686018427387904) (hp : p ≤ 100) :
    Calls Try.prog 60 #[.int .i64 t, .int .i64 p] w fun e w' => e = .returned (dv (red t p).1 (red t p).2) ∧ Below w.heap.size w w' := by
  go_enter Try.func60, Try.ntmps60
  go_wp2_with fail
  go_loop [0, 1] (fun a b => ∃ (t' : Int) (p' : Nat), a = .int .i64 t' ∧ b = .int .i64 p' ∧ p' ≤ 100 ∧ -4611686018427387904 ≤ t' ∧ t' ≤ 4611686018427387904 ∧ Hid (red t' p' = red t p)) (fun _ b => (intOf b).toNat)
  case atStart => exact ⟨t, p, rfl, rfl, hp, h1, h2, Lib.hid rfl⟩
  case round =>
    obtain ⟨t', p', rfl, rfl, hp', h1', h2', hred⟩ := hrel
    clear h1 h2 hp
    by_cases h0 : 0 < p'
    · by_cases he : t'.tmod 2 = 0
      · have hred' : Hid (red (t'.tdiv 2) (p' - 1) = red t p) := Lib.hid (by
          rw [← hred.out, show p' = (p' - 1) + 1 from by omega, red_even he]; simp)
        have hb1 : -4611686018427387904 ≤ t'.tdiv 2 := by have := Int.tmod_add_mul_tdiv t' 2; omega
        have hb2 : t'.tdiv 2 ≤ 4611686018427387904 := by have := Int.tmod_add_mul_tdiv t' 2; omega
        have he' : (t'.tmod 2 == 0) = true := by simp [he]
        clear he
        go_wp2_with fail
        go_round
        case rel => exact ⟨_, p' - 1, rfl, by simp only [Value.int.injEq, true_and]; omega, by omega, hb1, hb2, hred'⟩
        case measure => simp [intOf]; omega
      · have hres : Hid (red t p = (t', p')) := Lib.hid (by rw [← hred.out, show p' = (p' - 1) + 1 from by omega, red_odd he])
        have he' : (t'.tmod 2 == 0) = false := by simp [he]
        clear he
        go_wp2_with fail
        exact bodyPost_ret (v := dv t' p') (by simp [results, Try.results60, go_sem]) rfl ⟨by rw [hres.out], by go_grown⟩
    · obtain rfl : p' = 0 := by omega
      have hres : Hid (red t p = (t', 0)) := Lib.hid (by rw [← hred.out, red_zero])
      go_wp2_with fail
      exact bodyPost_ret (v := dv t' 0) (by simp [results, Try.results60, go_sem]) rfl ⟨by rw [hres.out]; rfl, by go_grown⟩

def ifV (t p : Int) : Int × Int × Bool := if gd t p then (t, p, true) else (0, 0, false)
theorem ifV_red (t : Int) (p : Nat) : ifV (red t p).1 (red t p).2 = lowV t p := rfl

def makeV (t p : Int) : Int × Int × Bool := if inB t (-1000000000) 1000000000 && inB p 0 16 then lowV t p.toNat else (0, 0, false)

def halfV (t p : Int) : Int × Int × Bool := if gd t p then lowV t (p.toNat + 1) else (0, 0, false)
end Go.Proofs.Ytcogdogiceokdaa
