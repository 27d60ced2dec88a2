/- Contracts: scaled, lowest and their kin, of the program and of the reference. -/
import Derived.Test.YtaifelcocnnkjaaDoorDv
import Derived.Test.YtaifelcocnnkjaaDoorDyPlain
namespace Go.Proofs.YtaifelcocnnkjaaDoor
open Go.RowKit

theorem wrap_sc {n : Nat} {t p : Int} (hn : n ≤ 24) (h1 : -1000001 ≤ t) (h2 : t ≤ 1000001) (h3 : 0 ≤ p) : wrap64 (t * 2 ^ ((n : Int) - p).toNat) = sc n t p := by
  have hb := sc_bd (n := n) (p := p) h1 h2
  have hp : (2 : Int) ^ n ≤ 2 ^ 24 := by
    have : (2 : Nat) ^ n ≤ 2 ^ 24 := Nat.pow_le_pow_right (by omega) hn
    exact_mod_cast this
  have e : t * 2 ^ ((n : Int) - p).toNat = sc n t p := by
    unfold sc
    rw [show ((n : Int) - p).toNat = n - p.toNat from by omega]
  rw [e]
  have h24 : (2 : Int) ^ 24 = 16777216 := by decide
  rw [h24] at hp
  exact IntWalk.wrap64_in _ ⟨by omega, by omega⟩

def lowV (t : Int) (p : Nat) : Int × Int × Bool := if gd (red t p).1 (red t p).2 then ((red t p).1, (red t p).2, true) else (0, 0, false)
set_option maxHeartbeats 1000000 in
theorem c_lowest (t : Int) (p : Nat) (w : World) (h1 : -4611686018427387904 ≤ t) (h2 : t ≤ 4611686018427387904) (hp : p ≤ 100) :
    Calls Tryd.prog 55 #[.int .i64 t, .int .i64 p] w fun e w' => e = .returned (rv (lowV t p)) ∧ Below w.heap.size w w' := by
  go_enter Tryd.func55, Tryd.ntmps55
  go_wp2_with fail
  go_loop [0, 1] (fun a b => ∃ (t' : Int) (p' : Nat), a = .int .i64 t' ∧ b = .int .i64 p' ∧ p' ≤ 100 ∧ -4611686018427387904 ≤ t' ∧ t' ≤ 4611686018427387904 ∧ Hid (red t' p' = red t p)) (fun _ b => (intOf b).toNat)
  case atStart => exact ⟨t, p, rfl, rfl, hp, h1, h2, Lib.hid rfl⟩
  case round =>
    obtain ⟨t', p', rfl, rfl, hp', h1', h2', hred⟩ := hrel
    clear h1 h2 hp
    by_cases h0 : 0 < p'
    · by_cases he : t'.tmod 2 = 0
      · have hred' : Hid (red (t'.tdiv 2) (p' - 1) = red t p) := Lib.hid (by
          rw [← hred.out, show p' = (p' - 1) + 1 from by omega, red_even he]; simp)
        have hb1 : -4611686018427387904 ≤ t'.tdiv 2 := by have := Int.tmod_add_mul_tdiv t' 2; omega
        have hb2 : t'.tdiv 2 ≤ 4611686018427387904 := by have := Int.tmod_add_mul_tdiv t' 2; omega
        have he' : (t'.tmod 2 == 0) = true := by simp [he]
        clear he
        go_wp2_with fail
        go_round
        case rel => exact ⟨_, p' - 1, rfl, by simp only [Value.int.injEq, true_and]; omega, by omega, hb1, hb2, hred'⟩
        case measure => simp [intOf]; omega
      · have hres : Hid (red t p = (t', p')) := Lib.hid (by rw [← hred.out, show p' = (p' - 1) + 1 from by omega, red_odd he])
        have he' : (t'.tmod 2 == 0) = false := by simp [he]
        clear he
        go_wp2_with fail
        refine (c_GoodDyadic _ _ _).mono ?_
        rintro e w1 ⟨rfl, b1⟩
        obtain ⟨hc, hf⟩ := bcell b1
        have k0 : w1.cell? ⟨w.heap.size, 0, none⟩ = some (.int .i64 0) := (hc _ _ (by simp; omega)).trans (by simp)
        have k1 : w1.cell? ⟨w.heap.size, 1, none⟩ = some (.int .i64 0) := (hc _ _ (by simp; omega)).trans (by simp)
        have b2 : Below w.heap.size w w1 := Below.next (by go_grown) b1
        cases hg : gd t' p'
        · have fin : Hid (lowV t p = (0, 0, false)) := Lib.hid (by unfold lowV; rw [hres.out]; simp [hg])
          go_wp2_with fail
          exact bodyPost_ret (res_rv _ _ rfl rfl rfl (two_set k0 k1).1 (two_set k0 k1).2) rfl ⟨by rw [fin.out]; rfl, (b2.setCell (Nat.le_refl _) _).setCell (Nat.le_refl _) _⟩
        · have fin : Hid (lowV t p = (t', (p' : Int), true)) := Lib.hid (by unfold lowV; rw [hres.out]; simp [hg])
          go_wp2_with fail
          exact bodyPost_ret (res_rv _ _ rfl rfl rfl (two_set k0 k1).1 (two_set k0 k1).2) rfl ⟨by rw [fin.out]; rfl, (b2.setCell (Nat.le_refl _) _).setCell (Nat.le_refl _) _⟩
    · obtain rfl : p' = 0 := by omega
      have hres : Hid (red t p = (t', 0)) := Lib.hid (by rw [← hred.out, red_zero])
      go_wp2_with fail
      refine (c_GoodDyadic _ _ _).mono ?_
      rintro e w1 ⟨rfl, b1⟩
      obtain ⟨hc, hf⟩ := bcell b1
      have k0 : w1.cell? ⟨w.heap.size, 0, none⟩ = some (.int .i64 0) := (hc _ _ (by simp; omega)).trans (by simp)
      have k1 : w1.cell? ⟨w.heap.size, 1, none⟩ = some (.int .i64 0) := (hc _ _ (by simp; omega)).trans (by simp)
      have b2 : Below w.heap.size w w1 := Below.next (by go_grown) b1
      cases hg : gd t' 0
      · have fin : Hid (lowV t p = (0, 0, false)) := Lib.hid (by unfold lowV; rw [hres.out]; simp [hg])
        go_wp2_with fail
        exact bodyPost_ret (res_rv _ _ rfl rfl rfl (two_set k0 k1).1 (two_set k0 k1).2) rfl ⟨by rw [fin.out]; rfl, (b2.setCell (Nat.le_refl _) _).setCell (Nat.le_refl _) _⟩
      · have fin : Hid (lowV t p = (t', 0, true)) := Lib.hid (by unfold lowV; rw [hres.out]; simp [hg])
        go_wp2_with fail
        exact bodyPost_ret (res_rv _ _ rfl rfl rfl (two_set k0 k1).1 (two_set k0 k1).2) rfl ⟨by rw [fin.out]; rfl, (b2.setCell (Nat.le_refl _) _).setCell (Nat.le_refl _) _⟩
end Go.Proofs.YtaifelcocnnkjaaDoor
