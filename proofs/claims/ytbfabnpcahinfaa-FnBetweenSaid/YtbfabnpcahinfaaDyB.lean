/- Contracts: scaled, lowest and their kin, of the program and of the reference. -/
import Derived.Test.YtbfabnpcahinfaaDyA
import Derived.Test.YtbfabnpcahinfaaDyPlain
namespace Go.Proofs.Ytbfabnpcahinfaa
open Go.RowKit

theorem wrap_sc {n : Nat} {t p : Int} (hn : n ≤ 24) (h1 : -1000001 ≤ t) (h2 : t ≤ 1000001) (h3 : 0 ≤ p) : wrap64 (t * 2 ^ ((n : Int) - p).toNat) = sc n t p := by
  have hb := sc_bd (n := n) (p := p) h1 h2
  have hp : (2 : Int) ^ n ≤ 2 ^ 24 := by
    have : (2 : Nat) ^ n ≤ 2 ^ 24 := Nat.pow_le_pow_right (by omega) hn
    exact_mod_cast this
  have e : t * 2 ^ ((n : Int) - p).toNat = sc n t p := by
    unfold sc
    rw [show ((n : Int) - p).toNat = n - p.toNat from by omega]
  rw [e]
  have h24 : (2 : Int) ^ 24 = 16777216 := by decide
  rw [h24] at hp
  exact IntWalk.wrap64_in _ ⟨by omega, by omega⟩
set_option maxHeartbeats 400000 in
theorem c_scaled (t p : Int) (w : World) (h1 : -1000000 ≤ t) (h2 : t ≤ 1000000) (h3 : 0 ≤ p) (h4 : p ≤ 16) :
    Calls Try.prog 52 #[dv t p] w fun e w' => e = .returned (.int .i64 (sc 16 t p)) ∧ Below w.heap.size w w' := by
  have hw : Hid (wrap64 (t * 2 ^ (16 - p).toNat) = sc 16 t p) := Lib.hid (wrap_sc (n := 16) (by omega) (by omega) (by omega) h3)
  go_enter Try.func52, Try.ntmps52
  go_wp2
  go_ret
  exact ⟨ret_int hw.out, by go_grown⟩
set_option maxHeartbeats 400000 in
theorem s_l2Scaled (t p : Int) (w : World) (h1 : -1000001 ≤ t) (h2 : t ≤ 1000001) (h3 : 0 ≤ p) (h4 : p ≤ 16) :
    Calls Try.prog 63 #[dv t p] w fun e w' => e = .returned (.int .i64 (sc 24 t p)) ∧ Below w.heap.size w w' := by
  have hw : Hid (wrap64 (t * 2 ^ (24 - p).toNat) = sc 24 t p) := Lib.hid (wrap_sc (n := 24) (by omega) (by omega) (by omega) h3)
  go_enter Try.func63, Try.ntmps63
  go_wp2
  go_ret
  exact ⟨ret_int hw.out, by go_grown⟩

def lowV (t : Int) (p : Nat) : Int × Int × Bool := if gd (red t p).1 (red t p).2 then ((red t p).1, (red t p).2, true) else (0, 0, false)
/-- A number and a bool, as results. -/
abbrev rv (m : Int × Int × Bool) : Value := .tuple #[dv m.1 m.2.1, .bool m.2.2]
theorem two_set {w1 : World} {b : Nat} {u0 u1 x y : Value} (h0 : w1.cell? ⟨b, 0, none⟩ = some u0) (h1 : w1.cell? ⟨b, 1, none⟩ = some u1) :
    ((w1.setCell ⟨b, 0, none⟩ x).setCell ⟨b, 1, none⟩ y).cell? ⟨b, 0, none⟩ = some x ∧ ((w1.setCell ⟨b, 0, none⟩ x).setCell ⟨b, 1, none⟩ y).cell? ⟨b, 1, none⟩ = some y := by
  constructor
  · rw [World.cell?_setCell_other _ _ _ _ (by simp)]
    exact World.cell?_setCell_same _ _ _ h0
  · exact World.cell?_setCell_same (u := u1) _ _ _ (by rw [World.cell?_setCell_other _ _ _ _ (by simp)]; exact h1)
/-- The results: a number that lies in memory, and a slot. -/
theorem res_rv {fn : Func} {p u : Nat} (tmps : Array Value) (w : World) {b : Nat} {x y : Int} {r : Value} (h : fn.results = #[.cell p 26, .tmp u])
    (hp : tmps.getD p undef = .pointer (some ⟨b, 0, none⟩)) (hr : tmps.getD u undef = r) (hx : w.cell? ⟨b, 0, none⟩ = some (.int .i64 x)) (hy : w.cell? ⟨b, 1, none⟩ = some (.int .i64 y)) :
    (results fn tmps).run Try.prog w = .ok (.tuple #[dv x y, r]) w := by
  rw [results_cell_tmp h, hp, hr]
  simp [go_sem, hx, hy]
set_option maxHeartbeats 1000000 in
theorem c_lowest (t : Int) (p : Nat) (w : World) (h1 : -4611686018427387904 ≤ t) (h2 : t ≤ 4611686018427387904) (hp : p ≤ 100) :
    Calls Try.prog 49 #[.int .i64 t, .int .i64 p] w fun e w' => e = .returned (rv (lowV t p)) ∧ Below w.heap.size w w' := by
  go_enter Try.func49, Try.ntmps49
  go_wp2_with fail
  go_loop [0, 1] (fun a b => ∃ (t' : Int) (p' : Nat), a = .int .i64 t' ∧ b = .int .i64 p' ∧ p' ≤ 100 ∧ -4611686018427387904 ≤ t' ∧ t' ≤ 4611686018427387904 ∧ Hid (red t' p' = red t p)) (fun _ b => (intOf b).toNat)
  case atStart => exact ⟨t, p, rfl, rfl, hp, h1, h2, Lib.hid rfl⟩
  case round =>
    obtain ⟨t', p', rfl, rfl, hp', h1', h2', hred⟩ := hrel
    clear h1 h2 hp
    by_cases h0 : 0 < p'
    · by_cases he : t'.tmod 2 = 0
      · have hred' : Hid (red (t'.tdiv 2) (p' - 1) = red t p) := Lib.hid (by
          rw [← hred.out, show p' = (p' - 1) + 1 from by omega, red_even he]; simp)
        have hb1 : -4611686018427387904 ≤ t'.tdiv 2 := by have := Int.tmod_add_mul_tdiv t' 2; omega
        have hb2 : t'.tdiv 2 ≤ 4611686018427387904 := by have := Int.tmod_add_mul_tdiv t' 2; omega
        have he' : (t'.tmod 2 == 0) = true := by simp [he]
        clear he
        go_wp2_with fail
        go_round
        case rel => exact ⟨_, p' - 1, rfl, by simp only [Value.int.injEq, true_and]; omega, by omega, hb1, hb2, hred'⟩
        case measure => simp [intOf]; omega
      · have hres : Hid (red t p = (t', p')) := Lib.hid (by rw [← hred.out, show p' = (p' - 1) + 1 from by omega, red_odd he])
        have he' : (t'.tmod 2 == 0) = false := by simp [he]
        clear he
        go_wp2_with fail
        refine (c_GoodDyadic _ _ _).mono ?_
        rintro e w1 ⟨rfl, b1⟩
        obtain ⟨hc, hf⟩ := bcell b1
        have k0 : w1.cell? ⟨w.heap.size, 0, none⟩ = some (.int .i64 0) := (hc _ _ (by simp; omega)).trans (by simp)
        have k1 : w1.cell? ⟨w.heap.size, 1, none⟩ = some (.int .i64 0) := (hc _ _ (by simp; omega)).trans (by simp)
        have b2 : Below w.heap.size w w1 := Below.next (by go_grown) b1
        cases hg : gd t' p'
        · have fin : Hid (lowV t p = (0, 0, false)) := Lib.hid (by unfold lowV; rw [hres.out]; simp [hg])
          go_wp2_with fail
          exact bodyPost_ret (res_rv _ _ rfl rfl rfl (two_set k0 k1).1 (two_set k0 k1).2) rfl ⟨by rw [fin.out]; rfl, (b2.setCell (Nat.le_refl _) _).setCell (Nat.le_refl _) _⟩
        · have fin : Hid (lowV t p = (t', (p' : Int), true)) := Lib.hid (by unfold lowV; rw [hres.out]; simp [hg])
          go_wp2_with fail
          exact bodyPost_ret (res_rv _ _ rfl rfl rfl (two_set k0 k1).1 (two_set k0 k1).2) rfl ⟨by rw [fin.out]; rfl, (b2.setCell (Nat.le_refl _) _).setCell (Nat.le_refl _) _⟩
    · obtain rfl : p' = 0 := by omega
      have hres : Hid (red t p = (t', 0)) := Lib.hid (by rw [← hred.out, red_zero])
      go_wp2_with fail
      refine (c_GoodDyadic _ _ _).mono ?_
      rintro e w1 ⟨rfl, b1⟩
      obtain ⟨hc, hf⟩ := bcell b1
      have k0 : w1.cell? ⟨w.heap.size, 0, none⟩ = some (.int .i64 0) := (hc _ _ (by simp; omega)).trans (by simp)
      have k1 : w1.cell? ⟨w.heap.size, 1, none⟩ = some (.int .i64 0) := (hc _ _ (by simp; omega)).trans (by simp)
      have b2 : Below w.heap.size w w1 := Below.next (by go_grown) b1
      cases hg : gd t' 0
      · have fin : Hid (lowV t p = (0, 0, false)) := Lib.hid (by unfold lowV; rw [hres.out]; simp [hg])
        go_wp2_with fail
        exact bodyPost_ret (res_rv _ _ rfl rfl rfl (two_set k0 k1).1 (two_set k0 k1).2) rfl ⟨by rw [fin.out]; rfl, (b2.setCell (Nat.le_refl _) _).setCell (Nat.le_refl _) _⟩
      · have fin : Hid (lowV t p = (t', 0, true)) := Lib.hid (by unfold lowV; rw [hres.out]; simp [hg])
        go_wp2_with fail
        exact bodyPost_ret (res_rv _ _ rfl rfl rfl (two_set k0 k1).1 (two_set k0 k1).2) rfl ⟨by rw [fin.out]; rfl, (b2.setCell (Nat.le_refl _) _).setCell (Nat.le_refl _) _⟩
end Go.Proofs.Ytbfabnpcahinfaa
