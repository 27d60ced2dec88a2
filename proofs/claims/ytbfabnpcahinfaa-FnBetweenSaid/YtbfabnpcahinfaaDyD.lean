/- Contracts: comparing, making, halving, adding. -/
import Derived.Test.YtbfabnpcahinfaaDyC
namespace Go.Proofs.Ytbfabnpcahinfaa
open Go.RowKit

def cmpI (x y : Int) : Int := if x < y then -1 else if y < x then 1 else 0
set_option maxHeartbeats 400000 in
theorem c_cmp (x y : Int) (w : World) :
    Calls Try.prog 51 #[.int .i64 x, .int .i64 y] w fun e w' => e = .returned (.int .i64 (cmpI x y)) ∧ w = w' := by
  by_cases h1 : x < y
  · have fin : Hid (cmpI x y = -1) := Lib.hid (by simp [cmpI, h1])
    go_enter Try.func51, Try.ntmps51
    go_wp2
    go_ret
    exact ⟨ret_int fin.out.symm, rfl⟩
  · by_cases h2 : y < x
    · have fin : Hid (cmpI x y = 1) := Lib.hid (by simp [cmpI, h1, h2])
      go_enter Try.func51, Try.ntmps51
      go_wp2
      go_ret
      exact ⟨ret_int fin.out.symm, rfl⟩
    · have fin : Hid (cmpI x y = 0) := Lib.hid (by simp [cmpI, h1, h2])
      go_enter Try.func51, Try.ntmps51
      go_wp2
      go_ret
      exact ⟨ret_int fin.out.symm, rfl⟩

def cmpV (t p u q : Int) : Int × Bool := if gd t p && gd u q then (cmpI (sc 16 t p) (sc 16 u q), true) else (0, false)
abbrev iv (m : Int × Bool) : Value := .tuple #[.int .i64 m.1, .bool m.2]
theorem ret_iv {a : Int} {c : Bool} {m : Int × Bool} (h : m = (a, c)) : Ending.returned (.tuple #[.int .i64 a, .bool c]) = .returned (iv m) := by rw [h]
set_option maxHeartbeats 1000000 in
theorem c_CompareDyadic (t p u q : Int) (w : World) :
    Calls Try.prog 28 #[dv t p, dv u q] w fun e w' => e = .returned (iv (cmpV t p u q)) ∧ Below w.heap.size w w' := by
  cases hg : gd t p
  · have fin : Hid (cmpV t p u q = (0, false)) := Lib.hid (by simp [cmpV, hg])
    go_enter Try.func28, Try.ntmps28
    go_wp2_with fail
    refine (c_GoodDyadic _ _ _).mono ?_
    rintro e w1 ⟨rfl, b1⟩
    go_wp2_with fail
    go_ret2
    exact ⟨ret_iv fin.out, Below.next (by go_grown) b1⟩
  · obtain ⟨h1, h2, h3, h4⟩ := gd_rng hg
    go_enter Try.func28, Try.ntmps28
    go_wp2_with fail
    refine (c_GoodDyadic _ _ _).mono ?_
    rintro e w1 ⟨rfl, b1⟩
    have c0 : w1.cell? ⟨w.heap.size, 0, none⟩ = some (.int .i64 t) := bkeep b1 _ _ (by simp)
    have c1 : w1.cell? ⟨w.heap.size, 1, none⟩ = some (.int .i64 p) := bkeep b1 _ _ (by simp)
    have c2 : w1.cell? ⟨w.heap.size + 1, 0, none⟩ = some (.int .i64 u) := bkeep b1 _ _ (by simp)
    have c3 : w1.cell? ⟨w.heap.size + 1, 1, none⟩ = some (.int .i64 q) := bkeep b1 _ _ (by simp)
    have b1' : Below w.heap.size w w1 := Below.next (by go_grown) b1
    go_wp2_with fail
    refine (c_GoodDyadic _ _ _).mono ?_
    rintro e w2 ⟨rfl, b2⟩
    have d0 : w2.cell? ⟨w.heap.size, 0, none⟩ = some (.int .i64 t) := bkeep b2 _ _ c0
    have d1 : w2.cell? ⟨w.heap.size, 1, none⟩ = some (.int .i64 p) := bkeep b2 _ _ c1
    have d2 : w2.cell? ⟨w.heap.size + 1, 0, none⟩ = some (.int .i64 u) := bkeep b2 _ _ c2
    have d3 : w2.cell? ⟨w.heap.size + 1, 1, none⟩ = some (.int .i64 q) := bkeep b2 _ _ c3
    have b2' : Below w.heap.size w w2 := Below.next b1' b2
    clear c0 c1 c2 c3 b1 b1' b2
    cases hg2 : gd u q
    · have fin : Hid (cmpV t p u q = (0, false)) := Lib.hid (by simp [cmpV, hg2])
      go_wp2_with fail
      go_ret2
      exact ⟨ret_iv fin.out, b2'⟩
    · have fin : Hid (cmpV t p u q = (cmpI (sc 16 t p) (sc 16 u q), true)) := Lib.hid (by simp [cmpV, hg, hg2])
      obtain ⟨k1, k2, k3, k4⟩ := gd_rng hg2
      go_wp2_with fail
      go_region_held3 (fun w' => w'.cell? ⟨w.heap.size, 0, none⟩ = some (.int .i64 t) ∧ w'.cell? ⟨w.heap.size, 1, none⟩ = some (.int .i64 p) ∧ w'.cell? ⟨w.heap.size + 1, 0, none⟩ = some (.int .i64 u) ∧ w'.cell? ⟨w.heap.size + 1, 1, none⟩ = some (.int .i64 q)) (go_keep)
        (first | (go_at_call 52; refine (c_scaled _ _ _ (by assumption) (by assumption) (by assumption) (by assumption)).mono ?_; rintro e w' ⟨rfl, b⟩; have hk := bkeep b) | (go_at_call 51; refine (c_cmp _ _ _).mono ?_; rintro e w' ⟨rfl, rfl⟩))
      all_goals
        go_wp2_with fail
        go_ret2
        refine ⟨ret_iv fin.out, ?_⟩
        refine Below.next ?_ (by assumption)
        refine Below.next ?_ (by assumption)
        go_grown
theorem cmp24 {t p u q : Int} (hg : gd t p = true) (hg2 : gd u q = true) : (sc 24 t p < sc 24 u q ↔ sc 16 t p < sc 16 u q) := by
  have h1 := gd_rng hg
  have h2 := gd_rng hg2
  exact sc_cmp (by omega) (by omega) (by omega)
set_option maxHeartbeats 1000000 in
theorem s_CompareDyadic (t p u q : Int) (w : World) :
    Calls Try.prog 27 #[dv t p, dv u q] w fun e w' => e = .returned (iv (cmpV t p u q)) ∧ Below w.heap.size w w' := by
  cases hg : gd t p
  · have fin : Hid (cmpV t p u q = (0, false)) := Lib.hid (by simp [cmpV, hg])
    go_enter Try.func27, Try.ntmps27
    go_wp2_with fail
    refine (s_l2Good _ _ _).mono ?_
    rintro e w1 ⟨rfl, b1⟩
    go_wp2_with fail
    go_ret2
    exact ⟨ret_iv fin.out, Below.next (by go_grown) b1⟩
  · obtain ⟨h1, h2, h3, h4⟩ := gd_rng hg
    go_enter Try.func27, Try.ntmps27
    go_wp2_with fail
    refine (s_l2Good _ _ _).mono ?_
    rintro e w1 ⟨rfl, b1⟩
    have c0 : w1.cell? ⟨w.heap.size, 0, none⟩ = some (.int .i64 t) := bkeep b1 _ _ (by simp)
    have c1 : w1.cell? ⟨w.heap.size, 1, none⟩ = some (.int .i64 p) := bkeep b1 _ _ (by simp)
    have c2 : w1.cell? ⟨w.heap.size + 1, 0, none⟩ = some (.int .i64 u) := bkeep b1 _ _ (by simp)
    have c3 : w1.cell? ⟨w.heap.size + 1, 1, none⟩ = some (.int .i64 q) := bkeep b1 _ _ (by simp)
    have b1' : Below w.heap.size w w1 := Below.next (by go_grown) b1
    go_wp2_with fail
    refine (s_l2Good _ _ _).mono ?_
    rintro e w2 ⟨rfl, b2⟩
    have d0 : w2.cell? ⟨w.heap.size, 0, none⟩ = some (.int .i64 t) := bkeep b2 _ _ c0
    have d1 : w2.cell? ⟨w.heap.size, 1, none⟩ = some (.int .i64 p) := bkeep b2 _ _ c1
    have d2 : w2.cell? ⟨w.heap.size + 1, 0, none⟩ = some (.int .i64 u) := bkeep b2 _ _ c2
    have d3 : w2.cell? ⟨w.heap.size + 1, 1, none⟩ = some (.int .i64 q) := bkeep b2 _ _ c3
    have b2' : Below w.heap.size w w2 := Below.next b1' b2
    clear c0 c1 c2 c3 b1 b1' b2
    cases hg2 : gd u q
    · have fin : Hid (cmpV t p u q = (0, false)) := Lib.hid (by simp [cmpV, hg2])
      go_wp2_with fail
      go_ret2
      exact ⟨ret_iv fin.out, b2'⟩
    · obtain ⟨k1, k2, k3, k4⟩ := gd_rng hg2
      have e1 := Lib.hid (cmp24 hg hg2)
      have e2 := Lib.hid (cmp24 hg2 hg)
      go_wp2_with fail
      refine (s_l2Less _ _ _ _ _ (by omega) (by omega) h3 h4 (by omega) (by omega) k3 k4).mono ?_
      rintro e w3 ⟨rfl, b3⟩
      have g0 : w3.cell? ⟨w.heap.size, 0, none⟩ = some (.int .i64 t) := bkeep b3 _ _ d0
      have g1 : w3.cell? ⟨w.heap.size, 1, none⟩ = some (.int .i64 p) := bkeep b3 _ _ d1
      have g2 : w3.cell? ⟨w.heap.size + 1, 0, none⟩ = some (.int .i64 u) := bkeep b3 _ _ d2
      have g3 : w3.cell? ⟨w.heap.size + 1, 1, none⟩ = some (.int .i64 q) := bkeep b3 _ _ d3
      have b3' : Below w.heap.size w w3 := Below.next b2' b3
      clear d0 d1 d2 d3 b2' b3
      by_cases hl : sc 24 t p < sc 24 u q
      · have fin : Hid (cmpV t p u q = (-1, true)) := Lib.hid (by simp [cmpV, hg, hg2, cmpI, e1.out.1 hl])
        go_wp2_with fail
        go_ret2
        exact ⟨ret_iv fin.out, b3'⟩
      · have Hl : Hid (¬ sc 16 t p < sc 16 u q) := Lib.hid fun h => hl (e1.out.2 h)
        go_wp2_with fail
        refine (s_l2Less _ _ _ _ _ (by omega) (by omega) k3 k4 (by omega) (by omega) h3 h4).mono ?_
        rintro e w4 ⟨rfl, b4⟩
        have b4' : Below w.heap.size w w4 := Below.next b3' b4
        by_cases hl2 : sc 24 u q < sc 24 t p
        · have fin : Hid (cmpV t p u q = (1, true)) := Lib.hid (by simp [cmpV, hg, hg2, cmpI, e2.out.1 hl2, Hl.out])
          go_wp2_with fail
          go_ret2
          exact ⟨ret_iv fin.out, b4'⟩
        · have fin : Hid (cmpV t p u q = (0, true)) := Lib.hid (by simp only [cmpV, hg, hg2, cmpI, Bool.and_self, if_true]; rw [if_neg (by have := Hl.out; omega), if_neg (by have := e2.out; omega)])
          go_wp2_with fail
          go_ret2
          exact ⟨ret_iv fin.out, b4'⟩
end Go.Proofs.Ytbfabnpcahinfaa
