/- The contracts of the smallest functions over dyadic numbers. -/
import Derived.Test.YtcogdogiceokdaaGen
import Derived.Handy
namespace Go.Proofs.Ytcogdogiceokdaa
open Go.RowKit

/-- A dyadic number as a value. -/
abbrev dv (t p : Int) : Value := .agg #[.int .i64 t, .int .i64 p]
def gd (t p : Int) : Bool := decide (-1000000 ≤ t) && decide (t ≤ 1000000) && decide (0 ≤ p) && decide (p ≤ 16) && (p == 0 || t.tmod 2 != 0)
theorem gd_iff {t p : Int} : gd t p = true ↔ -1000000 ≤ t ∧ t ≤ 1000000 ∧ 0 ≤ p ∧ p ≤ 16 ∧ (p = 0 ∨ t.tmod 2 ≠ 0) := by
  simp [gd, and_assoc]
theorem gd_rng {t p : Int} (h : gd t p = true) : -1000000 ≤ t ∧ t ≤ 1000000 ∧ 0 ≤ p ∧ p ≤ 16 := by
  have := gd_iff.1 h
  omega

set_option maxHeartbeats 400000 in
theorem c_GoodDyadic (t p : Int) (w : World) :
    Calls Try.prog 27 #[dv t p] w fun e w' => e = .returned (.bool (gd t p)) ∧ Below w.heap.size w w' := by
  go_enter Try.func27, Try.ntmps27
  go_wp2
  all_goals
    go_ret
    exact ⟨ret_bool (by rw [Bool.eq_iff_iff, gd_iff]; simp; omega), by go_grown⟩
set_option maxHeartbeats 400000 in
theorem s_l2Good (t p : Int) (w : World) :
    Calls Try.prog 43 #[dv t p] w fun e w' => e = .returned (.bool (gd t p)) ∧ Below w.heap.size w w' := by
  cases h1 : inB t (-1000000) 1000000
  · have fin : Hid (gd t p = false) := Lib.hid (by rw [← Bool.not_eq_true, gd_iff]; have := inB_false.1 h1; omega)
    go_enter Try.func43, Try.ntmps43
    go_wp2_with (go_at_call 42; refine (c_l1In _ _ _ _).mono ?_; rintro e w' ⟨rfl, rfl⟩)
    go_ret
    exact ⟨ret_bool fin.out.symm, by go_grown⟩
  · cases h2 : inB p 0 16
    · have fin : Hid (gd t p = false) := Lib.hid (by rw [← Bool.not_eq_true, gd_iff]; have := inB_false.1 h2; omega)
      go_enter Try.func43, Try.ntmps43
      go_wp2_with (go_at_call 42; refine (c_l1In _ _ _ _).mono ?_; rintro e w' ⟨rfl, rfl⟩)
      go_ret
      exact ⟨ret_bool fin.out.symm, by go_grown⟩
    · have h1' := inB_true.1 h1
      have h2' := inB_true.1 h2
      have fin : Hid (gd t p = (p == 0 || t.tmod 2 != 0)) := Lib.hid (by rw [Bool.eq_iff_iff, gd_iff]; simp; omega)
      clear h1' h2'
      by_cases h3 : p = 0
      · have h3' : (p == 0) = true := by simp [h3]
        have fin' : Hid (gd t p = true) := Lib.hid (by rw [fin.out, h3']; rfl)
        clear h3
        go_enter Try.func43, Try.ntmps43
        go_wp2_with (go_at_call 42; refine (c_l1In _ _ _ _).mono ?_; rintro e w' ⟨rfl, rfl⟩)
        go_ret
        exact ⟨ret_bool fin'.out.symm, by go_grown⟩
      · have h3' : (p == 0) = false := by simp [h3]
        have fin' : Hid (gd t p = (t.tmod 2 != 0)) := Lib.hid (by rw [fin.out, h3']; rfl)
        clear h3
        go_enter Try.func43, Try.ntmps43
        go_wp2_with (go_at_call 42; refine (c_l1In _ _ _ _).mono ?_; rintro e w' ⟨rfl, rfl⟩)
        go_ret
        exact ⟨ret_bool fin'.out.symm, by go_grown⟩
set_option maxHeartbeats 400000 in
theorem c_toDyadic (t p : Int) (w : World) :
    Calls Try.prog 46 #[dv t p] w fun e w' => e = .returned (dv t p) ∧ Below w.heap.size w w' := by
  go_enter Try.func46, Try.ntmps46
  go_wp2
  exact bodyPost_ret (v := dv t p) (by simp [results, Try.results46, go_sem]) rfl ⟨rfl, by go_grown⟩
set_option maxHeartbeats 400000 in
theorem c_eqDyadic_same (t p : Int) (w : World) :
    Calls Try.prog 47 #[dv t p, dv t p] w fun e w' => e = .returned (.bool true) ∧ Below w.heap.size w w' := by
  go_enter Try.func47, Try.ntmps47
  go_wp2
  go_ret
  exact ⟨rfl, by go_grown⟩
end Go.Proofs.Ytcogdogiceokdaa
