/- The walks of the exact laws over dyadic numbers. -/
import Derived.Test.YtbfabnpcahinfaaDyG
namespace Go.Proofs.Ytbfabnpcahinfaa
open Go.RowKit

set_option maxHeartbeats 400000 in
theorem w_FnExactConstants (w : World) :
    Calls Try.prog 3 #[] w fun e w' => e = .returned (.bool true) ∧ Below w.heap.size w w' := by
  go_enter Try.func3, Try.ntmps3
  go_wp2_with fail
  go_ret
  exact ⟨rfl, Below.refl _ _⟩
set_option maxHeartbeats 1000000 in
theorem w_FnExactGoodDyadic (t p : Int) (w : World) (_wt : (Lit.int .i64 t).wf = true) (_wp : (Lit.int .i64 p).wf = true) :
    Calls Try.prog 4 #[dv t p] w fun e w' => e = .returned (.bool true) ∧ Below w.heap.size w w' := by
  clear _wt _wp
  go_enter Try.func4, Try.ntmps4
  go_wp2_with fail
  refine (c_toDyadic _ _ _).mono ?_
  rintro e w1 ⟨rfl, b1⟩
  have c0 : w1.cell? ⟨w.heap.size, 0, none⟩ = some (.int .i64 t) := bkeep b1 _ _ (by simp)
  have c1 : w1.cell? ⟨w.heap.size, 1, none⟩ = some (.int .i64 p) := bkeep b1 _ _ (by simp)
  have b1' : Below w.heap.size w w1 := Below.next (by go_grown) b1
  clear b1
  go_wp2_with fail
  refine (s_GoodDyadic _ _ _).mono ?_
  rintro e w2 ⟨rfl, b2⟩
  have c0 : w2.cell? ⟨w.heap.size, 0, none⟩ = some (.int .i64 t) := bkeep b2 _ _ c0
  have c1 : w2.cell? ⟨w.heap.size, 1, none⟩ = some (.int .i64 p) := bkeep b2 _ _ c1
  have b2' : Below w.heap.size w w2 := Below.next b1' b2
  go_wp2_with fail
  refine (c_toDyadic _ _ _).mono ?_
  rintro e w3 ⟨rfl, b3⟩
  have b3' : Below w.heap.size w w3 := Below.next b2' b3
  go_wp2_with fail
  refine (c_GoodDyadic _ _ _).mono ?_
  rintro e w4 ⟨rfl, b4⟩
  have b4' : Below w.heap.size w w4 := Below.next b3' b4
  go_wp2_with fail
  go_ret
  exact ⟨rfl, b4'⟩
set_option maxHeartbeats 2000000 in
theorem w_FnExactNegDyadic (t p : Int) (w : World) (_wt : (Lit.int .i64 t).wf = true) (_wp : (Lit.int .i64 p).wf = true) :
    Calls Try.prog 5 #[dv t p] w fun e w' => e = .returned (.bool true) ∧ Below w.heap.size w w' := by
  clear _wt _wp
  go_enter Try.func5, Try.ntmps5
  go_wp2_with fail
  refine (c_toDyadic _ _ _).mono ?_
  rintro e w1 ⟨rfl, b1⟩
  have ca_0 : w1.cell? ⟨w.heap.size, 0, none⟩ = some (.int .i64 t) := bkeep b1 _ _ (by first | assumption | simp [go_sem, *])
  have ca_1 : w1.cell? ⟨w.heap.size, 1, none⟩ = some (.int .i64 p) := bkeep b1 _ _ (by first | assumption | simp [go_sem, *])
  have la : w.heap.size < w1.heap.size := lt_of_cell ca_0
  have B1 : Below w.heap.size w w1 := Below.next (by go_grown) b1
  go_wp2_with fail
  refine (s_NegDyadic _ _ _).mono ?_
  rintro e w2 ⟨rfl, b2⟩
  have ca_0 : w2.cell? ⟨w.heap.size, 0, none⟩ = some (.int .i64 t) := bkeep b2 _ _ (by first | assumption | simp [go_sem, *])
  have ca_1 : w2.cell? ⟨w.heap.size, 1, none⟩ = some (.int .i64 p) := bkeep b2 _ _ (by first | assumption | simp [go_sem, *])
  have la : w.heap.size < w2.heap.size := lt_of_cell ca_0
  have B2 : Below w.heap.size w w2 := Below.next (B1) b2
  obtain ⟨m, Hm⟩ : ∃ m, Hid (negV t p = m) := ⟨_, Lib.hid rfl⟩
  have Hm' := Hm
  obtain ⟨x, y, ok⟩ := m
  rw [Hm.out]
  have z2 : w.heap.size < w2.heap.size + 1 := by have := B2.size; omega
  go_wp2_with fail
  refine (c_toDyadic _ _ _).mono ?_
  rintro e w3 ⟨rfl, b3⟩
  have ca_0 : w3.cell? ⟨w.heap.size, 0, none⟩ = some (.int .i64 t) := bkeep b3 _ _ (by first | assumption | simp [go_sem, *])
  have ca_1 : w3.cell? ⟨w.heap.size, 1, none⟩ = some (.int .i64 p) := bkeep b3 _ _ (by first | assumption | simp [go_sem, *])
  have cw2h_0 : w3.cell? ⟨w2.heap.size, 0, none⟩ = some (.int .i64 x) := bkeep b3 _ _ (by first | assumption | simp [go_sem, *])
  have cw2h_1 : w3.cell? ⟨w2.heap.size, 1, none⟩ = some (.int .i64 y) := bkeep b3 _ _ (by first | assumption | simp [go_sem, *])
  have la : w.heap.size < w3.heap.size := lt_of_cell ca_0
  have lw2h : w2.heap.size < w3.heap.size := lt_of_cell cw2h_0
  have B3 : Below w.heap.size w w3 := Below.next (B2.alloc B2.size _) b3
  go_wp2_with fail
  refine (c_NegDyadic _ _ _).mono ?_
  rintro e w4 ⟨rfl, b4⟩
  have ca_0 : w4.cell? ⟨w.heap.size, 0, none⟩ = some (.int .i64 t) := bkeep b4 _ _ (by first | assumption | simp [go_sem, *])
  have ca_1 : w4.cell? ⟨w.heap.size, 1, none⟩ = some (.int .i64 p) := bkeep b4 _ _ (by first | assumption | simp [go_sem, *])
  have cw2h_0 : w4.cell? ⟨w2.heap.size, 0, none⟩ = some (.int .i64 x) := bkeep b4 _ _ (by first | assumption | simp [go_sem, *])
  have cw2h_1 : w4.cell? ⟨w2.heap.size, 1, none⟩ = some (.int .i64 y) := bkeep b4 _ _ (by first | assumption | simp [go_sem, *])
  have la : w.heap.size < w4.heap.size := lt_of_cell ca_0
  have lw2h : w2.heap.size < w4.heap.size := lt_of_cell cw2h_0
  have B4 : Below w.heap.size w w4 := Below.next (B3) b4
  rw [Hm.out]
  have z4 : w.heap.size < w4.heap.size + 1 := by have := B4.size; omega
  go_wp2_with fail
  refine (c_eqDyadic_same _ _ _).mono ?_
  rintro e w5 ⟨rfl, b5⟩
  have ca_0 : w5.cell? ⟨w.heap.size, 0, none⟩ = some (.int .i64 t) := bkeep b5 _ _ (by first | assumption | simp [go_sem, *])
  have ca_1 : w5.cell? ⟨w.heap.size, 1, none⟩ = some (.int .i64 p) := bkeep b5 _ _ (by first | assumption | simp [go_sem, *])
  have cw2h_0 : w5.cell? ⟨w2.heap.size, 0, none⟩ = some (.int .i64 x) := bkeep b5 _ _ (by first | assumption | simp [go_sem, *])
  have cw2h_1 : w5.cell? ⟨w2.heap.size, 1, none⟩ = some (.int .i64 y) := bkeep b5 _ _ (by first | assumption | simp [go_sem, *])
  have cw4h_0 : w5.cell? ⟨w4.heap.size, 0, none⟩ = some (.int .i64 x) := bkeep b5 _ _ (by first | assumption | simp [go_sem, *])
  have cw4h_1 : w5.cell? ⟨w4.heap.size, 1, none⟩ = some (.int .i64 y) := bkeep b5 _ _ (by first | assumption | simp [go_sem, *])
  have la : w.heap.size < w5.heap.size := lt_of_cell ca_0
  have lw2h : w2.heap.size < w5.heap.size := lt_of_cell cw2h_0
  have lw4h : w4.heap.size < w5.heap.size := lt_of_cell cw4h_0
  have B5 : Below w.heap.size w w5 := Below.next (B4.alloc B4.size _) b5
  go_wp2_with fail
  go_ret
  exact ⟨rfl, B5⟩
set_option maxHeartbeats 2000000 in
theorem w_FnExactBornOfDyadic (t p : Int) (w : World) (_wt : (Lit.int .i64 t).wf = true) (_wp : (Lit.int .i64 p).wf = true) :
    Calls Try.prog 6 #[dv t p] w fun e w' => e = .returned (.bool true) ∧ Below w.heap.size w w' := by
  clear _wt _wp
  go_enter Try.func6, Try.ntmps6
  go_wp2_with fail
  refine (c_toDyadic _ _ _).mono ?_
  rintro e w1 ⟨rfl, b1⟩
  have ca_0 : w1.cell? ⟨w.heap.size, 0, none⟩ = some (.int .i64 t) := bkeep b1 _ _ (by first | assumption | simp [go_sem, *])
  have ca_1 : w1.cell? ⟨w.heap.size, 1, none⟩ = some (.int .i64 p) := bkeep b1 _ _ (by first | assumption | simp [go_sem, *])
  have la : w.heap.size < w1.heap.size := lt_of_cell ca_0
  have B1 : Below w.heap.size w w1 := Below.next (by go_grown) b1
  go_wp2_with fail
  refine (s_BornOfDyadic _ _ _).mono ?_
  rintro e w2 ⟨rfl, b2⟩
  have ca_0 : w2.cell? ⟨w.heap.size, 0, none⟩ = some (.int .i64 t) := bkeep b2 _ _ (by first | assumption | simp [go_sem, *])
  have ca_1 : w2.cell? ⟨w.heap.size, 1, none⟩ = some (.int .i64 p) := bkeep b2 _ _ (by first | assumption | simp [go_sem, *])
  have la : w.heap.size < w2.heap.size := lt_of_cell ca_0
  have B2 : Below w.heap.size w w2 := Below.next (B1) b2
  obtain ⟨m, Hm⟩ : ∃ m, Hid (bornV t p = m) := ⟨_, Lib.hid rfl⟩
  have Hm' := Hm
  obtain ⟨x, ok⟩ := m
  rw [Hm.out]
  go_wp2_with fail
  refine (c_toDyadic _ _ _).mono ?_
  rintro e w3 ⟨rfl, b3⟩
  have ca_0 : w3.cell? ⟨w.heap.size, 0, none⟩ = some (.int .i64 t) := bkeep b3 _ _ (by first | assumption | simp [go_sem, *])
  have ca_1 : w3.cell? ⟨w.heap.size, 1, none⟩ = some (.int .i64 p) := bkeep b3 _ _ (by first | assumption | simp [go_sem, *])
  have la : w.heap.size < w3.heap.size := lt_of_cell ca_0
  have B3 : Below w.heap.size w w3 := Below.next (B2) b3
  go_wp2_with fail
  refine (c_BornOfDyadic _ _ _).mono ?_
  rintro e w4 ⟨rfl, b4⟩
  have ca_0 : w4.cell? ⟨w.heap.size, 0, none⟩ = some (.int .i64 t) := bkeep b4 _ _ (by first | assumption | simp [go_sem, *])
  have ca_1 : w4.cell? ⟨w.heap.size, 1, none⟩ = some (.int .i64 p) := bkeep b4 _ _ (by first | assumption | simp [go_sem, *])
  have la : w.heap.size < w4.heap.size := lt_of_cell ca_0
  have B4 : Below w.heap.size w w4 := Below.next (B3) b4
  rw [Hm.out]
  go_wp2_with fail
  go_ret
  exact ⟨rfl, B4⟩
set_option maxHeartbeats 2000000 in
theorem w_FnExactMakeDyadic (t p : Int) (w : World) (_wt : (Lit.int .i64 t).wf = true) (_wp : (Lit.int .i64 p).wf = true) :
    Calls Try.prog 7 #[.int .i64 t, .int .i64 p] w fun e w' => e = .returned (.bool true) ∧ Below w.heap.size w w' := by
  clear _wt _wp
  go_enter Try.func7, Try.ntmps7
  go_wp2_with fail
  refine (s_MakeDyadic _ _ _).mono ?_
  rintro e w1 ⟨rfl, b1⟩
  have B1 : Below w.heap.size w w1 := Below.next (by go_grown) b1
  obtain ⟨m, Hm⟩ : ∃ m, Hid (makeV t p = m) := ⟨_, Lib.hid rfl⟩
  have Hm' := Hm
  obtain ⟨x, y, ok⟩ := m
  rw [Hm.out]
  have z1 : w.heap.size < w1.heap.size + 1 := by have := B1.size; omega
  go_wp2_with fail
  refine (c_MakeDyadic _ _ _).mono ?_
  rintro e w2 ⟨rfl, b2⟩
  have cw1h_0 : w2.cell? ⟨w1.heap.size, 0, none⟩ = some (.int .i64 x) := bkeep b2 _ _ (by first | assumption | simp [go_sem, *])
  have cw1h_1 : w2.cell? ⟨w1.heap.size, 1, none⟩ = some (.int .i64 y) := bkeep b2 _ _ (by first | assumption | simp [go_sem, *])
  have lw1h : w1.heap.size < w2.heap.size := lt_of_cell cw1h_0
  have B2 : Below w.heap.size w w2 := Below.next (B1.alloc B1.size _) b2
  rw [Hm.out]
  have z2 : w.heap.size < w2.heap.size + 1 := by have := B2.size; omega
  go_wp2_with fail
  refine (c_eqDyadic_same _ _ _).mono ?_
  rintro e w3 ⟨rfl, b3⟩
  have cw1h_0 : w3.cell? ⟨w1.heap.size, 0, none⟩ = some (.int .i64 x) := bkeep b3 _ _ (by first | assumption | simp [go_sem, *])
  have cw1h_1 : w3.cell? ⟨w1.heap.size, 1, none⟩ = some (.int .i64 y) := bkeep b3 _ _ (by first | assumption | simp [go_sem, *])
  have cw2h_0 : w3.cell? ⟨w2.heap.size, 0, none⟩ = some (.int .i64 x) := bkeep b3 _ _ (by first | assumption | simp [go_sem, *])
  have cw2h_1 : w3.cell? ⟨w2.heap.size, 1, none⟩ = some (.int .i64 y) := bkeep b3 _ _ (by first | assumption | simp [go_sem, *])
  have lw1h : w1.heap.size < w3.heap.size := lt_of_cell cw1h_0
  have lw2h : w2.heap.size < w3.heap.size := lt_of_cell cw2h_0
  have B3 : Below w.heap.size w w3 := Below.next (B2.alloc B2.size _) b3
  go_wp2_with fail
  go_ret
  exact ⟨rfl, B3⟩
set_option maxHeartbeats 2000000 in
theorem w_FnExactHalfOf (t p : Int) (w : World) (_wt : (Lit.int .i64 t).wf = true) (_wp : (Lit.int .i64 p).wf = true) :
    Calls Try.prog 8 #[dv t p] w fun e w' => e = .returned (.bool true) ∧ Below w.heap.size w w' := by
  clear _wt _wp
  go_enter Try.func8, Try.ntmps8
  go_wp2_with fail
  refine (c_toDyadic _ _ _).mono ?_
  rintro e w1 ⟨rfl, b1⟩
  have ca_0 : w1.cell? ⟨w.heap.size, 0, none⟩ = some (.int .i64 t) := bkeep b1 _ _ (by first | assumption | simp [go_sem, *])
  have ca_1 : w1.cell? ⟨w.heap.size, 1, none⟩ = some (.int .i64 p) := bkeep b1 _ _ (by first | assumption | simp [go_sem, *])
  have la : w.heap.size < w1.heap.size := lt_of_cell ca_0
  have B1 : Below w.heap.size w w1 := Below.next (by go_grown) b1
  go_wp2_with fail
  refine (s_HalfOf _ _ _).mono ?_
  rintro e w2 ⟨rfl, b2⟩
  have ca_0 : w2.cell? ⟨w.heap.size, 0, none⟩ = some (.int .i64 t) := bkeep b2 _ _ (by first | assumption | simp [go_sem, *])
  have ca_1 : w2.cell? ⟨w.heap.size, 1, none⟩ = some (.int .i64 p) := bkeep b2 _ _ (by first | assumption | simp [go_sem, *])
  have la : w.heap.size < w2.heap.size := lt_of_cell ca_0
  have B2 : Below w.heap.size w w2 := Below.next (B1) b2
  obtain ⟨m, Hm⟩ : ∃ m, Hid (halfV t p = m) := ⟨_, Lib.hid rfl⟩
  have Hm' := Hm
  obtain ⟨x, y, ok⟩ := m
  rw [Hm.out]
  have z2 : w.heap.size < w2.heap.size + 1 := by have := B2.size; omega
  go_wp2_with fail
  refine (c_toDyadic _ _ _).mono ?_
  rintro e w3 ⟨rfl, b3⟩
  have ca_0 : w3.cell? ⟨w.heap.size, 0, none⟩ = some (.int .i64 t) := bkeep b3 _ _ (by first | assumption | simp [go_sem, *])
  have ca_1 : w3.cell? ⟨w.heap.size, 1, none⟩ = some (.int .i64 p) := bkeep b3 _ _ (by first | assumption | simp [go_sem, *])
  have cw2h_0 : w3.cell? ⟨w2.heap.size, 0, none⟩ = some (.int .i64 x) := bkeep b3 _ _ (by first | assumption | simp [go_sem, *])
  have cw2h_1 : w3.cell? ⟨w2.heap.size, 1, none⟩ = some (.int .i64 y) := bkeep b3 _ _ (by first | assumption | simp [go_sem, *])
  have la : w.heap.size < w3.heap.size := lt_of_cell ca_0
  have lw2h : w2.heap.size < w3.heap.size := lt_of_cell cw2h_0
  have B3 : Below w.heap.size w w3 := Below.next (B2.alloc B2.size _) b3
  go_wp2_with fail
  refine (c_HalfOf _ _ _).mono ?_
  rintro e w4 ⟨rfl, b4⟩
  have ca_0 : w4.cell? ⟨w.heap.size, 0, none⟩ = some (.int .i64 t) := bkeep b4 _ _ (by first | assumption | simp [go_sem, *])
  have ca_1 : w4.cell? ⟨w.heap.size, 1, none⟩ = some (.int .i64 p) := bkeep b4 _ _ (by first | assumption | simp [go_sem, *])
  have cw2h_0 : w4.cell? ⟨w2.heap.size, 0, none⟩ = some (.int .i64 x) := bkeep b4 _ _ (by first | assumption | simp [go_sem, *])
  have cw2h_1 : w4.cell? ⟨w2.heap.size, 1, none⟩ = some (.int .i64 y) := bkeep b4 _ _ (by first | assumption | simp [go_sem, *])
  have la : w.heap.size < w4.heap.size := lt_of_cell ca_0
  have lw2h : w2.heap.size < w4.heap.size := lt_of_cell cw2h_0
  have B4 : Below w.heap.size w w4 := Below.next (B3) b4
  rw [Hm.out]
  have z4 : w.heap.size < w4.heap.size + 1 := by have := B4.size; omega
  go_wp2_with fail
  refine (c_eqDyadic_same _ _ _).mono ?_
  rintro e w5 ⟨rfl, b5⟩
  have ca_0 : w5.cell? ⟨w.heap.size, 0, none⟩ = some (.int .i64 t) := bkeep b5 _ _ (by first | assumption | simp [go_sem, *])
  have ca_1 : w5.cell? ⟨w.heap.size, 1, none⟩ = some (.int .i64 p) := bkeep b5 _ _ (by first | assumption | simp [go_sem, *])
  have cw2h_0 : w5.cell? ⟨w2.heap.size, 0, none⟩ = some (.int .i64 x) := bkeep b5 _ _ (by first | assumption | simp [go_sem, *])
  have cw2h_1 : w5.cell? ⟨w2.heap.size, 1, none⟩ = some (.int .i64 y) := bkeep b5 _ _ (by first | assumption | simp [go_sem, *])
  have cw4h_0 : w5.cell? ⟨w4.heap.size, 0, none⟩ = some (.int .i64 x) := bkeep b5 _ _ (by first | assumption | simp [go_sem, *])
  have cw4h_1 : w5.cell? ⟨w4.heap.size, 1, none⟩ = some (.int .i64 y) := bkeep b5 _ _ (by first | assumption | simp [go_sem, *])
  have la : w.heap.size < w5.heap.size := lt_of_cell ca_0
  have lw2h : w2.heap.size < w5.heap.size := lt_of_cell cw2h_0
  have lw4h : w4.heap.size < w5.heap.size := lt_of_cell cw4h_0
  have B5 : Below w.heap.size w w5 := Below.next (B4.alloc B4.size _) b5
  go_wp2_with fail
  go_ret
  exact ⟨rfl, B5⟩

set_option maxHeartbeats 2000000 in
theorem w_FnExactCompareDyadic (t p u q : Int) (w : World) (_wt : (Lit.int .i64 t).wf = true) (_wp : (Lit.int .i64 p).wf = true) (_wu : (Lit.int .i64 u).wf = true) (_wq : (Lit.int .i64 q).wf = true) :
    Calls Try.prog 9 #[dv t p, dv u q] w fun e w' => e = .returned (.bool true) ∧ Below w.heap.size w w' := by
  clear _wt _wp _wu _wq
  obtain ⟨m, Hm⟩ : ∃ m, Hid (cmpV t p u q = m) := ⟨_, Lib.hid rfl⟩
  obtain ⟨x, ok⟩ := m
  go_enter Try.func9, Try.ntmps9
  go_wp2_with fail
  go_region_held3 (fun w' => w'.cell? ⟨w.heap.size, 0, none⟩ = some (.int .i64 t) ∧ w'.cell? ⟨w.heap.size, 1, none⟩ = some (.int .i64 p) ∧ w'.cell? ⟨w.heap.size + 1, 0, none⟩ = some (.int .i64 u) ∧ w'.cell? ⟨w.heap.size + 1, 1, none⟩ = some (.int .i64 q)) (go_keep)
    (first | (go_at_call 16; refine (c_toDyadic _ _ _).mono ?_; rintro e w' ⟨rfl, b⟩; have hk := bkeep b) | (go_at_call 27; refine (s_CompareDyadic _ _ _ _ _).mono ?_; rintro e w' ⟨rfl, b⟩; have hk := bkeep b; rw [Hm.out]))
  rename_i wa ba hka wb bb hkb w1 b1 hk1
  obtain ⟨W, hW⟩ : ∃ W, W = w' := ⟨_, rfl⟩
  have B1 : Below w.heap.size w w' := by
    refine Below.next ?_ (by assumption)
    refine Below.next ?_ (by assumption)
    refine Below.next ?_ (by assumption)
    go_grown
  clear hW W
  go_wp2_with fail
  go_region_held3 (fun w' => w'.cell? ⟨w.heap.size, 0, none⟩ = some (.int .i64 t) ∧ w'.cell? ⟨w.heap.size, 1, none⟩ = some (.int .i64 p) ∧ w'.cell? ⟨w.heap.size + 1, 0, none⟩ = some (.int .i64 u) ∧ w'.cell? ⟨w.heap.size + 1, 1, none⟩ = some (.int .i64 q)) (go_keep)
    (first | (go_at_call 16; refine (c_toDyadic _ _ _).mono ?_; rintro e w'' ⟨rfl, b⟩; have hk := bkeep b) | (go_at_call 28; refine (c_CompareDyadic _ _ _ _ _).mono ?_; rintro e w'' ⟨rfl, b⟩; have hk := bkeep b; rw [Hm.out]))
  have B2 : Below w.heap.size w w'' := by
    refine Below.next ?_ (by assumption)
    refine Below.next ?_ (by assumption)
    refine Below.next ?_ (by assumption)
    exact B1.drew
  go_wp2_with fail
  go_ret
  exact ⟨rfl, B2⟩
end Go.Proofs.Ytbfabnpcahinfaa
