/- Contracts: negating, halving, making, comparing and adding dyadic numbers. -/
import Derived.Test.YtbfabnpcahinfaaDyB
import Derived.Deep.RegionHeld3
namespace Go.Proofs.Ytbfabnpcahinfaa
open Go.RowKit

theorem ret_rv {a b : Int} {c : Bool} {m : Int × Int × Bool} (h : m = (a, b, c)) : Ending.returned (.tuple #[dv a b, .bool c]) = .returned (rv m) := by rw [h]
def negV (t p : Int) : Int × Int × Bool := if gd t p then (-t, p, true) else (0, 0, false)

set_option maxHeartbeats 1000000 in
theorem c_NegDyadic (t p : Int) (w : World) :
    Calls Try.prog 19 #[dv t p] w fun e w' => e = .returned (rv (negV t p)) ∧ Below w.heap.size w w' := by
  cases hg : gd t p
  · have fin : Hid (negV t p = (0, 0, false)) := Lib.hid (by simp [negV, hg])
    go_enter Try.func19, Try.ntmps19
    go_wp2_with fail
    refine (c_GoodDyadic _ _ _).mono ?_
    rintro e w1 ⟨rfl, b1⟩
    obtain ⟨hc, hf⟩ := bcell b1
    have k0 : w1.cell? ⟨w.heap.size + 1, 0, none⟩ = some (.int .i64 0) := bkeep b1 _ _ (by simp)
    have k1 : w1.cell? ⟨w.heap.size + 1, 1, none⟩ = some (.int .i64 0) := bkeep b1 _ _ (by simp)
    have b2 : Below w.heap.size w w1 := Below.next (by go_grown) b1
    go_wp2_with fail
    exact bodyPost_ret (res_rv _ _ rfl rfl rfl (two_set k0 k1).1 (two_set k0 k1).2) rfl ⟨ret_rv fin.out, (b2.setCell (by simp) _).setCell (by simp) _⟩
  · have fin : Hid (negV t p = (-t, p, true)) := Lib.hid (by simp [negV, hg])
    obtain ⟨h1, h2, h3, h4⟩ := gd_rng hg
    go_enter Try.func19, Try.ntmps19
    go_wp2_with fail
    refine (c_GoodDyadic _ _ _).mono ?_
    rintro e w1 ⟨rfl, b1⟩
    obtain ⟨hc, hf⟩ := bcell b1
    have c0 : w1.cell? ⟨w.heap.size, 0, none⟩ = some (.int .i64 t) := bkeep b1 _ _ (by simp)
    have c1 : w1.cell? ⟨w.heap.size, 1, none⟩ = some (.int .i64 p) := bkeep b1 _ _ (by simp)
    have k0 : w1.cell? ⟨w.heap.size + 1, 0, none⟩ = some (.int .i64 0) := bkeep b1 _ _ (by simp)
    have k1 : w1.cell? ⟨w.heap.size + 1, 1, none⟩ = some (.int .i64 0) := bkeep b1 _ _ (by simp)
    have b2 : Below w.heap.size w w1 := Below.next (by go_grown) b1
    go_wp2_with fail
    exact bodyPost_ret (res_rv _ _ rfl rfl rfl (two_set k0 k1).1 (two_set k0 k1).2) rfl ⟨ret_rv fin.out, (b2.setCell (by simp) _).setCell (by simp) _⟩
set_option maxHeartbeats 400000 in
theorem s_l2Neg (t p : Int) (w : World) (h1 : -1000001 ≤ t) (h2 : t ≤ 1000001) :
    Calls Try.prog 44 #[dv t p] w fun e w' => e = .returned (dv (-t) p) ∧ Below w.heap.size w w' := by
  go_enter Try.func44, Try.ntmps44
  go_wp2
  exact bodyPost_ret (v := dv (-t) p) (by simp [results, Try.results44, go_sem]) rfl ⟨rfl, by go_grown⟩
set_option maxHeartbeats 1000000 in
theorem s_NegDyadic (t p : Int) (w : World) :
    Calls Try.prog 18 #[dv t p] w fun e w' => e = .returned (rv (negV t p)) ∧ Below w.heap.size w w' := by
  cases hg : gd t p
  · have fin : Hid (negV t p = (0, 0, false)) := Lib.hid (by simp [negV, hg])
    go_enter Try.func18, Try.ntmps18
    go_wp2_with fail
    refine (s_l2Good _ _ _).mono ?_
    rintro e w1 ⟨rfl, b1⟩
    obtain ⟨hc, hf⟩ := bcell b1
    have k0 : w1.cell? ⟨w.heap.size + 1, 0, none⟩ = some (.int .i64 0) := bkeep b1 _ _ (by simp)
    have k1 : w1.cell? ⟨w.heap.size + 1, 1, none⟩ = some (.int .i64 0) := bkeep b1 _ _ (by simp)
    have b2 : Below w.heap.size w w1 := Below.next (by go_grown) b1
    go_wp2_with fail
    exact bodyPost_ret (res_rv _ _ rfl rfl rfl (two_set k0 k1).1 (two_set k0 k1).2) rfl ⟨ret_rv fin.out, (b2.setCell (by simp) _).setCell (by simp) _⟩
  · have fin : Hid (negV t p = (-t, p, true)) := Lib.hid (by simp [negV, hg])
    obtain ⟨h1, h2, h3, h4⟩ := gd_rng hg
    go_enter Try.func18, Try.ntmps18
    go_wp2_with fail
    refine (s_l2Good _ _ _).mono ?_
    rintro e w1 ⟨rfl, b1⟩
    have c0 : w1.cell? ⟨w.heap.size, 0, none⟩ = some (.int .i64 t) := bkeep b1 _ _ (by simp)
    have c1 : w1.cell? ⟨w.heap.size, 1, none⟩ = some (.int .i64 p) := bkeep b1 _ _ (by simp)
    have k0 : w1.cell? ⟨w.heap.size + 1, 0, none⟩ = some (.int .i64 0) := bkeep b1 _ _ (by simp)
    have k1 : w1.cell? ⟨w.heap.size + 1, 1, none⟩ = some (.int .i64 0) := bkeep b1 _ _ (by simp)
    have f0 : ∀ o, w1.frozen? ⟨w.heap.size + 1, o, none⟩ = false := fun o => ((bcell b1).2 _ _ (by simp)).trans (by simp)
    have b2 : Below w.heap.size w w1 := Below.next (by go_grown) b1
    go_wp2_with fail
    refine (s_l2Neg _ _ _ (by omega) (by omega)).mono ?_
    rintro e w2 ⟨rfl, b3⟩
    have k0' : w2.cell? ⟨w.heap.size + 1, 0, none⟩ = some (.int .i64 0) := bkeep b3 _ _ k0
    have k1' : w2.cell? ⟨w.heap.size + 1, 1, none⟩ = some (.int .i64 0) := bkeep b3 _ _ k1
    have f0' : ∀ o, w2.frozen? ⟨w.heap.size + 1, o, none⟩ = false := fun o => ((bcell b3).2 _ _ (cell_lt k0)).trans (f0 o)
    clear c0 c1 k0 k1 f0
    go_wp2_with fail
    exact bodyPost_ret (res_rv _ _ rfl rfl rfl (two_set k0' k1').1 (two_set k0' k1').2) rfl ⟨ret_rv fin.out, (((Below.next b2 b3).setCell (by simp) _).setCell (by simp) _)⟩

set_option maxHeartbeats 1000000 in
theorem s_l2Less (t p u q : Int) (w : World) (h1 : -1000001 ≤ t) (h2 : t ≤ 1000001) (h3 : 0 ≤ p) (h4 : p ≤ 16) (k1 : -1000001 ≤ u) (k2 : u ≤ 1000001) (k3 : 0 ≤ q) (k4 : q ≤ 16) :
    Calls Try.prog 50 #[dv t p, dv u q] w fun e w' => e = .returned (.bool (decide (sc 24 t p < sc 24 u q))) ∧ Below w.heap.size w w' := by
  go_enter Try.func50, Try.ntmps50
  go_wp2_with fail
  go_region_held3 (fun w' => w'.cell? ⟨w.heap.size, 0, none⟩ = some (.int .i64 t) ∧ w'.cell? ⟨w.heap.size, 1, none⟩ = some (.int .i64 p) ∧ w'.cell? ⟨w.heap.size + 1, 0, none⟩ = some (.int .i64 u) ∧ w'.cell? ⟨w.heap.size + 1, 1, none⟩ = some (.int .i64 q)) (go_keep)
    (first | (go_at_call 63; refine (s_l2Scaled _ _ _ (by assumption) (by assumption) (by assumption) (by assumption)).mono ?_; rintro e w' ⟨rfl, b⟩; have hk := bkeep b))
  all_goals
    go_wp2_with fail
    go_ret
    refine ⟨rfl, ?_⟩
    refine Below.next ?_ (by assumption)
    refine Below.next ?_ (by assumption)
    go_grown
end Go.Proofs.Ytbfabnpcahinfaa
