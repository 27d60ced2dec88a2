/- Contracts: negating, halving, making, comparing and adding dyadic numbers. -/
import Derived.Test.YtcogdogiceokdaaDyB
import Derived.Deep.RegionHeld3
namespace Go.Proofs.Ytcogdogiceokdaa
open Go.RowKit

def negV (t p : Int) : Int × Int × Bool := if gd t p then (-t, p, true) else (0, 0, false)

set_option maxHeartbeats 400000 in
theorem s_l2Neg (t p : Int) (w : World) (h1 : -1000001 ≤ t) (h2 : t ≤ 1000001) :
    Calls Try.prog 57 #[dv t p] w fun e w' => e = .returned (dv (-t) p) ∧ Below w.heap.size w w' := by
  go_enter Try.func57, Try.ntmps57
  go_wp2
  exact bodyPost_ret (v := dv (-t) p) (by simp [results, Try.results57, go_sem]) rfl ⟨rfl, by go_grown⟩

set_option maxHeartbeats 1000000 in
theorem s_l2Less (t p u q : Int) (w : World) (h1 : -1000001 ≤ t) (h2 : t ≤ 1000001) (h3 : 0 ≤ p) (h4 : p ≤ 16) (k1 : -1000001 ≤ u) (k2 : u ≤ 1000001) (k3 : 0 ≤ q) (k4 : q ≤ 16) :
    Calls Try.prog 44 #[dv t p, dv u q] w fun e w' => e = .returned (.bool (decide (sc 24 t p < sc 24 u q))) ∧ Below w.heap.size w w' := by
  go_enter Try.func44, Try.ntmps44
  go_wp2_with fail
  go_region_held3 (fun w' => w'.cell? ⟨w.heap.size, 0, none⟩ = some (.int .i64 t) ∧ w'.cell? ⟨w.heap.size, 1, none⟩ = some (.int .i64 p) ∧ w'.cell? ⟨w.heap.size + 1, 0, none⟩ = some (.int .i64 u) ∧ w'.cell? ⟨w.heap.size + 1, 1, none⟩ = some (.int .i64 q)) (go_keep)
    (first | (go_at_call 55; refine (s_l2Scaled _ _ _ (by assumption) (by assumption) (by assumption) (by assumption)).mono ?_; rintro e w' ⟨rfl, b⟩; have hk := bkeep b))
  all_goals
    go_wp2_with fail
    go_ret
    refine ⟨rfl, ?_⟩
    refine Below.next ?_ (by assumption)
    refine Below.next ?_ (by assumption)
    go_grown
end Go.Proofs.Ytcogdogiceokdaa
