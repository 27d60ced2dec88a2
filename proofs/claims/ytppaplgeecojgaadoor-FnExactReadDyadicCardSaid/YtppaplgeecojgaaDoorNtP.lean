/- The walk of the exact law over ReadDyadic. -/
import Derived.Test.YtppaplgeecojgaaDoorNtO
namespace Go.Proofs.YtppaplgeecojgaaDoor
open Go.RowKit

set_option maxHeartbeats 1600000 in
theorem w_FnExactReadDyadic (s : ByteArray) (w : World) (hs : s.size ≤ maxLen) (ht : Tab w) (hr : RngV w) (hv : SynV w) :
    Calls Tryd.prog 9 #[.string s] w fun e w' => e = .returned (.bool true) ∧ Below w.heap.size w w' := by
  unfold maxLen at hs
  by_cases hn : s.size ≤ 1048576
  · have hc : ¬ (1048576 : Int) < (s.size : Int) := by omega
    have HS := Lib.hid (fun w => s_ReadDyadic s w hn)
    have HC := Lib.hid (fun w => c_ReadDyadic s w)
    go_enter Tryd.func9, Tryd.ntmps9
    go_wp2_with fail
    refine (HS.out _).mono ?_
    rintro e w1 ⟨t, p, ok, rfl, r1, b1⟩
    have ht1 := ht.below b1
    have hv1 := hv.below b1
    have hr1 := hr.below b1
    have R1 := Lib.hid r1
    clear r1
    go_wp2_with fail
    have ba : Below w1.heap.size w1 (w1.alloc (.cells #[.int .i64 t, .int .i64 p] 37)) := by go_grown
    have x0 : (w1.alloc (.cells #[.int .i64 t, .int .i64 p] 37)).cell? ⟨w1.heap.size, 0, none⟩ = some (.int .i64 t) := by simp [go_sem]
    have x1 : (w1.alloc (.cells #[.int .i64 t, .int .i64 p] 37)).cell? ⟨w1.heap.size, 1, none⟩ = some (.int .i64 p) := by simp [go_sem]
    refine (HC.out _ (ht1.below ba) (hv1.below ba) (hr1.below ba)).mono ?_
    rintro e w2 ⟨t', p', ok', rfl, r2, b2⟩
    obtain ⟨rfl, rfl, rfl⟩ := R1.out.same r2
    have y0 := bkeep b2 _ _ x0
    have y1 := bkeep b2 _ _ x1
    have la : w1.heap.size < w2.heap.size := cell_lt y0
    have q0 := alloc_keep (.cells #[.int .i64 t, .int .i64 p] 37) y0
    have q1 := alloc_keep (.cells #[.int .i64 t, .int .i64 p] 37) y1
    have b3 := Below.next b1 (Below.next ba b2)
    clear r2 b2 x0 x1 ba
    go_wp2_with fail
    refine (c_eqDyadic_same _ _ _).mono ?_
    rintro e w4 ⟨rfl, b4⟩
    have b5 := Below.next (Below.next b3 (by go_grown)) b4
    go_wp2_with fail
    go_ret
    exact ⟨rfl, b5⟩
  · have hc : (1048576 : Int) < (s.size : Int) := by omega
    go_enter Tryd.func9, Tryd.ntmps9
    go_wp2_with fail
    go_ret
    exact ⟨rfl, Below.refl _ _⟩
end Go.Proofs.YtppaplgeecojgaaDoor
