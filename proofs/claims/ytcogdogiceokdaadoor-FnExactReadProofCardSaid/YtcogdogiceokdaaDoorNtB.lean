/- Numbers' texts by the program (strconv.Itoa); the walk of the law on NumText. -/
import Derived.Test.YtcogdogiceokdaaDoorNtA
import Derived.Lib.AppendIntMem
import Derived.Lib.SmallJoins
namespace Go.Proofs.YtcogdogiceokdaaDoor
open Go.RowKit

/-- The library's table of powers of ten, as it is laid. -/
def Tab (w : World) : Prop := Lib.TabIs Tryd.prog w "internal/strconv.uint64pow10" .u64 Lib.pow10Tab
theorem g_pow10 : Tryd.prog.globalNamed "internal/strconv.uint64pow10" = some 0 := by kernel_rfl
theorem Tab.below {w w' : World} (h : Tab w) (hb : Below w.heap.size w w') : Tab w' := Joins.tab_stays g_pow10 h hb (Nat.le_refl _)
theorem c_Itoa (n : Int) (w : World) (h : Tab w) (h0 : -9223372036854775808 ≤ n) (h1 : n ≤ 9223372036854775807) :
    Calls Tryd.prog 19 #[.int .i64 n] w fun e w' => e = .returned (.string (strOfNums (numB n))) ∧ Below w.heap.size w w' :=
  (Tryd.strconv_Itoa n h0 h1 w h).mono fun e w' ⟨he, k, os, hw⟩ => ⟨by rw [he, numB_itoa], by subst hw; exact Lib.below_grow _ w (Nat.le_refl _) k os⟩
set_option maxHeartbeats 800000 in
theorem c_NumText (n : Int) (w : World) (ht : Tab w) : Calls Tryd.prog 58 #[.int .i64 n] w fun e w' => e = .returned (tv (numT n)) ∧ Below w.heap.size w w' := by
  by_cases h1 : n < -999999
  · have fin : Hid (numT n = (ByteArray.empty, false)) := Lib.hid (by unfold numT; rw [if_neg]; simp; omega)
    go_enter Tryd.func58, Tryd.ntmps58
    go_wp2_with fail
    go_ret2
    exact ⟨ret_tv fin.out, Below.refl _ _⟩
  · by_cases h2 : 999999 < n
    · have fin : Hid (numT n = (ByteArray.empty, false)) := Lib.hid (by unfold numT; rw [if_neg]; simp; omega)
      go_enter Tryd.func58, Tryd.ntmps58
      go_wp2_with fail
      go_ret2
      exact ⟨ret_tv fin.out, Below.refl _ _⟩
    · have fin : Hid (numT n = (strOfNums (numB n), true)) := Lib.hid (by unfold numT; rw [if_pos]; simp; omega)
      have HI := Lib.hid (fun w h => c_Itoa n w h (by omega) (by omega))
      go_enter Tryd.func58, Tryd.ntmps58
      go_wp2_with fail
      refine (HI.out _ ht).mono ?_
      rintro e w1 ⟨rfl, b⟩
      go_wp2_with fail
      go_ret2
      exact ⟨ret_tv fin.out, b⟩
end Go.Proofs.YtcogdogiceokdaaDoor
