/- Forms: their sizes. -/
import Derived.Test.YtcogdogiceokdaaDoorFmA
import Derived.Deep.LoopGhost
namespace Go.Proofs.YtcogdogiceokdaaDoor
open Go.RowKit

def El.tot (e : El) : Nat := (e.rs.map fun r => r.xs.length).sum
def tots (es : List El) : Nat := (es.map El.tot).sum
theorem tots_succ {es : List El} {k : Nat} {e : El} (h : es[k]? = some e) : tots (es.take (k + 1)) = tots (es.take k) + e.tot := by
  obtain ⟨hk, he⟩ := List.getElem?_eq_some_iff.1 h
  unfold tots
  rw [List.take_succ_eq_append_getElem hk, he]
  simp
theorem tots_mem {es : List El} {e : El} (h : e ∈ es) : e.tot ≤ tots es := by
  unfold tots
  induction es with
  | nil => simp at h
  | cons a l ih =>
    rw [List.map_cons, List.sum_cons]
    rcases List.mem_cons.1 h with rfl | h
    · omega
    · have := ih h; omega
theorem El.tot_mem {e : El} {r : Row} (h : r ∈ e.rs) : r.xs.length ≤ e.tot := by
  unfold El.tot
  generalize e.rs = l at h
  induction l with
  | nil => simp at h
  | cons a l ih =>
    rw [List.map_cons, List.sum_cons]
    rcases List.mem_cons.1 h with rfl | h
    · omega
    · have := ih h; omega
set_option maxHeartbeats 800000 in
theorem c_szIntS (A : Option Addr) (n c : Nat) (left : Int) (w : World) (h0 : 0 ≤ left) (h1 : left ≤ 1048576) (hn : n ≤ maxLen) :
    Calls Tryd.prog 47 #[.slice A n c, .int .i64 left] w fun e w' => e = .returned (.int .i64 (if left < (n : Int) then -1 else left - (n : Int))) ∧ w = w' := by
  unfold maxLen at hn
  by_cases h : left < (n : Int)
  · rw [if_pos h]
    go_enter Tryd.func47, Tryd.ntmps47
    have h2 : left - (n : Int) < 0 := by omega
    go_wp2_with fail
    go_ret
    exact ⟨rfl, rfl⟩
  · rw [if_neg h]
    go_enter Tryd.func47, Tryd.ntmps47
    have h2 : ¬ left - (n : Int) < 0 := by omega
    go_wp2_with fail
    go_ret
    exact ⟨rfl, rfl⟩
/-- What is left of a size. -/
def SizeP (left : Int) (t : Nat) (w : World) (e : Ending) (w' : World) : Prop := ∃ x : Int, e = .returned (.int .i64 x) ∧ (x = -1 ∨ (0 ≤ x ∧ x + (t : Int) = left)) ∧ Below w.heap.size w w'
end Go.Proofs.YtcogdogiceokdaaDoor
