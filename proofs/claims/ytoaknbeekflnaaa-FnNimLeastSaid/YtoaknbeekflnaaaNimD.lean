/- The walks of the laws over single nimbers. -/
import Derived.Test.YtoaknbeekflnaaaNimC
namespace Go.Proofs.Ytoaknbeekflnaaa
open Go.RowKit

set_option maxHeartbeats 400000 in
theorem w_FnExactNimSum (a b : Int) (w : World) (_wa : (Lit.int .i64 a).wf = true) (_wb : (Lit.int .i64 b).wf = true) :
    Calls Try.prog 3 #[.int .i64 a, .int .i64 b] w fun e w' => e = .returned (.bool true) ∧ Below w.heap.size w w' := by
  clear _wa _wb
  go_enter Try.func3, Try.ntmps3
  go_wp2_with (first | (go_at_call 15; refine (s_NimSum _ _ _).mono ?_; rintro e w1 ⟨rfl, rfl⟩) | (go_at_call 16; refine (c_NimSum _ _ _).mono ?_; rintro e w1 ⟨rfl, rfl⟩))
  go_ret
  exact ⟨rfl, Below.refl _ _⟩
set_option maxHeartbeats 400000 in
theorem w_FnExactNimProduct (a b : Int) (w : World) (_wa : (Lit.int .i64 a).wf = true) (_wb : (Lit.int .i64 b).wf = true) :
    Calls Try.prog 4 #[.int .i64 a, .int .i64 b] w fun e w' => e = .returned (.bool true) ∧ Below w.heap.size w w' := by
  clear _wa _wb
  go_enter Try.func4, Try.ntmps4
  go_wp2_with fail
  refine (s_NimProduct _ _ _).mono ?_
  rintro e w1 ⟨rfl, q1⟩
  go_wp2_with fail
  refine (c_NimProduct _ _ _).mono ?_
  rintro e w2 ⟨rfl, q2⟩
  go_wp2_with fail
  go_ret
  exact ⟨rfl, (q1.trans q2).below⟩
set_option maxHeartbeats 400000 in
theorem w_FnExactNimPower (a b : Int) (w : World) (_wa : (Lit.int .i64 a).wf = true) (_wb : (Lit.int .i64 b).wf = true) :
    Calls Try.prog 5 #[.int .i64 a, .int .i64 b] w fun e w' => e = .returned (.bool true) ∧ Below w.heap.size w w' := by
  clear _wa _wb
  go_enter Try.func5, Try.ntmps5
  go_wp2_with fail
  refine (s_NimPower _ _ _).mono ?_
  rintro e w1 ⟨rfl, q1⟩
  go_wp2_with fail
  refine (c_NimPower _ _ _).mono ?_
  rintro e w2 ⟨rfl, q2⟩
  go_wp2_with fail
  go_ret
  exact ⟨rfl, (q1.trans q2).below⟩
set_option maxHeartbeats 400000 in
theorem w_FnExactNimRoot (a : Int) (w : World) (_wa : (Lit.int .i64 a).wf = true) :
    Calls Try.prog 8 #[.int .i64 a] w fun e w' => e = .returned (.bool true) ∧ Below w.heap.size w w' := by
  clear _wa
  go_enter Try.func8, Try.ntmps8
  go_wp2_with fail
  refine (s_NimRoot _ _).mono ?_
  rintro e w1 ⟨rfl, q1⟩
  go_wp2_with fail
  refine (c_NimRoot _ _).mono ?_
  rintro e w2 ⟨rfl, q2⟩
  go_wp2_with fail
  go_ret
  exact ⟨rfl, (q1.trans q2).below⟩
set_option maxHeartbeats 400000 in
theorem w_FnExactNimInverse (a : Int) (w : World) (_wa : (Lit.int .i64 a).wf = true) :
    Calls Try.prog 9 #[.int .i64 a] w fun e w' => e = .returned (.bool true) ∧ Below w.heap.size w w' := by
  clear _wa
  go_enter Try.func9, Try.ntmps9
  go_wp2_with fail
  refine (s_NimInverse _ _).mono ?_
  rintro e w1 ⟨rfl, q1⟩
  go_wp2_with fail
  refine (c_NimInverse _ _).mono ?_
  rintro e w2 ⟨rfl, q2⟩
  go_wp2_with fail
  go_ret
  exact ⟨rfl, (q1.trans q2).below⟩
end Go.Proofs.Ytoaknbeekflnaaa
