/- The contracts of the small nimber functions. -/
import Derived.Test.YtoaknbeekflnaaaMem
import Derived.Test.YtoaknbeekflnaaaNimPlain
import Derived.WalkKit
import Derived.WalkSpells
import Derived.WalkLawsBesides
import Derived.BigQuiet
import Derived.Deep.QuietTactic
import Derived.Lib.Hide
import Derived.Laws.BitsAllLaws
import Derived.Laws.BitsLemmas
namespace Go.Proofs.Ytoaknbeekflnaaa
open Go.RowKit

theorem ofInt_i64 (a : Nat) (ha : a < 9223372036854775808) : (BitVec.ofInt 64 (a : Int)).toNat = a := by
  rw [BitVec.ofInt_natCast, BitVec.toNat_ofNat]; exact Nat.mod_eq_of_lt (by omega)
theorem i64_and_nat (a b : Nat) (ha : a < 9223372036854775808) (hb : b < 9223372036854775808) : bits .and .i64 (a : Int) (b : Int) = ((a &&& b : Nat) : Int) := by
  have hx : a &&& b < 2 ^ 63 := Nat.and_lt_two_pow _ (by omega)
  show IntKind.i64.wrap ((BitVec.ofInt 64 (a : Int) &&& BitVec.ofInt 64 (b : Int)).toNat : Int) = _
  rw [BitVec.toNat_and, ofInt_i64 a ha, ofInt_i64 b hb, IntKind.wrap_i64]
  omega
theorem i64_or_nat (a b : Nat) (ha : a < 9223372036854775808) (hb : b < 9223372036854775808) : bits .or .i64 (a : Int) (b : Int) = ((a ||| b : Nat) : Int) := by
  have hx : a ||| b < 2 ^ 63 := Nat.or_lt_two_pow (by omega) (by omega)
  show IntKind.i64.wrap ((BitVec.ofInt 64 (a : Int) ||| BitVec.ofInt 64 (b : Int)).toNat : Int) = _
  rw [BitVec.toNat_or, ofInt_i64 a ha, ofInt_i64 b hb, IntKind.wrap_i64]
  omega
theorem i64_xor_nat (a b : Nat) (ha : a < 9223372036854775808) (hb : b < 9223372036854775808) : bits .xor .i64 (a : Int) (b : Int) = ((a ^^^ b : Nat) : Int) := by
  have hx : a ^^^ b < 2 ^ 63 := Nat.xor_lt_two_pow (by omega) (by omega)
  show IntKind.i64.wrap ((BitVec.ofInt 64 (a : Int) ^^^ BitVec.ofInt 64 (b : Int)).toNat : Int) = _
  rw [BitVec.toNat_xor, ofInt_i64 a ha, ofInt_i64 b hb, IntKind.wrap_i64]
  omega

def inB (a lo hi : Int) : Bool := decide (lo ≤ a) && decide (a ≤ hi)
theorem inB_true {a lo hi : Int} : inB a lo hi = true ↔ lo ≤ a ∧ a ≤ hi := by simp [inB]
theorem inB_false {a lo hi : Int} : inB a lo hi = false ↔ a < lo ∨ hi < a := by
  rw [← Bool.not_eq_true, inB_true]; omega
theorem inB_t {a lo hi : Int} (h1 : lo ≤ a) : decide (a ≤ hi) = inB a lo hi := by unfold inB; rw [decide_eq_true h1, Bool.true_and]
theorem inB_f {a lo hi : Int} (h1 : a < lo) : false = inB a lo hi := by symm; rw [inB_false]; exact .inl h1

set_option maxHeartbeats 400000 in
theorem c_isNim (a : Int) (w : World) :
    Calls Try.prog 43 #[.int .i64 a] w fun e w' => e = .returned (.bool (inB a 0 255)) ∧ w = w' := by
  go_enter Try.func43, Try.ntmps43
  go_wp2
  · go_ret
    exact ⟨ret_bool (inB_t (by assumption)), rfl⟩
  · go_ret
    exact ⟨ret_bool (inB_f (by assumption)), rfl⟩
set_option maxHeartbeats 400000 in
theorem c_l1In (a b c : Int) (w : World) :
    Calls Try.prog 46 #[.int .i64 a, .int .i64 b, .int .i64 c] w fun e w' => e = .returned (.bool (inB a b c)) ∧ w = w' := by
  go_enter Try.func46, Try.ntmps46
  go_wp2
  · go_ret
    exact ⟨ret_bool (inB_t (by assumption)), rfl⟩
  · go_ret
    exact ⟨ret_bool (inB_f (by assumption)), rfl⟩
set_option maxHeartbeats 400000 in
theorem c_l16Nimber (a : Int) (w : World) :
    Calls Try.prog 42 #[.int .i64 a] w fun e w' => e = .returned (.bool (inB a 0 255)) ∧ w = w' := by
  go_enter Try.func42, Try.ntmps42
  go_wp2_with (go_at_call 46; refine (c_l1In _ _ _ _).mono ?_; rintro e w' ⟨rfl, rfl⟩)
  go_ret
  exact ⟨rfl, rfl⟩

/-- The nim sum as the program has it. -/
def fSum (a b : Int) : Int := if inB a 0 255 && inB b 0 255 then bits .xor .i64 a b else -1
theorem fSum_yes {a b : Nat} (ha : a < 256) (hb : b < 256) : fSum a b = ((a ^^^ b : Nat) : Int) := by
  unfold fSum
  rw [inB_true.2 ⟨by omega, by omega⟩, inB_true.2 ⟨by omega, by omega⟩, Bool.and_self, if_pos rfl, i64_xor_nat a b (by omega) (by omega)]
set_option maxHeartbeats 400000 in
theorem c_NimSum (a b : Int) (w : World) :
    Calls Try.prog 16 #[.int .i64 a, .int .i64 b] w fun e w' => e = .returned (.int .i64 (fSum a b)) ∧ w = w' := by
  go_enter Try.func16, Try.ntmps16
  go_wp2_with (go_at_call 43; refine (c_isNim _ _).mono ?_; rintro e w' ⟨rfl, rfl⟩)
  all_goals
    go_ret
    exact ⟨ret_int (by simp_all [fSum]), rfl⟩
set_option maxHeartbeats 400000 in
theorem s_NimSum (a b : Int) (w : World) :
    Calls Try.prog 15 #[.int .i64 a, .int .i64 b] w fun e w' => e = .returned (.int .i64 (fSum a b)) ∧ w = w' := by
  go_enter Try.func15, Try.ntmps15
  go_wp2_with (go_at_call 42; refine (c_l16Nimber _ _).mono ?_; rintro e w' ⟨rfl, rfl⟩)
  all_goals
    go_ret
    exact ⟨ret_int (by simp_all [fSum]), rfl⟩
end Go.Proofs.Ytoaknbeekflnaaa
