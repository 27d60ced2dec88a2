/- Texts: comparing two, the checksum. -/
import Derived.Test.YtppaplgeecojgaaGen
import Derived.Handy
namespace Go.Proofs.Ytppaplgeecojgaa
open Go.RowKit

set_option maxHeartbeats 400000 in
theorem w_FnExactLessText (a b : ByteArray) (w : World) (_wa : a.size ≤ maxLen) (_wb : b.size ≤ maxLen) :
    Calls Try.prog 3 #[.string a, .string b] w fun e w' => e = .returned (.bool true) ∧ Below w.heap.size w w' := by
  unfold maxLen at _wa _wb
  go_enter Try.func3, Try.ntmps3
  go_wp2
  all_goals
    go_ret
    exact ⟨rfl, Below.refl _ _⟩

/-- The checksum of a list of bytes. -/
def sumFrom (h : Int) : List UInt8 → Int
  | [] => h
  | c :: r => sumFrom ((37 * h + (c.toNat : Int) + 1) % 999983) r
def sumV (s : ByteArray) : Int × Bool := if s.size ≤ 4000 then (sumFrom 5 s.data.toList, true) else (0, false)
theorem sumFrom_at {h : Int} {s : ByteArray} {k : Nat} (hk : k < s.size) : sumFrom h (s.data.toList.drop k) = sumFrom ((37 * h + (s[k].toNat : Int) + 1) % 999983) (s.data.toList.drop (k + 1)) := by
  rw [List.drop_eq_getElem_cons (by simpa using hk)]
  rfl
theorem sumFrom_bd : ∀ (l : List UInt8) (h : Int), 0 ≤ h → h < 999983 → 0 ≤ sumFrom h l ∧ sumFrom h l < 999983
  | [], _, h0, h1 => ⟨h0, h1⟩
  | c :: r, h, _, _ => sumFrom_bd r _ (Int.emod_nonneg _ (by decide)) (Int.emod_lt_of_pos _ (by decide))
theorem ret_iv {a : Int} {c : Bool} {m : Int × Bool} (h : m = (a, c)) : Ending.returned (.tuple #[.int .i64 a, .bool c]) = .returned (.tuple #[.int .i64 m.1, .bool m.2]) := by rw [h]
set_option maxHeartbeats 800000 in
theorem c_SumOf (s : ByteArray) (w : World) (hs : s.size ≤ maxLen) :
    Calls Try.prog 11 #[.string s] w fun e w' => e = .returned (.tuple #[.int .i64 (sumV s).1, .bool (sumV s).2]) ∧ w = w' := by
  unfold maxLen at hs
  by_cases hn : s.size ≤ 4000
  · have fin : Hid (sumV s = (sumFrom 5 s.data.toList, true)) := Lib.hid (by simp [sumV, hn])
    obtain ⟨m, Hm⟩ : ∃ m, Hid (sumV s = m) := ⟨_, Lib.hid rfl⟩
    rw [Hm.out]
    go_enter Try.func11, Try.ntmps11
    go_wp2_with fail
    go_loop [4, 11] (fun h i => ∃ (k : Nat) (h' : Int), k ≤ s.size ∧ i = .int .i64 k ∧ h = .int .i64 h' ∧ 0 ≤ h' ∧ h' < 999983 ∧ Hid (sumFrom h' (s.data.toList.drop k) = sumFrom 5 s.data.toList)) (fun _ i => s.size - (intOf i).toNat)
    case atStart => exact ⟨0, 5, Nat.zero_le _, rfl, rfl, by omega, by omega, Lib.hid rfl⟩
    case round =>
      obtain ⟨k, h', hk, rfl, rfl, h0, h1, hrem⟩ := hrel
      by_cases hlt : k < s.size
      · have hu : s[k].toNat < 256 := s[k].toNat_lt
        have hrem' : Hid (sumFrom ((37 * h' + (s[k].toNat : Int) + 1) % 999983) (s.data.toList.drop (k + 1)) = sumFrom 5 s.data.toList) := Lib.hid (by rw [← hrem.out, sumFrom_at hlt])
        have m0 : 0 ≤ (37 * h' + (s[k].toNat : Int) + 1) % 999983 := Int.emod_nonneg _ (by decide)
        have m1 : (37 * h' + (s[k].toNat : Int) + 1) % 999983 < 999983 := Int.emod_lt_of_pos _ (by decide)
        go_wp2_with fail
        go_round
        case rel => exact ⟨k + 1, _, by omega, by go_num, rfl, m0, m1, hrem'⟩
        case measure => simp [intOf]; omega
      · obtain rfl : k = s.size := by omega
        have hres : Hid (sumFrom 5 s.data.toList = h') := Lib.hid (by rw [← hrem.out, List.drop_of_length_le (by simp)]; rfl)
        go_wp2_with fail
        go_ret2
        exact ⟨ret_iv (by rw [← Hm.out, fin.out, hres.out]), rfl⟩
  · have fin : Hid (sumV s = (0, false)) := Lib.hid (by simp [sumV, hn])
    go_enter Try.func11, Try.ntmps11
    go_wp2_with fail
    go_ret2
    exact ⟨ret_iv fin.out, rfl⟩
set_option maxHeartbeats 800000 in
theorem s_l1Sum (s : ByteArray) (w : World) (hs : s.size ≤ maxLen) :
    Calls Try.prog 25 #[.string s] w fun e w' => e = .returned (.int .i64 (sumFrom 5 s.data.toList)) ∧ w = w' := by
  unfold maxLen at hs
  obtain ⟨m, Hm⟩ : ∃ m, Hid (sumFrom 5 s.data.toList = m) := ⟨_, Lib.hid rfl⟩
  rw [Hm.out]
  go_enter Try.func25, Try.ntmps25
  go_wp2_with fail
  go_loop [3, 4] (fun h i => ∃ (k : Nat) (h' : Int), k ≤ s.size ∧ i = .int .i64 k ∧ h = .int .i64 h' ∧ 0 ≤ h' ∧ h' < 999983 ∧ Hid (sumFrom h' (s.data.toList.drop k) = sumFrom 5 s.data.toList)) (fun _ i => s.size - (intOf i).toNat)
  case atStart => exact ⟨0, 5, Nat.zero_le _, rfl, rfl, by omega, by omega, Lib.hid rfl⟩
  case round =>
    obtain ⟨k, h', hk, rfl, rfl, h0, h1, hrem⟩ := hrel
    by_cases hlt : k < s.size
    · have hu : s[k].toNat < 256 := s[k].toNat_lt
      have hrem' : Hid (sumFrom ((37 * h' + (s[k].toNat : Int) + 1) % 999983) (s.data.toList.drop (k + 1)) = sumFrom 5 s.data.toList) := Lib.hid (by rw [← hrem.out, sumFrom_at hlt])
      have m0 : 0 ≤ (37 * h' + (s[k].toNat : Int) + 1) % 999983 := Int.emod_nonneg _ (by decide)
      have m1 : (37 * h' + (s[k].toNat : Int) + 1) % 999983 < 999983 := Int.emod_lt_of_pos _ (by decide)
      go_wp2_with fail
      go_round
      case rel => exact ⟨k + 1, _, by omega, by go_num, rfl, m0, m1, hrem'⟩
      case measure => simp [intOf]; omega
    · obtain rfl : k = s.size := by omega
      have hres : Hid (sumFrom 5 s.data.toList = h') := Lib.hid (by rw [← hrem.out, List.drop_of_length_le (by simp)]; rfl)
      go_wp2_with fail
      go_ret
      exact ⟨ret_int (by rw [← Hm.out, hres.out]), rfl⟩
set_option maxHeartbeats 800000 in
theorem s_SumOf (s : ByteArray) (w : World) (hs : s.size ≤ maxLen) :
    Calls Try.prog 10 #[.string s] w fun e w' => e = .returned (.tuple #[.int .i64 (sumV s).1, .bool (sumV s).2]) ∧ w = w' := by
  have hs' := hs
  unfold maxLen at hs
  by_cases hn : s.size ≤ 4000
  · have fin : Hid (sumV s = (sumFrom 5 s.data.toList, true)) := Lib.hid (by simp [sumV, hn])
    go_enter Try.func10, Try.ntmps10
    go_wp2_with fail
    refine (s_l1Sum _ _ hs').mono ?_
    rintro e w1 ⟨rfl, rfl⟩
    go_wp2_with fail
    go_ret2
    exact ⟨ret_iv fin.out, rfl⟩
  · have fin : Hid (sumV s = (0, false)) := Lib.hid (by simp [sumV, hn])
    go_enter Try.func10, Try.ntmps10
    go_wp2_with fail
    go_ret2
    exact ⟨ret_iv fin.out, rfl⟩
set_option maxHeartbeats 400000 in
theorem w_FnExactSumOf (s : ByteArray) (w : World) (hs : s.size ≤ maxLen) :
    Calls Try.prog 4 #[.string s] w fun e w' => e = .returned (.bool true) ∧ Below w.heap.size w w' := by
  have hs' := hs
  unfold maxLen at hs
  by_cases hn : s.size ≤ 1048576
  · go_enter Try.func4, Try.ntmps4
    go_wp2_with fail
    refine (s_SumOf _ _ hs').mono ?_
    rintro e w1 ⟨rfl, rfl⟩
    go_wp2_with fail
    refine (c_SumOf _ _ hs').mono ?_
    rintro e w1 ⟨rfl, rfl⟩
    go_wp2_with fail
    go_ret
    exact ⟨rfl, Below.refl _ _⟩
  · go_enter Try.func4, Try.ntmps4
    go_wp2_with fail
    go_ret
    exact ⟨rfl, Below.refl _ _⟩
end Go.Proofs.Ytppaplgeecojgaa
