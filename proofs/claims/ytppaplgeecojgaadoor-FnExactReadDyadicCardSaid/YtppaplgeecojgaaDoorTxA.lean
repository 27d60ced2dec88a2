/- Texts: comparing two, the checksum. -/
import Derived.Test.YtppaplgeecojgaaDoorGen
import Derived.Handy
namespace Go.Proofs.YtppaplgeecojgaaDoor
open Go.RowKit


/-- The checksum of a list of bytes. -/
def sumFrom (h : Int) : List UInt8 → Int
  | [] => h
  | c :: r => sumFrom ((37 * h + (c.toNat : Int) + 1) % 999983) r
def sumV (s : ByteArray) : Int × Bool := if s.size ≤ 4000 then (sumFrom 5 s.data.toList, true) else (0, false)
theorem sumFrom_at {h : Int} {s : ByteArray} {k : Nat} (hk : k < s.size) : sumFrom h (s.data.toList.drop k) = sumFrom ((37 * h + (s[k].toNat : Int) + 1) % 999983) (s.data.toList.drop (k + 1)) := by
  rw [List.drop_eq_getElem_cons (by simpa using hk)]
  rfl
theorem sumFrom_bd : ∀ (l : List UInt8) (h : Int), 0 ≤ h → h < 999983 → 0 ≤ sumFrom h l ∧ sumFrom h l < 999983
  | [], _, h0, h1 => ⟨h0, h1⟩
  | c :: r, h, _, _ => sumFrom_bd r _ (Int.emod_nonneg _ (by decide)) (Int.emod_lt_of_pos _ (by decide))
theorem ret_iv {a : Int} {c : Bool} {m : Int × Bool} (h : m = (a, c)) : Ending.returned (.tuple #[.int .i64 a, .bool c]) = .returned (.tuple #[.int .i64 m.1, .bool m.2]) := by rw [h]
set_option maxHeartbeats 800000 in
theorem c_SumOf (s : ByteArray) (w : World) (hs : s.size ≤ maxLen) :
    Calls Tryd.prog 34 #[.string s] w fun e w' => e = .returned (.tuple #[.int .i64 (sumV s).1, .bool (sumV s).2]) ∧ w = w' := by
  unfold maxLen at hs
  by_cases hn : s.size ≤ 4000
  · have fin : Hid (sumV s = (sumFrom 5 s.data.toList, true)) := Lib.hid (by simp [sumV, hn])
    obtain ⟨m, Hm⟩ : ∃ m, Hid (sumV s = m) := ⟨_, Lib.hid rfl⟩
    rw [Hm.out]
    go_enter Tryd.func34, Tryd.ntmps34
    go_wp2_with fail
    go_loop [4, 11] (fun h i => ∃ (k : Nat) (h' : Int), k ≤ s.size ∧ i = .int .i64 k ∧ h = .int .i64 h' ∧ 0 ≤ h' ∧ h' < 999983 ∧ Hid (sumFrom h' (s.data.toList.drop k) = sumFrom 5 s.data.toList)) (fun _ i => s.size - (intOf i).toNat)
    case atStart => exact ⟨0, 5, Nat.zero_le _, rfl, rfl, by omega, by omega, Lib.hid rfl⟩
    case round =>
      obtain ⟨k, h', hk, rfl, rfl, h0, h1, hrem⟩ := hrel
      by_cases hlt : k < s.size
      · have hu : s[k].toNat < 256 := s[k].toNat_lt
        have hrem' : Hid (sumFrom ((37 * h' + (s[k].toNat : Int) + 1) % 999983) (s.data.toList.drop (k + 1)) = sumFrom 5 s.data.toList) := Lib.hid (by rw [← hrem.out, sumFrom_at hlt])
        have m0 : 0 ≤ (37 * h' + (s[k].toNat : Int) + 1) % 999983 := Int.emod_nonneg _ (by decide)
        have m1 : (37 * h' + (s[k].toNat : Int) + 1) % 999983 < 999983 := Int.emod_lt_of_pos _ (by decide)
        go_wp2_with fail
        go_round
        case rel => exact ⟨k + 1, _, by omega, by go_num, rfl, m0, m1, hrem'⟩
        case measure => simp [intOf]; omega
      · obtain rfl : k = s.size := by omega
        have hres : Hid (sumFrom 5 s.data.toList = h') := Lib.hid (by rw [← hrem.out, List.drop_of_length_le (by simp)]; rfl)
        go_wp2_with fail
        go_ret2
        exact ⟨ret_iv (by rw [← Hm.out, fin.out, hres.out]), rfl⟩
  · have fin : Hid (sumV s = (0, false)) := Lib.hid (by simp [sumV, hn])
    go_enter Tryd.func34, Tryd.ntmps34
    go_wp2_with fail
    go_ret2
    exact ⟨ret_iv fin.out, rfl⟩
set_option maxHeartbeats 800000 in
theorem s_l1Sum (s : ByteArray) (w : World) (hs : s.size ≤ maxLen) :
    Calls Tryd.prog 50 #[.string s] w fun e w' => e = .returned (.int .i64 (sumFrom 5 s.data.toList)) ∧ w = w' := by
  unfold maxLen at hs
  obtain ⟨m, Hm⟩ : ∃ m, Hid (sumFrom 5 s.data.toList = m) := ⟨_, Lib.hid rfl⟩
  rw [Hm.out]
  go_enter Tryd.func50, Tryd.ntmps50
  go_wp2_with fail
  go_loop [3, 4] (fun h i => ∃ (k : Nat) (h' : Int), k ≤ s.size ∧ i = .int .i64 k ∧ h = .int .i64 h' ∧ 0 ≤ h' ∧ h' < 999983 ∧ Hid (sumFrom h' (s.data.toList.drop k) = sumFrom 5 s.data.toList)) (fun _ i => s.size - (intOf i).toNat)
  case atStart => exact ⟨0, 5, Nat.zero_le _, rfl, rfl, by omega, by omega, Lib.hid rfl⟩
  case round =>
    obtain ⟨k, h', hk, rfl, rfl, h0, h1, hrem⟩ := hrel
    by_cases hlt : k < s.size
    · have hu : s[k].toNat < 256 := s[k].toNat_lt
      have hrem' : Hid (sumFrom ((37 * h' + (s[k].toNat : Int) + 1) % 999983) (s.data.toList.drop (k + 1)) = sumFrom 5 s.data.toList) := Lib.hid (by rw [← hrem.out, sumFrom_at hlt])
      have m0 : 0 ≤ (37 * h' + (s[k].toNat : Int) + 1) % 999983 := Int.emod_nonneg _ (by decide)
      have m1 : (37 * h' + (s[k].toNat : Int) + 1) % 999983 < 999983 := Int.emod_lt_of_pos _ (by decide)
      go_wp2_with fail
      go_round
      case rel => exact ⟨k + 1, _, by omega, by go_num, rfl, m0, m1, hrem'⟩
      case measure => simp [intOf]; omega
    · obtain rfl : k = s.size := by omega
      have hres : Hid (sumFrom 5 s.data.toList = h') := Lib.hid (by rw [← hrem.out, List.drop_of_length_le (by simp)]; rfl)
      go_wp2_with fail
      go_ret
      exact ⟨ret_int (by rw [← Hm.out, hres.out]), rfl⟩
end Go.Proofs.YtppaplgeecojgaaDoor
