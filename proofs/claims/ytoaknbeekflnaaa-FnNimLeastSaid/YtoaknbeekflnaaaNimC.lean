/- The contracts of the nimber functions of the program and of the reference. -/
import Derived.Test.YtoaknbeekflnaaaNimB
namespace Go.Proofs.Ytoaknbeekflnaaa
open Go.RowKit

theorem c_nimProductN (a b : Nat) (w : World) (ha : a < 256) (hb : b < 256) :
    Calls Try.prog 45 #[.int .i64 a, .int .i64 b, .int .i64 4] w fun e w' => e = .returned (.int .i64 (Nim.nm a b : Nat)) ∧ Q w w' := by
  have := c_nimProduct a b w (by omega) (by omega) (by omega) (by omega)
  simpa only [Int.toNat_natCast] using this
theorem c_l16TimesN (a b : Nat) (w : World) (ha : a < 256) (hb : b < 256) :
    Calls Try.prog 44 #[.int .i64 a, .int .i64 b] w fun e w' => e = .returned (.int .i64 (Nim.nm a b : Nat)) ∧ Q w w' := by
  have := c_l16Times a b w (by omega) (by omega) (by omega) (by omega)
  simpa only [Int.toNat_natCast] using this

/-- The nim product as both have it. -/
def fProd (a b : Int) : Int := if inB a 0 255 && inB b 0 255 then (Nim.nm a.toNat b.toNat : Nat) else -1
theorem fProd_yes {a b : Nat} (ha : a < 256) (hb : b < 256) : fProd a b = (Nim.nm a b : Nat) := by
  unfold fProd
  rw [inB_true.2 ⟨by omega, by omega⟩, inB_true.2 ⟨by omega, by omega⟩]
  rfl
set_option maxHeartbeats 400000 in
theorem c_NimProduct (a b : Int) (w : World) :
    Calls Try.prog 18 #[.int .i64 a, .int .i64 b] w fun e w' => e = .returned (.int .i64 (fProd a b)) ∧ Q w w' := by
  cases h1 : inB a 0 255
  · have fin : Hid (fProd a b = -1) := Lib.hid (by simp [fProd, h1])
    go_enter Try.func18, Try.ntmps18
    go_wp2_with (go_at_call 43; refine (c_isNim _ _).mono ?_; rintro e w' ⟨rfl, rfl⟩)
    go_ret
    exact ⟨ret_int fin.out.symm, Q.refl _⟩
  · cases h2 : inB b 0 255
    · have fin : Hid (fProd a b = -1) := Lib.hid (by simp [fProd, h2])
      go_enter Try.func18, Try.ntmps18
      go_wp2_with (go_at_call 43; refine (c_isNim _ _).mono ?_; rintro e w' ⟨rfl, rfl⟩)
      go_ret
      exact ⟨ret_int fin.out.symm, Q.refl _⟩
    · have fin : Hid (fProd a b = (Nim.nm a.toNat b.toNat : Nat)) := Lib.hid (by simp [fProd, h1, h2])
      obtain ⟨a0, a1⟩ := inB_true.1 h1
      obtain ⟨b0, b1⟩ := inB_true.1 h2
      go_enter Try.func18, Try.ntmps18
      go_wp2_with (first | (go_at_call 43; refine (c_isNim _ _).mono ?_; rintro e w' ⟨rfl, rfl⟩) | (go_at_call 45; refine (c_nimProduct _ _ _ a0 a1 b0 b1).mono ?_; rintro e w1 ⟨rfl, q⟩))
      go_ret
      exact ⟨ret_int fin.out.symm, q⟩
set_option maxHeartbeats 400000 in
theorem s_NimProduct (a b : Int) (w : World) :
    Calls Try.prog 17 #[.int .i64 a, .int .i64 b] w fun e w' => e = .returned (.int .i64 (fProd a b)) ∧ Q w w' := by
  cases h1 : inB a 0 255
  · have fin : Hid (fProd a b = -1) := Lib.hid (by simp [fProd, h1])
    go_enter Try.func17, Try.ntmps17
    go_wp2_with (go_at_call 42; refine (c_l16Nimber _ _).mono ?_; rintro e w' ⟨rfl, rfl⟩)
    go_ret
    exact ⟨ret_int fin.out.symm, Q.refl _⟩
  · cases h2 : inB b 0 255
    · have fin : Hid (fProd a b = -1) := Lib.hid (by simp [fProd, h2])
      go_enter Try.func17, Try.ntmps17
      go_wp2_with (go_at_call 42; refine (c_l16Nimber _ _).mono ?_; rintro e w' ⟨rfl, rfl⟩)
      go_ret
      exact ⟨ret_int fin.out.symm, Q.refl _⟩
    · have fin : Hid (fProd a b = (Nim.nm a.toNat b.toNat : Nat)) := Lib.hid (by simp [fProd, h1, h2])
      obtain ⟨a0, a1⟩ := inB_true.1 h1
      obtain ⟨b0, b1⟩ := inB_true.1 h2
      go_enter Try.func17, Try.ntmps17
      go_wp2_with (first | (go_at_call 42; refine (c_l16Nimber _ _).mono ?_; rintro e w' ⟨rfl, rfl⟩) | (go_at_call 44; refine (c_l16Times _ _ _ a0 a1 b0 b1).mono ?_; rintro e w1 ⟨rfl, q⟩))
      go_ret
      exact ⟨ret_int fin.out.symm, q⟩

/-- A power. -/
def fPow (a n : Int) : Int := if inB a 0 255 && inB n 0 300 then (Nim.pw a.toNat n.toNat : Nat) else -1
theorem fPow_yes {a n : Nat} (ha : a < 256) (hn : n ≤ 300) : fPow a n = (Nim.pw a n : Nat) := by
  unfold fPow
  rw [inB_true.2 ⟨by omega, by omega⟩, inB_true.2 ⟨by omega, by omega⟩]
  rfl
set_option maxHeartbeats 800000 in
theorem c_NimPower (a n : Int) (w : World) :
    Calls Try.prog 20 #[.int .i64 a, .int .i64 n] w fun e w' => e = .returned (.int .i64 (fPow a n)) ∧ Q w w' := by
  cases h1 : inB a 0 255
  · have fin : Hid (fPow a n = -1) := Lib.hid (by simp [fPow, h1])
    go_enter Try.func20, Try.ntmps20
    go_wp2_with (go_at_call 43; refine (c_isNim _ _).mono ?_; rintro e w' ⟨rfl, rfl⟩)
    go_ret
    exact ⟨ret_int fin.out.symm, Q.refl _⟩
  · cases h2 : inB n 0 300
    · have fin : Hid (fPow a n = -1) := Lib.hid (by simp [fPow, h2])
      have hn := inB_false.1 h2
      clear h2
      by_cases h3 : n < 0
      all_goals
        go_enter Try.func20, Try.ntmps20
        go_wp2_with (go_at_call 43; refine (c_isNim _ _).mono ?_; rintro e w' ⟨rfl, rfl⟩)
        go_ret
        exact ⟨ret_int fin.out.symm, Q.refl _⟩
    · obtain ⟨a0, a1⟩ := inB_true.1 h1
      obtain ⟨n0, n1⟩ := inB_true.1 h2
      obtain ⟨a, rfl⟩ := Int.eq_ofNat_of_zero_le a0
      obtain ⟨n, rfl⟩ := Int.eq_ofNat_of_zero_le n0
      have fin : Hid (fPow a n = (Nim.pw a n : Nat)) := Lib.hid (fPow_yes (by omega) (by omega))
      clear h2
      go_enter Try.func20, Try.ntmps20
      go_wp2_with (go_at_call 43; refine (c_isNim _ _).mono ?_; rintro e w' ⟨rfl, rfl⟩)
      go_loopw [5, 18] (fun o i wr => ∃ k : Nat, k ≤ n ∧ i = .int .i64 k ∧ o = .int .i64 (Nim.pw a k : Nat) ∧ Q w wr) (fun _ i _ => n - (intOf i).toNat)
      case atStart => exact ⟨0, Nat.zero_le _, rfl, rfl, Q.refl _⟩
      case round =>
        obtain ⟨k, hk, rfl, rfl, q⟩ := hrel
        by_cases hlt : k < n
        · have hp := Nim.pw_lt (a := a) (by omega) k
          go_wp2_with (go_at_call 45; refine (c_nimProductN _ _ _ hp (by omega)).mono ?_; rintro e w1 ⟨rfl, q1⟩)
          go_roundw
          case rel => exact ⟨k + 1, by omega, by go_num, rfl, q.trans q1⟩
          case measure => simp [intOf]; omega
        · obtain rfl : k = n := by omega
          go_wp2_with fail
          go_ret
          exact ⟨ret_int fin.out.symm, q⟩
set_option maxHeartbeats 800000 in
theorem s_NimPower (a n : Int) (w : World) :
    Calls Try.prog 19 #[.int .i64 a, .int .i64 n] w fun e w' => e = .returned (.int .i64 (fPow a n)) ∧ Q w w' := by
  cases h1 : inB a 0 255
  · have fin : Hid (fPow a n = -1) := Lib.hid (by simp [fPow, h1])
    go_enter Try.func19, Try.ntmps19
    go_wp2_with (go_at_call 42; refine (c_l16Nimber _ _).mono ?_; rintro e w' ⟨rfl, rfl⟩)
    go_ret
    exact ⟨ret_int fin.out.symm, Q.refl _⟩
  · cases h2 : inB n 0 300
    · have fin : Hid (fPow a n = -1) := Lib.hid (by simp [fPow, h2])
      go_enter Try.func19, Try.ntmps19
      go_wp2_with (first | (go_at_call 42; refine (c_l16Nimber _ _).mono ?_; rintro e w' ⟨rfl, rfl⟩) | (go_at_call 46; refine (c_l1In _ _ _ _).mono ?_; rintro e w' ⟨rfl, rfl⟩))
      go_ret
      exact ⟨ret_int fin.out.symm, Q.refl _⟩
    · obtain ⟨a0, a1⟩ := inB_true.1 h1
      obtain ⟨n0, n1⟩ := inB_true.1 h2
      obtain ⟨a, rfl⟩ := Int.eq_ofNat_of_zero_le a0
      obtain ⟨n, rfl⟩ := Int.eq_ofNat_of_zero_le n0
      have fin : Hid (fPow a n = (Nim.pw a n : Nat)) := Lib.hid (fPow_yes (by omega) (by omega))
      go_enter Try.func19, Try.ntmps19
      go_wp2_with (first | (go_at_call 42; refine (c_l16Nimber _ _).mono ?_; rintro e w' ⟨rfl, rfl⟩) | (go_at_call 46; refine (c_l1In _ _ _ _).mono ?_; rintro e w' ⟨rfl, rfl⟩))
      go_loopw [5, 6] (fun o i wr => ∃ k : Nat, k ≤ n ∧ i = .int .i64 k ∧ o = .int .i64 (Nim.pw a k : Nat) ∧ Q w wr) (fun _ i _ => n - (intOf i).toNat)
      case atStart => exact ⟨0, Nat.zero_le _, rfl, rfl, Q.refl _⟩
      case round =>
        obtain ⟨k, hk, rfl, rfl, q⟩ := hrel
        by_cases hlt : k < n
        · have hp := Nim.pw_lt (a := a) (by omega) k
          go_wp2_with (go_at_call 44; refine (c_l16TimesN _ _ _ hp (by omega)).mono ?_; rintro e w1 ⟨rfl, q1⟩)
          go_roundw
          case rel => exact ⟨k + 1, by omega, by go_num, rfl, q.trans q1⟩
          case measure => simp [intOf]; omega
        · obtain rfl : k = n := by omega
          go_wp2_with fail
          go_ret
          exact ⟨ret_int fin.out.symm, q⟩

/-- The root. -/
def fRoot (a : Int) : Int := if inB a 0 255 then (Nim.pw a.toNat 128 : Nat) else -1
theorem fRoot_yes {a : Nat} (ha : a < 256) : fRoot a = (Nim.pw a 128 : Nat) := by
  unfold fRoot
  rw [inB_true.2 ⟨by omega, by omega⟩]
  rfl
set_option maxHeartbeats 400000 in
theorem c_NimRoot (a : Int) (w : World) :
    Calls Try.prog 28 #[.int .i64 a] w fun e w' => e = .returned (.int .i64 (fRoot a)) ∧ Q w w' := by
  have fin : Hid (fPow a 128 = fRoot a) := Lib.hid (by unfold fPow fRoot; rw [show inB 128 0 300 = true from rfl, Bool.and_true]; rfl)
  go_enter Try.func28, Try.ntmps28
  go_wp2_with (go_at_call 20; refine (c_NimPower _ _ _).mono ?_; rintro e w1 ⟨rfl, q⟩)
  go_ret
  exact ⟨ret_int fin.out, q⟩
set_option maxHeartbeats 800000 in
theorem s_NimRoot (a : Int) (w : World) :
    Calls Try.prog 27 #[.int .i64 a] w fun e w' => e = .returned (.int .i64 (fRoot a)) ∧ Q w w' := by
  cases h1 : inB a 0 255
  · have fin : Hid (fRoot a = -1) := Lib.hid (by simp [fRoot, h1])
    go_enter Try.func27, Try.ntmps27
    go_wp2_with (go_at_call 42; refine (c_l16Nimber _ _).mono ?_; rintro e w' ⟨rfl, rfl⟩)
    go_ret
    exact ⟨ret_int fin.out.symm, Q.refl _⟩
  · obtain ⟨a0, a1⟩ := inB_true.1 h1
    obtain ⟨a, rfl⟩ := Int.eq_ofNat_of_zero_le a0
    have fin : Hid (fRoot a = (Nim.pw a 128 : Nat)) := Lib.hid (fRoot_yes (by omega))
    go_enter Try.func27, Try.ntmps27
    go_wp2_with (go_at_call 42; refine (c_l16Nimber _ _).mono ?_; rintro e w' ⟨rfl, rfl⟩)
    clear h1
    go_loopw [3] (fun i wr => ∃ k : Nat, k ≤ 256 ∧ i = .int .i64 k ∧ Hid (∀ j, j < k → Nim.nm j j ≠ a) ∧ Q w wr) (fun i _ => 256 - (intOf i).toNat)
    case atStart => exact ⟨0, Nat.zero_le _, rfl, Lib.hid (fun j hj => absurd hj (by omega)), Q.refl _⟩
    case round =>
      obtain ⟨k, hk, rfl, hno, q⟩ := hrel
      by_cases hlt : k < 256
      · by_cases ht : Nim.nm k k = a
        · have hb : (((Nim.nm k k : Nat) : Int) == (a : Int)) = true := by simp [ht]
          have hb' : ((Nim.nm k k) == a) = true := by simp [ht]
          have Ht := Lib.hid ht
          clear ht
          go_wp2_with (go_at_call 44; refine (c_l16TimesN _ _ _ hlt hlt).mono ?_; rintro e w1 ⟨rfl, q1⟩)
          go_ret
          exact ⟨ret_int (by rw [fin.out, Nim.root_only hlt Ht.out]), q.trans q1⟩
        · have hb : (((Nim.nm k k : Nat) : Int) == (a : Int)) = false := by simp; omega
          have hb' : ((Nim.nm k k) == a) = false := by simpa using ht
          have Ht := Lib.hid ht
          clear ht
          go_wp2_with (go_at_call 44; refine (c_l16TimesN _ _ _ hlt hlt).mono ?_; rintro e w1 ⟨rfl, q1⟩)
          go_roundw
          case rel => exact ⟨k + 1, by omega, by go_num, Lib.hid (fun j hj => by
            by_cases e : j = k
            · subst e; exact Ht.out
            · exact hno.out j (by omega)), q.trans q1⟩
          case measure => simp [intOf]; omega
      · exfalso
        have := Nim.root_sq (a := a) (by omega)
        exact hno.out _ (by have := Nim.pw_lt (a := a) (by omega) 128; omega) this

/-- The inverse. -/
def fInv (a : Int) : Int := if inB a 1 255 then (Nim.pw a.toNat 254 : Nat) else -1
theorem fInv_yes {a : Nat} (h0 : 0 < a) (ha : a < 256) : fInv a = (Nim.pw a 254 : Nat) := by
  unfold fInv
  rw [inB_true.2 ⟨by omega, by omega⟩]
  rfl
theorem fInv_no {a : Int} (h : a < 1 ∨ 255 < a) : fInv a = -1 := by
  unfold fInv
  rw [inB_false.2 h]
  rfl
set_option maxHeartbeats 400000 in
theorem c_NimInverse (a : Int) (w : World) :
    Calls Try.prog 30 #[.int .i64 a] w fun e w' => e = .returned (.int .i64 (fInv a)) ∧ Q w w' := by
  cases h1 : inB a 0 255
  · have fin : Hid (fInv a = -1) := Lib.hid (fInv_no (by have := inB_false.1 h1; omega))
    go_enter Try.func30, Try.ntmps30
    go_wp2_with (go_at_call 43; refine (c_isNim _ _).mono ?_; rintro e w' ⟨rfl, rfl⟩)
    go_ret
    exact ⟨ret_int fin.out.symm, Q.refl _⟩
  · obtain ⟨a0, a1⟩ := inB_true.1 h1
    by_cases hz : a = 0
    · have fin : Hid (fInv a = -1) := Lib.hid (fInv_no (by omega))
      have hz' : (a == 0) = true := by simp [hz]
      clear hz
      go_enter Try.func30, Try.ntmps30
      go_wp2_with (go_at_call 43; refine (c_isNim _ _).mono ?_; rintro e w' ⟨rfl, rfl⟩)
      go_ret
      exact ⟨ret_int fin.out.symm, Q.refl _⟩
    · have fin : Hid (fPow a 254 = fInv a) := Lib.hid (by
        unfold fPow fInv; rw [show inB 254 0 300 = true from rfl, Bool.and_true, inB_true.2 ⟨a0, a1⟩, inB_true.2 ⟨by omega, a1⟩]; rfl)
      have hz' : (a == 0) = false := by simp [hz]
      clear hz
      go_enter Try.func30, Try.ntmps30
      go_wp2_with (first | (go_at_call 43; refine (c_isNim _ _).mono ?_; rintro e w' ⟨rfl, rfl⟩) | (go_at_call 20; refine (c_NimPower _ _ _).mono ?_; rintro e w1 ⟨rfl, q⟩))
      go_ret
      exact ⟨ret_int fin.out, q⟩
set_option maxHeartbeats 800000 in
theorem s_NimInverse (a : Int) (w : World) :
    Calls Try.prog 29 #[.int .i64 a] w fun e w' => e = .returned (.int .i64 (fInv a)) ∧ Q w w' := by
  cases h1 : inB a 0 255
  · have fin : Hid (fInv a = -1) := Lib.hid (fInv_no (by have := inB_false.1 h1; omega))
    go_enter Try.func29, Try.ntmps29
    go_wp2_with (go_at_call 42; refine (c_l16Nimber _ _).mono ?_; rintro e w' ⟨rfl, rfl⟩)
    go_ret
    exact ⟨ret_int fin.out.symm, Q.refl _⟩
  · obtain ⟨a0, a1⟩ := inB_true.1 h1
    obtain ⟨a, rfl⟩ := Int.eq_ofNat_of_zero_le a0
    go_enter Try.func29, Try.ntmps29
    go_wp2_with (go_at_call 42; refine (c_l16Nimber _ _).mono ?_; rintro e w' ⟨rfl, rfl⟩)
    clear h1
    go_loopw [3] (fun i wr => ∃ k : Nat, 1 ≤ k ∧ k ≤ 256 ∧ i = .int .i64 k ∧ Hid (∀ j, j < k → Nim.nm a j ≠ 1) ∧ Q w wr) (fun i _ => 256 - (intOf i).toNat)
    case atStart => exact ⟨1, by omega, by omega, rfl, Lib.hid (fun j hj => by obtain rfl : j = 0 := by omega
                                                                               rw [Nim.nm_zero]; omega), Q.refl _⟩
    case round =>
      obtain ⟨k, hk1, hk, rfl, hno, q⟩ := hrel
      by_cases hlt : k < 256
      · by_cases ht : Nim.nm a k = 1
        · have fin : Hid (fInv a = (Nim.pw a 254 : Nat)) := Lib.hid (by
            rcases Nat.eq_zero_or_pos a with rfl | h0
            · rw [Nim.zero_nm] at ht; omega
            · exact fInv_yes h0 (by omega))
          have hpos : Hid (0 < a) := Lib.hid (by
            rcases Nat.eq_zero_or_pos a with rfl | h0
            · rw [Nim.zero_nm] at ht; omega
            · exact h0)
          have hb : (((Nim.nm a k : Nat) : Int) == 1) = true := by simp [ht]
          have Ht := Lib.hid ht
          clear ht
          go_wp2_with (go_at_call 44; refine (c_l16TimesN _ _ _ (by omega) hlt).mono ?_; rintro e w1 ⟨rfl, q1⟩)
          go_ret
          exact ⟨ret_int (by rw [fin.out, ← Nim.inv_only hpos.out (by omega) hlt Ht.out]), q.trans q1⟩
        · have hb : (((Nim.nm a k : Nat) : Int) == 1) = false := by simp; omega
          have Ht := Lib.hid ht
          clear ht
          go_wp2_with (go_at_call 44; refine (c_l16TimesN _ _ _ (by omega) hlt).mono ?_; rintro e w1 ⟨rfl, q1⟩)
          go_roundw
          case rel => exact ⟨k + 1, by omega, by omega, by go_num, Lib.hid (fun j hj => by
            by_cases e : j = k
            · subst e; exact Ht.out
            · exact hno.out j (by omega)), q.trans q1⟩
          case measure => simp [intOf]; omega
      · have fin : Hid (fInv a = -1) := Lib.hid (by
          rcases Nat.eq_zero_or_pos a with rfl | h0
          · exact fInv_no (by omega)
          · exact absurd (Nim.inv_right h0 (by omega)) (hno.out _ (by have := Nim.pw_lt (a := a) (by omega) 254; omega)))
        go_wp2_with fail
        go_ret
        exact ⟨ret_int fin.out.symm, q⟩
end Go.Proofs.Ytoaknbeekflnaaa
