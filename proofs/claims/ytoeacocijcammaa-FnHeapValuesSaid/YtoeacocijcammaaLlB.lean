/- The reference's order of lists: l3List, l17Ahead, l17Put. -/
import Derived.Test.YtoeacocijcammaaLlA
import Derived.Deep.AppendLies
import Derived.Deep.RegionLaw
namespace Go.Proofs.Ytoeacocijcammaa
open Go.RowKit

theorem cmpL_drop {xs ys : List Int} {k : Nat} (h1 : k < xs.length) (h2 : k < ys.length) : cmpL (xs.drop k) (ys.drop k) =
    if xs.getD k 0 < ys.getD k 0 then -1 else if ys.getD k 0 < xs.getD k 0 then 1 else cmpL (xs.drop (k + 1)) (ys.drop (k + 1)) := by
  rw [List.drop_eq_getElem_cons h1, List.drop_eq_getElem_cons h2]
  simp [cmpL, h1, h2]
theorem cmpL_end1 {xs ys : List Int} {k : Nat} (h1 : xs.length = k) (h2 : k < ys.length) : cmpL (xs.drop k) (ys.drop k) = -1 := by
  rw [List.drop_of_length_le (by omega), List.drop_eq_getElem_cons h2]; rfl
theorem cmpL_end2 {xs ys : List Int} {k : Nat} (h1 : k < xs.length) (h2 : ys.length = k) : cmpL (xs.drop k) (ys.drop k) = 1 := by
  rw [List.drop_of_length_le (l := ys) (by omega), List.drop_eq_getElem_cons h1]; rfl
theorem cmpL_end0 {xs ys : List Int} {k : Nat} (h1 : xs.length = k) (h2 : ys.length = k) : cmpL (xs.drop k) (ys.drop k) = 0 := by
  rw [List.drop_of_length_le (by omega), List.drop_of_length_le (by omega)]; rfl

set_option maxHeartbeats 1600000 in
theorem c_l3List (A B : Option Addr) (n m c d : Nat) (xs ys : List Int) (w : World) (rx : RdI w A n xs) (ry : RdI w B m ys) (hn : n ≤ 100000000) (hm : m ≤ 100000000) :
    Calls Try.prog 75 #[.slice A n c, .slice B m d] w fun e w' => e = .returned (.int .i64 (cmpL xs ys)) ∧ Q w w' := by
  have hxl : Hid (xs.length = n) := Lib.hid rx.len
  have hyl : Hid (ys.length = m) := Lib.hid ry.len
  obtain ⟨z, hz⟩ : ∃ z, Hid (cmpL xs ys = z) := ⟨_, Lib.hid rfl⟩
  rw [hz.out]
  go_enter Try.func75, Try.ntmps75
  go_wp2_with fail
  go_loopw [5] (fun i wr => ∃ k : Nat, k ≤ n ∧ k ≤ m ∧ i = .int .i64 k ∧ Q w wr ∧ Hid (cmpL (xs.drop k) (ys.drop k) = z)) (fun i _ => n - (intOf i).toNat)
  case atStart => exact ⟨0, Nat.zero_le _, Nat.zero_le _, rfl, Q.refl _, Lib.hid (by simpa using hz.out)⟩
  case round =>
    rename_i wr
    obtain ⟨k, hk, hk2, rfl, q, hd⟩ := hrel
    by_cases h1 : k < n
    · by_cases h2 : k < m
      · obtain ⟨b, off, rfl, _, hc⟩ := (rx.q q).at_ h1
        obtain ⟨b', off', rfl, _, hc'⟩ := (ry.q q).at_ h2
        have hs := Lib.hid (cmpL_drop (xs := xs) (ys := ys) (k := k) (by rw [hxl.out]; exact h1) (by rw [hyl.out]; exact h2))
        generalize xs.getD k 0 = x at *
        generalize ys.getD k 0 = y at *
        have Q' := Lib.hid q
        clear rx ry q
        have h1' : (k : Int) < n := by omega
        have h2' : (k : Int) < m := by omega
        rcases Int.lt_trichotomy x y with hlt | rfl | hlt
        · have hne : (x == y) = false := by simp; omega
          have hne' : (x != y) = true := by simp; omega
          have fin : Hid (z = -1) := Lib.hid (by rw [← hd.out, hs.out, if_pos hlt])
          go_wp2_with fail
          go_quiet (fail)
          go_wp2_with fail
          go_quiet (fail)
          go_wp2_with fail
          go_ret
          exact ⟨ret_int fin.out.symm, (Q'.out.drew _).drew _⟩
        · go_wp2_with fail
          go_quiet (fail)
          go_wp2_with fail
          go_roundw
          case rel => exact ⟨k + 1, by omega, by omega, by go_num, Q'.out.drew _, Lib.hid (by rw [← hd.out, hs.out, if_neg (by omega), if_neg (by omega)])⟩
          case measure => simp [intOf]; omega
        · have hne : (x == y) = false := by simp; omega
          have hne' : (x != y) = true := by simp; omega
          have hnl : ¬ x < y := by omega
          have fin : Hid (z = 1) := Lib.hid (by rw [← hd.out, hs.out, if_neg hnl, if_pos hlt])
          go_wp2_with fail
          go_quiet (fail)
          go_wp2_with fail
          go_quiet (fail)
          go_wp2_with fail
          go_ret
          exact ⟨ret_int fin.out.symm, (Q'.out.drew _).drew _⟩
      · obtain rfl : k = m := by omega
        have fin : Hid (z = 1) := Lib.hid (by rw [← hd.out]; exact cmpL_end2 (by rw [hxl.out]; exact h1) hyl.out)
        have h3 : ¬ n < k := by omega
        go_wp2_with fail
        go_ret
        exact ⟨ret_int fin.out.symm, q⟩
    · obtain rfl : k = n := by omega
      by_cases h2 : k < m
      · have fin : Hid (z = -1) := Lib.hid (by rw [← hd.out]; exact cmpL_end1 hxl.out (by rw [hyl.out]; exact h2))
        go_wp2_with fail
        go_ret
        exact ⟨ret_int fin.out.symm, q⟩
      · obtain rfl : k = m := by omega
        have fin : Hid (z = 0) := Lib.hid (by rw [← hd.out]; exact cmpL_end0 hxl.out hyl.out)
        go_wp2_with fail
        go_ret
        exact ⟨ret_int fin.out.symm, q⟩
def ahead (xs ys : List Int) : Bool := decide (LtH xs ys)
theorem ahead_len {xs ys : List Int} (h : xs.length < ys.length) : ahead xs ys = true := by simp [ahead, LtH, cmpH, h]
theorem ahead_len2 {xs ys : List Int} (h : ys.length < xs.length) : ahead xs ys = false := by simp [ahead, LtH, cmpH, h, show ¬ xs.length < ys.length by omega]
theorem ahead_eq {xs ys : List Int} (h : xs.length = ys.length) : ahead xs ys = decide (cmpL xs ys < 0) := by simp [ahead, LtH, cmpH, h]
theorem c_l17Ahead (A B : Option Addr) (n m c d : Nat) (xs ys : List Int) (w : World) (rx : RdI w A n xs) (ry : RdI w B m ys) (hn : n ≤ 100000000) (hm : m ≤ 100000000) :
    Calls Try.prog 74 #[.slice A n c, .slice B m d] w fun e w' => e = .returned (.bool (ahead xs ys)) ∧ Q w w' := by
  have hxl := rx.len
  have hyl := ry.len
  rcases Nat.lt_trichotomy n m with h | h | h
  · have fin := Lib.hid (ahead_len (xs := xs) (ys := ys) (by omega))
    clear hxl hyl
    go_enter Try.func74, Try.ntmps74
    go_wp2_with fail
    go_ret
    exact ⟨ret_bool (by rw [fin.out]), Q.refl _⟩
  · subst h
    have fin := Lib.hid (ahead_eq (xs := xs) (ys := ys) (by omega))
    clear hxl hyl
    go_enter Try.func74, Try.ntmps74
    go_wp2_with fail
    refine (c_l3List A B n n c d xs ys _ rx ry hn hm).mono ?_
    rintro e w1 ⟨rfl, q⟩
    go_wp2_with fail
    go_ret
    exact ⟨ret_bool fin.out.symm, q⟩
  · have fin := Lib.hid (ahead_len2 (xs := xs) (ys := ys) (by omega))
    have h' : ¬ n < m := by omega
    clear hxl hyl
    go_enter Try.func74, Try.ntmps74
    go_wp2_with fail
    go_ret
    exact ⟨ret_bool (by rw [fin.out]), Q.refl _⟩
end Go.Proofs.Ytoeacocijcammaa
