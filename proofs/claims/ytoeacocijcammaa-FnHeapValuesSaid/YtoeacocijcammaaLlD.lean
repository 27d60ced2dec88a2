/- The program's order of lists of heaps: slices.Compare, cmp.Or, compareHeaps; the sort. -/
import Derived.Test.YtoeacocijcammaaLlC
import Derived.Test.YtoeacocijcammaaCur
import Derived.Test.YtoeacocijcammaaShelf
namespace Go.Proofs.Ytoeacocijcammaa
open Go.RowKit

theorem cmpN_eq (x y : Int) : Lib.compareInt x y = cmpN x y := by
  unfold Lib.compareInt cmpN
  by_cases h : x < y <;> by_cases h' : y < x <;> simp [h, h'] <;> omega
theorem c_cmp (x y z : Int) (h : cmpN x y = z) (w : World) : Calls Try.prog 85 #[.int .i64 x, .int .i64 y] w fun e w' => e = .returned (.int .i64 z) ∧ w = w' :=
  (Try.cmp_Compare_int x y w).mono fun _ _ ⟨he, hw⟩ => ⟨by rw [he, cmpN_eq, h], hw.symm⟩

set_option maxHeartbeats 1600000 in
theorem c_Compare (A B : Option Addr) (n m c d : Nat) (xs ys : List Int) (w : World) (rx : RdI w A n xs) (ry : RdI w B m ys) (hn : n ≤ 100000000) (hm : m ≤ 100000000) :
    Calls Try.prog 86 #[.slice A n c, .slice B m d] w fun e w' => e = .returned (.int .i64 (cmpL xs ys)) ∧ w = w' := by
  have hxl : Hid (xs.length = n) := Lib.hid rx.len
  have hyl : Hid (ys.length = m) := Lib.hid ry.len
  obtain ⟨z, hz⟩ : ∃ z, Hid (cmpL xs ys = z) := ⟨_, Lib.hid rfl⟩
  rw [hz.out]
  go_enter Try.func86, Try.ntmps86
  go_wp2_with fail
  go_loop [11] (fun i => ∃ k : Nat, k ≤ n ∧ k ≤ m ∧ i = .int .i64 k ∧ Hid (cmpL (xs.drop k) (ys.drop k) = z)) (fun i => n - (intOf i).toNat)
  case atStart => exact ⟨0, Nat.zero_le _, Nat.zero_le _, rfl, Lib.hid (by simpa using hz.out)⟩
  case round =>
    obtain ⟨k, hk, hk2, rfl, hd⟩ := hrel
    by_cases h1 : k < n
    · by_cases h2 : k < m
      · obtain ⟨b, off, rfl, _, hc⟩ := rx.at_ h1
        obtain ⟨b', off', rfl, _, hc'⟩ := ry.at_ h2
        have hs := Lib.hid (cmpL_drop (xs := xs) (ys := ys) (k := k) (by rw [hxl.out]; exact h1) (by rw [hyl.out]; exact h2))
        generalize xs.getD k 0 = x at *
        generalize ys.getD k 0 = y at *
        clear rx ry
        have h1' : (k : Int) < n := by omega
        have h2' : (k : Int) < m := by omega
        rcases Int.lt_trichotomy x y with hlt | rfl | hlt
        · have hc3 : cmpN x y = -1 := by simp [cmpN, hlt]
          have fin : Hid (z = -1) := Lib.hid (by rw [← hd.out, hs.out, if_pos hlt])
          have HC := fun w => c_cmp x y _ hc3 w
          clear hc3
          go_wp2_with fail
          refine (HC _).mono ?_
          rintro e w1 ⟨rfl, rfl⟩
          go_wp2_with fail
          go_ret
          exact ⟨ret_int fin.out.symm, rfl⟩
        · have hc3 : cmpN x x = 0 := by simp [cmpN]
          have HC := fun w => c_cmp x x _ hc3 w
          clear hc3
          go_wp2_with fail
          refine (HC _).mono ?_
          rintro e w1 ⟨rfl, rfl⟩
          go_wp2_with fail
          go_round
          case rel => exact ⟨k + 1, by omega, by omega, by go_num, Lib.hid (by rw [← hd.out, hs.out, if_neg (by omega), if_neg (by omega)])⟩
          case measure => simp [intOf]; omega
        · have hnl : ¬ x < y := by omega
          have hc3 : cmpN x y = 1 := by simp [cmpN, hlt, hnl]
          have fin : Hid (z = 1) := Lib.hid (by rw [← hd.out, hs.out, if_neg hnl, if_pos hlt])
          have HC := fun w => c_cmp x y _ hc3 w
          clear hc3
          go_wp2_with fail
          refine (HC _).mono ?_
          rintro e w1 ⟨rfl, rfl⟩
          go_wp2_with fail
          go_ret
          exact ⟨ret_int fin.out.symm, rfl⟩
      · obtain rfl : k = m := by omega
        have fin : Hid (z = 1) := Lib.hid (by rw [← hd.out]; exact cmpL_end2 (by rw [hxl.out]; exact h1) hyl.out)
        obtain ⟨b, off, rfl, _, hc⟩ := rx.at_ h1
        have h1' : (k : Int) < n := by omega
        go_wp2_with fail
        go_ret
        exact ⟨ret_int fin.out.symm, rfl⟩
    · obtain rfl : k = n := by omega
      by_cases h2 : k < m
      · have fin : Hid (z = -1) := Lib.hid (by rw [← hd.out]; exact cmpL_end1 hxl.out (by rw [hyl.out]; exact h2))
        go_wp2_with fail
        go_ret
        exact ⟨ret_int fin.out.symm, rfl⟩
      · obtain rfl : k = m := by omega
        have fin : Hid (z = 0) := Lib.hid (by rw [← hd.out]; exact cmpL_end0 hxl.out hyl.out)
        go_wp2_with fail
        go_ret
        exact ⟨ret_int fin.out.symm, rfl⟩
/-- The first of two numbers that is not 0. -/
def or2 (a b : Int) : Int := if a = 0 then b else a
theorem cmpH_or (xs ys : List Int) : cmpH xs ys = or2 (cmpN xs.length ys.length) (cmpL xs ys) := by
  unfold cmpH or2 cmpN
  by_cases h : xs.length < ys.length
  · simp [h]
  · by_cases h' : ys.length < xs.length
    · simp [h, h']
    · simp [h, h']
set_option maxHeartbeats 1600000 in
theorem c_Or (g : Nat) (a b : Int) (w : World) (h0 : w.cell? ⟨g, 0, none⟩ = some (.int .i64 a)) (h1 : w.cell? ⟨g, 1, none⟩ = some (.int .i64 b)) :
    Calls Try.prog 84 #[.slice (some ⟨g, 0, none⟩) 2 2] w fun e w' => e = .returned (.int .i64 (or2 a b)) ∧ w = w' := by
  by_cases ha : a = 0
  · subst ha
    have fin : Hid (or2 0 b = b) := Lib.hid rfl
    by_cases hb : b = 0
    · subst hb
      go_enter Try.func84, Try.ntmps84
      go_wp2_with fail
      refine wp_loop_rounds 3 ?_
      rw [rounds_succ]
      go_wp2_with fail
      rw [rounds_succ]
      go_wp2_with fail
      rw [rounds_succ]
      go_wp2_with fail
      go_ret
      exact ⟨rfl, rfl⟩
    · have hb' : (b == 0) = false := by simpa using hb
      have hb2 : (b != 0) = true := by simpa using hb
      go_enter Try.func84, Try.ntmps84
      go_wp2_with fail
      refine wp_loop_rounds 2 ?_
      rw [rounds_succ]
      go_wp2_with fail
      rw [rounds_succ]
      go_wp2_with fail
      go_ret
      exact ⟨ret_int fin.out.symm, rfl⟩
  · have fin : Hid (or2 a b = a) := Lib.hid (by simp [or2, ha])
    have hb' : (a == 0) = false := by simpa using ha
    have hb2 : (a != 0) = true := by simpa using ha
    go_enter Try.func84, Try.ntmps84
    go_wp2_with fail
    refine wp_loop_rounds 1 ?_
    rw [rounds_succ]
    go_wp2_with fail
    go_ret
    exact ⟨ret_int fin.out.symm, rfl⟩
theorem c_compareHeaps (A B : Option Addr) (n m c d : Nat) (xs ys : List Int) (w : World) (rx : RdI w A n xs) (ry : RdI w B m ys) (hn : n ≤ 100000000) (hm : m ≤ 100000000) :
    Calls Try.prog 77 #[.slice A n c, .slice B m d] w fun e w' => e = .returned (.int .i64 (cmpH xs ys)) ∧ ∃ o, w' = w.alloc o := by
  obtain ⟨z, hz⟩ : ∃ z, Hid (cmpN xs.length ys.length = z) := ⟨_, Lib.hid rfl⟩
  obtain ⟨u, hu⟩ : ∃ z, Hid (cmpL xs ys = z) := ⟨_, Lib.hid rfl⟩
  have fin : Hid (cmpH xs ys = or2 z u) := Lib.hid (by rw [cmpH_or, hz.out, hu.out])
  have HN : ∀ w, Calls Try.prog 85 #[.int .i64 (n : Int), .int .i64 (m : Int)] w fun e w' => e = .returned (.int .i64 z) ∧ w = w' := fun w => c_cmp _ _ _ (by rw [← rx.len, ← ry.len]; exact hz.out) w
  have HL := c_Compare A B n m c d xs ys w rx ry hn hm
  rw [hu.out] at HL
  rw [fin.out]
  clear rx ry
  go_enter Try.func77, Try.ntmps77
  go_wp2_with fail
  refine (HN _).mono ?_
  rintro e w1 ⟨rfl, rfl⟩
  go_wp2_with fail
  refine HL.mono ?_
  rintro e w1 ⟨rfl, rfl⟩
  have k0 : (w.alloc (.cells #[.int .i64 z, .int .i64 u] 3)).cell? ⟨w.heap.size, 0, none⟩ = some (.int .i64 z) := by rw [cell_of_row _ _ _ _ _ _ (heap_alloc_new w _)]; rfl
  have k1 : (w.alloc (.cells #[.int .i64 z, .int .i64 u] 3)).cell? ⟨w.heap.size, 1, none⟩ = some (.int .i64 u) := by rw [cell_of_row _ _ _ _ _ _ (heap_alloc_new w _)]; rfl
  have HO := c_Or _ _ _ _ k0 k1
  clear k0 k1
  go_wp2_with fail
  refine HO.mono ?_
  rintro e w1 ⟨rfl, rfl⟩
  go_wp2_with fail
  go_ret
  exact ⟨rfl, _, rfl⟩
end Go.Proofs.Ytoeacocijcammaa
