/- Laws' helpers: rInts, rLists, rSum; draws of a code and heaps. -/
import Derived.Test.YtoeacocijcammaaLpC
import Derived.Test.YtoeacocijcammaaLlK
namespace Go.Proofs.Ytoeacocijcammaa
open Go.RowKit

set_option maxRecDepth 100000 in
theorem c_rIntsT (A B : Option Addr) (c d : Nat) (xs : List Int) (w : World) (rx : RdI w A xs.length xs) (ry : RdI w B xs.length xs) (hn : xs.length ≤ 100000000) :
    Calls Try.prog 25 #[.slice A xs.length c, .slice B xs.length d] w fun e w' => e = .returned (.bool true) ∧ Q w w' := by
  have RX := Lib.hid rx
  have RY := Lib.hid ry
  clear rx ry
  go_enter Try.func25, Try.ntmps25
  go_wp2_with fail
  go_loopw [5] (fun i wr => ∃ k : Nat, k ≤ xs.length ∧ i = .int .i64 k ∧ Q w wr) (fun i _ => xs.length - (intOf i).toNat)
  case atStart => exact ⟨0, Nat.zero_le _, rfl, Q.refl _⟩
  case round =>
    rename_i wr
    obtain ⟨k, hk, rfl, q⟩ := hrel
    have Q' := Lib.hid q
    by_cases hlt : k < xs.length
    · obtain ⟨b, off, rfl, _, hcx⟩ := (RX.out.q q).at_ hlt
      obtain ⟨b2, off2, rfl, _, hcy⟩ := (RY.out.q q).at_ hlt
      generalize xs.getD k 0 = y at *
      have hlt2 : (k : Int) < (xs.length : Int) := by omega
      clear q
      go_wp2_with fail
      go_quiet (fail)
      go_wp2_with fail
      go_roundw
      case rel => exact ⟨k + 1, by omega, by go_num, Q'.out.drew _⟩
      case measure => simp [intOf]; omega
    · obtain rfl : k = xs.length := by omega
      clear q
      go_wp2_with fail
      go_ret
      exact ⟨rfl, Q'.out⟩
set_option maxRecDepth 100000 in
theorem c_rSum (A : Option Addr) (c : Nat) (xs : List Int) (w : World) (rx : RdI w A xs.length xs) (hn : xs.length ≤ 100000) (hb : ∀ x ∈ xs, 0 ≤ x ∧ x ≤ 100000) :
    Calls Try.prog 26 #[.slice A xs.length c] w fun e w' => e = .returned (.int .i64 xs.sum) ∧ w = w' := by
  obtain ⟨z, hz⟩ : ∃ z, Hid (xs.sum = z) := ⟨_, Lib.hid rfl⟩
  rw [hz.out]
  have HB := Lib.hid hb
  clear hb
  go_enter Try.func26, Try.ntmps26
  go_wp2_with fail
  go_loop [3, 4] (fun s i => ∃ (k : Nat) (t : Int), k ≤ xs.length ∧ i = .int .i64 k ∧ s = .int .i64 t ∧ 0 ≤ t ∧ t ≤ 100000 * (k : Int) ∧ Hid (t + (xs.drop k).sum = z)) (fun _ i => xs.length - (intOf i).toNat)
  case atStart => exact ⟨0, 0, Nat.zero_le _, rfl, rfl, by omega, by omega, Lib.hid (by simpa using hz.out)⟩
  case round =>
    obtain ⟨k, t, hk, rfl, rfl, t0, t1, hrem⟩ := hrel
    by_cases hlt : k < xs.length
    · obtain ⟨b, off, rfl, _, hcx⟩ := rx.at_ hlt
      have hy := HB.out _ (mem_getD hlt)
      have hd : Hid (t + xs.getD k 0 + (xs.drop (k + 1)).sum = z) := Lib.hid (by
        have := hrem.out
        rw [drop_cons hlt, List.sum_cons] at this; omega)
      generalize xs.getD k 0 = y at *
      have hlt2 : (k : Int) < (xs.length : Int) := by omega
      go_wp2_with fail
      go_round
      case rel => exact ⟨k + 1, t + y, by omega, by go_num, by go_num, by omega, by omega, hd⟩
      case measure => simp [intOf]; omega
    · obtain rfl : k = xs.length := by omega
      have ht : t = z := by have := hrem.out; rw [List.drop_length] at this; simpa using this
      subst ht
      go_wp2_with fail
      go_ret
      exact ⟨rfl, rfl⟩
set_option maxRecDepth 100000 in
set_option maxHeartbeats 1600000 in
theorem c_rListsT (A B : Option Addr) (c d : Nat) (ms : List (List Int)) (rs ss : List Row) (w : World) (rx : RdL w A ms.length rs) (ry : RdL w B ms.length ss) (ex : nums rs = ms) (ey : nums ss = ms) (hn : ms.length ≤ 100000000) (hl : ∀ m ∈ ms, m.length ≤ 100000000) :
    Calls Try.prog 24 #[.slice A ms.length c, .slice B ms.length d] w fun e w' => e = .returned (.bool true) ∧ Q w w' := by
  have RX := Lib.hid rx
  have RY := Lib.hid ry
  have HL := Lib.hid hl
  have EX := Lib.hid ex
  have EY := Lib.hid ey
  clear rx ry hl ex ey
  go_enter Try.func24, Try.ntmps24
  go_wp2_with fail
  go_loopw [5] (fun i wr => ∃ k : Nat, k ≤ ms.length ∧ i = .int .i64 k ∧ Q w wr) (fun i _ => ms.length - (intOf i).toNat)
  case atStart => exact ⟨0, Nat.zero_le _, rfl, Q.refl _⟩
  case round =>
    rename_i wr
    obtain ⟨k, hk, rfl, q⟩ := hrel
    have Q' := Lib.hid q
    by_cases hlt : k < ms.length
    · obtain ⟨b, off, rfl, _, r, _, _, e1, r1, hcx⟩ := (RX.out.q q).at_ hlt
      obtain ⟨b2, off2, rfl, _, s, _, _, e2, r2, hcy⟩ := (RY.out.q q).at_ hlt
      have hlr : r.xs.length ≤ 100000000 := by
        rw [EX.out] at e1; rw [← e1]; exact HL.out _ (by simp [hlt])
      have hrs : s.xs = r.xs := by rw [← e1, ← e2, EX.out, EY.out]
      obtain ⟨sA, sc, sx⟩ := s
      simp only at hrs
      subst hrs
      have HB := Lib.hid (fun (m : Nat) => Q.quiet (n := m) (c_rIntsT r.A sA r.c sc r.xs (wr.drewN m) (RdI.q r1 ((Q.refl wr).drew m)) (RdI.q r2 ((Q.refl wr).drew m)) hlr))
      have hlt2 : (k : Int) < (ms.length : Int) := by omega
      clear q e1 e2 r1 r2
      go_wp2_with fail
      go_quiet ((go_at_call 25; exact HB.out _))
      go_wp2_with fail
      go_roundw
      case rel => exact ⟨k + 1, by omega, by go_num, Q'.out.drew _⟩
      case measure => simp [intOf]; omega
    · obtain rfl : k = ms.length := by omega
      clear q
      go_wp2_with fail
      go_ret
      exact ⟨rfl, Q'.out⟩
end Go.Proofs.Ytoeacocijcammaa
