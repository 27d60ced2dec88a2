/- The least number that does not occur: the contracts of both. -/
import Derived.Test.YtoeacocijcammaaMem
import Derived.Handy
import Derived.BigGuardPart
namespace Go.Proofs.Ytoeacocijcammaa
open Go.RowKit

/-- From k on, with fuel: the first number that does not occur. -/
def mexF (xs : List Int) : Nat → Nat → Nat
  | 0, k => k
  | f + 1, k => if (k : Int) ∈ xs then mexF xs f (k + 1) else k
def mex (xs : List Int) : Nat := mexF xs (xs.length + 1) 0
theorem pigeon : ∀ (n : Nat) (xs : List Int), (∀ i, i < n → (i : Int) ∈ xs) → n ≤ xs.length
  | 0, _, _ => Nat.zero_le _
  | n + 1, xs, h => by
    have hm := h n (by omega)
    have ih := pigeon n (xs.erase (n : Int)) (fun i hi => (List.mem_erase_of_ne (by omega)).2 (h i (by omega)))
    rw [List.length_erase_of_mem hm] at ih
    have := List.length_pos_of_mem hm
    omega
theorem mexF_spec (xs : List Int) : ∀ (f k : Nat), (∀ i, i < k → (i : Int) ∈ xs) → xs.length < k + f → (∀ i, i < mexF xs f k → (i : Int) ∈ xs) ∧ ((mexF xs f k : Nat) : Int) ∉ xs
  | 0, k, h, hl => absurd (pigeon k xs h) (by omega)
  | f + 1, k, h, hl => by
    unfold mexF
    by_cases hk : (k : Int) ∈ xs
    · rw [if_pos hk]
      exact mexF_spec xs f (k + 1) (fun i hi => by
        by_cases e : i = k
        · subst e; exact hk
        · exact h i (by omega)) (by omega)
    · rw [if_neg hk]
      exact ⟨h, hk⟩
theorem mex_all (xs : List Int) : ∀ i, i < mex xs → (i : Int) ∈ xs := (mexF_spec xs _ 0 (fun i hi => absurd hi (by omega)) (by omega)).1
theorem mex_not (xs : List Int) : ((mex xs : Nat) : Int) ∉ xs := (mexF_spec xs _ 0 (fun i hi => absurd hi (by omega)) (by omega)).2
theorem mex_eq {xs : List Int} {k : Nat} (h : ∀ i, i < k → (i : Int) ∈ xs) (hk : (k : Int) ∉ xs) : mex xs = k := by
  rcases Nat.lt_trichotomy (mex xs) k with h1 | h1 | h1
  · exact absurd (h _ h1) (mex_not xs)
  · exact h1
  · exact absurd (mex_all xs k h1) hk
theorem mex_le (xs : List Int) : mex xs ≤ xs.length := pigeon _ _ (mex_all xs)
def mexV (xs : List Int) : Int := if 300 < xs.length then -1 else if xs.any (· < 0) then -1 else (mex xs : Nat)

set_option maxHeartbeats 800000 in
theorem c_l1Has (A : Option Addr) (c : Nat) (xs : List Int) (n : Int) (w : World) (rd : RdI w A xs.length xs) (hl : xs.length ≤ 1000000000) :
    Calls Try.prog 80 #[.slice A xs.length c, .int .i64 n] w fun e w' => e = .returned (.bool (decide (n ∈ xs))) ∧ w = w' := by
  obtain ⟨r, hr⟩ : ∃ r, Hid (decide (n ∈ xs) = r) := ⟨_, Lib.hid rfl⟩
  rw [hr.out]
  go_enter Try.func80, Try.ntmps80
  go_wp2_with fail
  go_loop [5] (fun i => ∃ k : Nat, k ≤ xs.length ∧ i = .int .i64 k ∧ Hid (r = decide (n ∈ xs.drop k))) (fun i => xs.length - (intOf i).toNat)
  case atStart => exact ⟨0, Nat.zero_le _, rfl, Lib.hid hr.out.symm⟩
  case round =>
    obtain ⟨k, hk, rfl, hrem⟩ := hrel
    by_cases hlt : k < xs.length
    · obtain ⟨b, off, rfl, _, hcx⟩ := rd.at_ hlt
      have hd : Hid (xs.drop k = xs.getD k 0 :: xs.drop (k + 1)) := Lib.hid (by rw [List.drop_eq_getElem_cons hlt]; simp [hlt])
      generalize xs.getD k 0 = y at *
      by_cases he : y = n
      · have he' : (y == n) = true := by simp [he]
        have hres : Hid (true = r) := Lib.hid (by rw [hrem.out, hd.out, he]; simp)
        clear he
        go_wp2_with fail
        go_ret
        exact ⟨ret_bool hres.out, rfl⟩
      · have he' : (y == n) = false := by simp [he]
        have hrem' : Hid (r = decide (n ∈ xs.drop (k + 1))) := Lib.hid (by rw [hrem.out, hd.out]; simp [Ne.symm he])
        clear he
        go_wp2_with fail
        go_round
        case rel => exact ⟨k + 1, by omega, by go_num, hrem'⟩
        case measure => simp [intOf]; omega
    · have hres : Hid (false = r) := Lib.hid (by rw [hrem.out, List.drop_of_length_le (by omega)]; simp)
      go_wp2_with fail
      go_ret
      exact ⟨ret_bool hres.out, rfl⟩


theorem mk_bools (n : Nat) (hn : n ≤ 16777216) (W : World) :
    (Instr.makeSlice 70 (.int .i64 (n : Int)) (.int .i64 (n : Int))).run Try.prog W = .ok (.slice (some ⟨W.heap.size, 0, none⟩) n n) (W.alloc (.cells (madeCells #[.bool false] n) 4)) :=
  run_make_row' (P := Try.prog) 70 4 (.bool false) 1 Try.underlying70 (by kernel_rfl) rfl .i64 .i64 n (by omega) (by omega) W
end Go.Proofs.Ytoeacocijcammaa
