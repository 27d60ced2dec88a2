/- Numbers' texts: the decimal text of a number by the reference. -/
import Derived.Test.YtcogdogiceokdaaDoorTxE
import Derived.Laws.BytesArg
import Derived.Lib.ItoaNum
import Derived.BigQuiet
import Derived.IntWalk
namespace Go.Proofs.YtcogdogiceokdaaDoor
open Go.RowKit

/-- The decimal digits of a number. -/
def digB (u : Nat) : List Int := if u < 10 then [48 + (u : Int)] else digB (u / 10) ++ [48 + ((u % 10 : Nat) : Int)]
termination_by u
decreasing_by omega
def numB (n : Int) : List Int := if n < 0 then 45 :: digB n.natAbs else digB n.toNat
theorem digB_lt {u : Nat} (h : u < 10) : digB u = [48 + (u : Int)] := by unfold digB; rw [if_pos h]
theorem digB_ge {u : Nat} (h : ¬ u < 10) : digB u = digB (u / 10) ++ [48 + ((u % 10 : Nat) : Int)] := by
  conv => lhs; unfold digB
  rw [if_neg h]
theorem numB_nat (u : Nat) : numB (u : Int) = digB u := by unfold numB; rw [if_neg (by omega)]; simp
theorem numB_neg {u : Nat} (h : 1 ≤ u) : numB (-(u : Int)) = 45 :: digB u := by unfold numB; rw [if_pos (by omega)]; simp
theorem digB_len : ∀ (f u : Nat), u < 10 ^ (f + 1) → (digB u).length ≤ f + 1
  | 0, u, h => by rw [digB_lt (by omega)]; simp
  | f + 1, u, h => by
    by_cases h0 : u < 10
    · rw [digB_lt h0]; simp
    · rw [digB_ge h0]
      have := digB_len f (u / 10) (by rw [Nat.pow_succ] at h; omega)
      simp; omega
theorem digB_itoa (u : Nat) : strOfNums (digB u) = ⟨(Lib.decDigits u).toArray⟩ := by
  induction u using Nat.strongRecOn with
  | _ u ih =>
    by_cases h : u < 10
    · rw [digB_lt h, Lib.decDigits, dif_pos h]
      have : u = 0 ∨ u = 1 ∨ u = 2 ∨ u = 3 ∨ u = 4 ∨ u = 5 ∨ u = 6 ∨ u = 7 ∨ u = 8 ∨ u = 9 := by omega
      rcases this with rfl | rfl | rfl | rfl | rfl | rfl | rfl | rfl | rfl | rfl <;> rfl
    · rw [digB_ge h, Lib.decDigits, dif_neg h, ← str_add, ih (u / 10) (by omega)]
      have hr : u % 10 < 10 := Nat.mod_lt _ (by omega)
      generalize u % 10 = r at *
      have e : strOfNums [48 + (r : Int)] = ⟨#[UInt8.ofNat (48 + r)]⟩ := by
        have : r = 0 ∨ r = 1 ∨ r = 2 ∨ r = 3 ∨ r = 4 ∨ r = 5 ∨ r = 6 ∨ r = 7 ∨ r = 8 ∨ r = 9 := by omega
        rcases this with rfl | rfl | rfl | rfl | rfl | rfl | rfl | rfl | rfl | rfl <;> rfl
      rw [e, ByteArray.mk_append_mk]
theorem numB_itoa (n : Int) : strOfNums (numB n) = ⟨(Lib.itoa n).toArray⟩ := by
  unfold numB Lib.itoa
  split
  · have := str_add [45] (digB n.natAbs)
    rw [show (45 : Int) :: digB n.natAbs = [45] ++ digB n.natAbs from rfl, ← this, digB_itoa]
    show ByteArray.append _ _ = _
    rw [show strOfNums [45] = ⟨#[45]⟩ from rfl]
    show (⟨#[45]⟩ : ByteArray) ++ _ = _
    rw [ByteArray.mk_append_mk]
    simp
  · exact digB_itoa _
theorem s_l1Num_lt (n : Int) (w : World) (h0 : 0 ≤ n) (h1 : n < 10) :
    Calls Tryd.prog 33 #[.int .i64 n] w fun e w' => e = .returned (.string (strOfNums [48 + n])) ∧ w = w' := by
  have hn : n = 0 ∨ n = 1 ∨ n = 2 ∨ n = 3 ∨ n = 4 ∨ n = 5 ∨ n = 6 ∨ n = 7 ∨ n = 8 ∨ n = 9 := by omega
  clear h0 h1
  rcases hn with rfl | rfl | rfl | rfl | rfl | rfl | rfl | rfl | rfl | rfl
  all_goals
    go_enter Tryd.func33, Tryd.ntmps33
    go_wp2_with fail
    go_ret
    exact ⟨rfl, rfl⟩
set_option maxHeartbeats 1600000 in
theorem s_l1Num_ge (n q r : Int) (L : List Int) (w : World) (h0 : 10 ≤ n) (h1 : n ≤ 1000000000000) (hq : n = 10 * q + r) (hr0 : 0 ≤ r) (hr1 : r < 10) (hL : L.length ≤ 13)
    (IH : ∀ w : World, Calls Tryd.prog 33 #[.int .i64 q] w fun e w' => e = .returned (.string (strOfNums L)) ∧ Q w w') :
    Calls Tryd.prog 33 #[.int .i64 n] w fun e w' => e = .returned (.string (strOfNums (L ++ [48 + r]))) ∧ Q w w' := by
  have hadd := fun (w : World) => run_str_add (P := Tryd.prog) L [48 + r] w (by simp; omega)
  have hqd : n.tdiv 10 = q := by rw [Int.tdiv_eq_ediv_of_nonneg (by omega)]; omega
  have hrd : n.tmod 10 = r := by rw [Int.tmod_eq_emod_of_nonneg (by omega)]; omega
  have hwq : IntKind.i64.wrap q = q := IntWalk.i64_in _ (by omega)
  have hwd : IntKind.i64.wrap (n.tdiv 10) = q := by rw [hqd, hwq]
  have hu0 : ¬ n < 0 := by omega
  have hu10 : ¬ n < 10 := by omega
  have hq0 : 0 ≤ q := by omega
  have hq1 : q ≤ 100000000000 := by omega
  have HN := Lib.hid (fun (m : Nat) (w : World) => Q.quiet (n := m) (IH (w.drewN m)))
  clear IH
  have hr2 : r = 0 ∨ r = 1 ∨ r = 2 ∨ r = 3 ∨ r = 4 ∨ r = 5 ∨ r = 6 ∨ r = 7 ∨ r = 8 ∨ r = 9 := by omega
  clear hq hr0 hr1
  rcases hr2 with rfl | rfl | rfl | rfl | rfl | rfl | rfl | rfl | rfl | rfl
  · have hw1 : IntKind.i64.wrap 1 = 1 := by decide
    have hsl : strOfNums [48 + 0] = ByteArray.extract ⟨#[48, 49, 50, 51, 52, 53, 54, 55, 56, 57]⟩ 0 1 := rfl
    rw [hsl] at hadd
    go_enter Tryd.func33, Tryd.ntmps33
    go_wp2_with fail
    go_quiet ((go_at_call 33; (try rw [hwd]); exact HN.out _ _))
    go_wp2_with fail
    go_ret
    exact ⟨rfl, _, rfl⟩
  · have hw1 : IntKind.i64.wrap 2 = 2 := by decide
    have hsl : strOfNums [48 + 1] = ByteArray.extract ⟨#[48, 49, 50, 51, 52, 53, 54, 55, 56, 57]⟩ 1 2 := rfl
    rw [hsl] at hadd
    go_enter Tryd.func33, Tryd.ntmps33
    go_wp2_with fail
    go_quiet ((go_at_call 33; (try rw [hwd]); exact HN.out _ _))
    go_wp2_with fail
    go_ret
    exact ⟨rfl, _, rfl⟩
  · have hw1 : IntKind.i64.wrap 3 = 3 := by decide
    have hsl : strOfNums [48 + 2] = ByteArray.extract ⟨#[48, 49, 50, 51, 52, 53, 54, 55, 56, 57]⟩ 2 3 := rfl
    rw [hsl] at hadd
    go_enter Tryd.func33, Tryd.ntmps33
    go_wp2_with fail
    go_quiet ((go_at_call 33; (try rw [hwd]); exact HN.out _ _))
    go_wp2_with fail
    go_ret
    exact ⟨rfl, _, rfl⟩
  · have hw1 : IntKind.i64.wrap 4 = 4 := by decide
    have hsl : strOfNums [48 + 3] = ByteArray.extract ⟨#[48, 49, 50, 51, 52, 53, 54, 55, 56, 57]⟩ 3 4 := rfl
    rw [hsl] at hadd
    go_enter Tryd.func33, Tryd.ntmps33
    go_wp2_with fail
    go_quiet ((go_at_call 33; (try rw [hwd]); exact HN.out _ _))
    go_wp2_with fail
    go_ret
    exact ⟨rfl, _, rfl⟩
  · have hw1 : IntKind.i64.wrap 5 = 5 := by decide
    have hsl : strOfNums [48 + 4] = ByteArray.extract ⟨#[48, 49, 50, 51, 52, 53, 54, 55, 56, 57]⟩ 4 5 := rfl
    rw [hsl] at hadd
    go_enter Tryd.func33, Tryd.ntmps33
    go_wp2_with fail
    go_quiet ((go_at_call 33; (try rw [hwd]); exact HN.out _ _))
    go_wp2_with fail
    go_ret
    exact ⟨rfl, _, rfl⟩
  · have hw1 : IntKind.i64.wrap 6 = 6 := by decide
    have hsl : strOfNums [48 + 5] = ByteArray.extract ⟨#[48, 49, 50, 51, 52, 53, 54, 55, 56, 57]⟩ 5 6 := rfl
    rw [hsl] at hadd
    go_enter Tryd.func33, Tryd.ntmps33
    go_wp2_with fail
    go_quiet ((go_at_call 33; (try rw [hwd]); exact HN.out _ _))
    go_wp2_with fail
    go_ret
    exact ⟨rfl, _, rfl⟩
  · have hw1 : IntKind.i64.wrap 7 = 7 := by decide
    have hsl : strOfNums [48 + 6] = ByteArray.extract ⟨#[48, 49, 50, 51, 52, 53, 54, 55, 56, 57]⟩ 6 7 := rfl
    rw [hsl] at hadd
    go_enter Tryd.func33, Tryd.ntmps33
    go_wp2_with fail
    go_quiet ((go_at_call 33; (try rw [hwd]); exact HN.out _ _))
    go_wp2_with fail
    go_ret
    exact ⟨rfl, _, rfl⟩
  · have hw1 : IntKind.i64.wrap 8 = 8 := by decide
    have hsl : strOfNums [48 + 7] = ByteArray.extract ⟨#[48, 49, 50, 51, 52, 53, 54, 55, 56, 57]⟩ 7 8 := rfl
    rw [hsl] at hadd
    go_enter Tryd.func33, Tryd.ntmps33
    go_wp2_with fail
    go_quiet ((go_at_call 33; (try rw [hwd]); exact HN.out _ _))
    go_wp2_with fail
    go_ret
    exact ⟨rfl, _, rfl⟩
  · have hw1 : IntKind.i64.wrap 9 = 9 := by decide
    have hsl : strOfNums [48 + 8] = ByteArray.extract ⟨#[48, 49, 50, 51, 52, 53, 54, 55, 56, 57]⟩ 8 9 := rfl
    rw [hsl] at hadd
    go_enter Tryd.func33, Tryd.ntmps33
    go_wp2_with fail
    go_quiet ((go_at_call 33; (try rw [hwd]); exact HN.out _ _))
    go_wp2_with fail
    go_ret
    exact ⟨rfl, _, rfl⟩
  · have hw1 : IntKind.i64.wrap 10 = 10 := by decide
    have hsl : strOfNums [48 + 9] = ByteArray.extract ⟨#[48, 49, 50, 51, 52, 53, 54, 55, 56, 57]⟩ 9 10 := rfl
    rw [hsl] at hadd
    go_enter Tryd.func33, Tryd.ntmps33
    go_wp2_with fail
    go_quiet ((go_at_call 33; (try rw [hwd]); exact HN.out _ _))
    go_wp2_with fail
    go_ret
    exact ⟨rfl, _, rfl⟩
theorem s_l1Num_nat : ∀ (u : Nat) (w : World), u ≤ 1000000000000 → Calls Tryd.prog 33 #[.int .i64 (u : Int)] w fun e w' => e = .returned (.string (strOfNums (digB u))) ∧ Q w w' := by
  intro u
  induction u using Nat.strongRecOn with
  | _ u ih =>
    intro w hu
    by_cases h : u < 10
    · rw [digB_lt h]
      exact (s_l1Num_lt u w (by omega) (by omega)).mono fun e w' ⟨h1, h2⟩ => ⟨h1, by subst h2; exact Q.refl _⟩
    · rw [digB_ge h]
      exact s_l1Num_ge u (u / 10 : Nat) (u % 10 : Nat) _ w (by omega) (by omega) (by omega) (by omega) (by omega) (by
        have := digB_len 12 (u / 10) (by omega); omega) (fun w => ih (u / 10) (by omega) w (by omega))
theorem numB_len {n : Int} (h0 : -1000000000000 ≤ n) (h1 : n ≤ 1000000000000) : (numB n).length ≤ 14 := by
  unfold numB
  split
  · have := digB_len 12 n.natAbs (by omega); simp; omega
  · have := digB_len 12 n.toNat (by omega); omega
set_option maxHeartbeats 800000 in
theorem s_l1Num (n : Int) (w : World) (h0 : -1000000000000 ≤ n) (h1 : n ≤ 1000000000000) : Calls Tryd.prog 33 #[.int .i64 n] w fun e w' => e = .returned (.string (strOfNums (numB n))) ∧ Q w w' := by
  by_cases h : n < 0
  · obtain ⟨u, hu⟩ : ∃ u : Nat, n = -(u : Int) := ⟨n.natAbs, by omega⟩
    have hl := digB_len 12 u (by omega)
    have e1 : numB n = 45 :: digB u := by rw [hu, numB_neg (by omega)]
    rw [e1]
    have HU := fun w => s_l1Num_nat u w (by omega)
    rw [show (u : Int) = -n by omega] at HU
    have HU := Lib.hid HU
    have hadd := fun (w : World) => run_str_add (P := Tryd.prog) [45] (digB u) w (by simp; omega)
    rw [show strOfNums [45] = ⟨#[45]⟩ from rfl] at hadd
    have hneg : IntKind.i64.wrap (-n) = -n := IntWalk.i64_in _ (by omega)
    generalize digB u = L at *
    clear hu e1
    go_enter Tryd.func33, Tryd.ntmps33
    go_wp2_with fail
    refine (HU.out _).mono ?_
    rintro e w1 ⟨rfl, q⟩
    go_wp2_with fail
    go_ret
    exact ⟨rfl, q⟩
  · obtain ⟨u, rfl⟩ := Int.eq_ofNat_of_zero_le (show 0 ≤ n by omega)
    rw [numB_nat]
    exact s_l1Num_nat u w (by omega)
/-- NumText, of both. -/
def numT (n : Int) : ByteArray × Bool := if decide (-999999 ≤ n) && decide (n ≤ 999999) then (strOfNums (numB n), true) else (ByteArray.empty, false)
end Go.Proofs.YtcogdogiceokdaaDoor
