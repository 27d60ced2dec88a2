/- Octal codes and periods: contracts of GoodCode, GoodPeriod and Repeats, the walks of their laws and of that of Mex. -/
import Derived.Test.YtoeacocijcammaaGen
import Derived.Test.YtoeacocijcammaaMex
namespace Go.Proofs.Ytoeacocijcammaa
open Go.RowKit

def goodC (xs : List Int) : Bool := decide (1 ≤ xs.length) && decide (xs.length ≤ 6) && xs.all (fun d => decide (0 ≤ d) && decide (d ≤ 7)) && !(xs.getD (xs.length - 1) 0 == 0)
theorem goodC_iff {xs : List Int} : goodC xs = true ↔ 1 ≤ xs.length ∧ xs.length ≤ 6 ∧ (∀ d ∈ xs, 0 ≤ d ∧ d ≤ 7) ∧ xs.getD (xs.length - 1) 0 ≠ 0 := by
  simp only [goodC, Bool.and_eq_true, decide_eq_true_eq, List.all_eq_true, Bool.not_eq_true', beq_eq_false_iff_ne, and_assoc]
theorem goodC_none {xs : List Int} (h : ¬ (1 ≤ xs.length ∧ xs.length ≤ 6)) : goodC xs = false := by
  rw [← Bool.not_eq_true, goodC_iff]; exact fun k => h ⟨k.1, k.2.1⟩
theorem goodC_last {xs : List Int} (h : xs.getD (xs.length - 1) 0 = 0) : goodC xs = false := by
  rw [← Bool.not_eq_true, goodC_iff]; exact fun k => k.2.2.2 h
theorem goodC_all {xs : List Int} (h1 : 1 ≤ xs.length) (h2 : xs.length ≤ 6) (h : xs.getD (xs.length - 1) 0 ≠ 0) : goodC xs = xs.all (fun d => decide (0 ≤ d) && decide (d ≤ 7)) := by
  rw [Bool.eq_iff_iff, goodC_iff, List.all_eq_true]
  simp only [Bool.and_eq_true, decide_eq_true_eq]
  exact ⟨fun k => k.2.2.1, fun k => ⟨h1, h2, k, h⟩⟩
theorem goodC_allF {xs : List Int} (h : xs.all (fun d => decide (0 ≤ d) && decide (d ≤ 7)) = false) : goodC xs = false := by
  simp only [goodC, h]; simp

set_option maxHeartbeats 800000 in
theorem c_GoodCode (A : Option Addr) (c : Nat) (xs : List Int) (w : World) (rd : RdI w A xs.length xs) :
    Calls Try.prog 23 #[.slice A xs.length c] w fun e w' => e = .returned (.bool (goodC xs)) ∧ w = w' := by
  obtain ⟨r, hr⟩ : ∃ r, Hid (goodC xs = r) := ⟨_, Lib.hid rfl⟩
  rw [hr.out]
  by_cases h1 : 1 ≤ xs.length
  · by_cases h2 : xs.length ≤ 6
    · have h1' : ¬ (xs.length : Int) < 1 := by omega
      have h2' : ¬ (6 : Int) < xs.length := by omega
      obtain ⟨b, off, rfl, _, hc⟩ := rd.at_ (k := xs.length - 1) (by omega)
      have ei : ((xs.length - 1 : Nat) : Int) = (xs.length : Int) - 1 := by omega
      by_cases hz : xs.getD (xs.length - 1) 0 = 0
      · have fin : Hid (false = r) := Lib.hid (by rw [← hr.out, goodC_last hz])
        have hz' : (xs.getD (xs.length - 1) 0 == 0) = true := beq_iff_eq.2 hz
        clear hz
        generalize xs.getD (xs.length - 1) 0 = y at *
        have hi : ((xs.length : Int) - 1).toNat = xs.length - 1 := by omega
        clear ei
        go_enter Try.func23, Try.ntmps23
        go_wp2_with fail
        go_ret
        exact ⟨ret_bool fin.out, rfl⟩
      · have hall : Hid (r = xs.all (fun d => decide (0 ≤ d) && decide (d ≤ 7))) := Lib.hid (by rw [← hr.out, goodC_all h1 h2 hz])
        have hz' : (xs.getD (xs.length - 1) 0 == 0) = false := beq_eq_false_iff_ne.2 hz
        clear hz
        generalize xs.getD (xs.length - 1) 0 = y at *
        have hi : ((xs.length : Int) - 1).toNat = xs.length - 1 := by omega
        clear ei
        go_enter Try.func23, Try.ntmps23
        go_wp2_with fail
        clear hc hz' hi
        go_loop [24] (fun i => ∃ k : Nat, k ≤ xs.length ∧ i = .int .i64 k ∧ Hid (r = (xs.drop k).all (fun d => decide (0 ≤ d) && decide (d ≤ 7)))) (fun i => xs.length - (intOf i).toNat)
        case atStart => exact ⟨0, Nat.zero_le _, rfl, Lib.hid hall.out⟩
        case round =>
          obtain ⟨k, hk, rfl, hrem⟩ := hrel
          by_cases hlt : k < xs.length
          · obtain ⟨b', off', hA, _, hcx⟩ := rd.at_ hlt
            injection hA with hA
            injection hA with e1 e2
            subst e1 e2
            have hd : Hid (xs.drop k = xs.getD k 0 :: xs.drop (k + 1)) := Lib.hid (by rw [List.drop_eq_getElem_cons hlt]; simp [hlt])
            generalize xs.getD k 0 = y at *
            by_cases hy0 : y < 0
            · have fin : Hid (false = r) := Lib.hid (by rw [hrem.out, hd.out, List.all_cons, decide_eq_false (show ¬ 0 ≤ y by omega)]; rfl)
              go_wp2_with fail
              go_ret
              exact ⟨ret_bool fin.out, rfl⟩
            · by_cases hy7 : 7 < y
              · have fin : Hid (false = r) := Lib.hid (by rw [hrem.out, hd.out, List.all_cons, decide_eq_false (show ¬ y ≤ 7 by omega)]; simp)
                go_wp2_with fail
                go_ret
                exact ⟨ret_bool fin.out, rfl⟩
              · have hrem' : Hid (r = (xs.drop (k + 1)).all (fun d => decide (0 ≤ d) && decide (d ≤ 7))) := Lib.hid (by
                  rw [hrem.out, hd.out, List.all_cons, decide_eq_true (show 0 ≤ y by omega), decide_eq_true (show y ≤ 7 by omega)]; rfl)
                go_wp2_with fail
                go_round
                case rel => exact ⟨k + 1, by omega, by go_num, hrem'⟩
                case measure => simp [intOf]; omega
          · have fin : Hid (true = r) := Lib.hid (by rw [hrem.out, List.drop_of_length_le (by omega)]; rfl)
            go_wp2_with fail
            go_ret
            exact ⟨ret_bool fin.out, rfl⟩
    · have fin : Hid (false = r) := Lib.hid (by rw [← hr.out, goodC_none (by omega)])
      have h1' : ¬ (xs.length : Int) < 1 := by omega
      have h2' : (6 : Int) < xs.length := by omega
      clear rd h1 h2
      go_enter Try.func23, Try.ntmps23
      go_wp2_with fail
      go_ret
      exact ⟨ret_bool fin.out, rfl⟩
  · have fin : Hid (false = r) := Lib.hid (by rw [← hr.out, goodC_none (by omega)])
    have h1' : (xs.length : Int) < 1 := by omega
    clear rd h1
    go_enter Try.func23, Try.ntmps23
    go_wp2_with fail
    go_ret
    exact ⟨ret_bool fin.out, rfl⟩

set_option maxHeartbeats 800000 in
theorem s_GoodCode (A : Option Addr) (c : Nat) (xs : List Int) (w : World) (rd : RdI w A xs.length xs) (hn : xs.length ≤ 1000000000) :
    Calls Try.prog 22 #[.slice A xs.length c] w fun e w' => e = .returned (.bool (goodC xs)) ∧ w = w' := by
  obtain ⟨r, hr⟩ : ∃ r, Hid (goodC xs = r) := ⟨_, Lib.hid rfl⟩
  rw [hr.out]
  cases hin : inB (xs.length : Int) 1 6
  · have fin : Hid (false = r) := Lib.hid (by rw [← hr.out, goodC_none (by have := inB_false.1 hin; omega)])
    go_enter Try.func22, Try.ntmps22
    go_wp2_with (go_at_call 40; refine (c_l1In _ _ _ _).mono ?_; rintro e w' ⟨rfl, rfl⟩)
    go_ret
    exact ⟨ret_bool fin.out, rfl⟩
  · have hin' := inB_true.1 hin
    have h1 : 1 ≤ xs.length := by omega
    have h2 : xs.length ≤ 6 := by omega
    clear hin'
    obtain ⟨L, hL⟩ : ∃ L, Hid (xs.getD (xs.length - 1) 0 = L) := ⟨_, Lib.hid rfl⟩
    obtain ⟨T, hT⟩ : ∃ T, Hid (xs.all (fun d => decide (0 ≤ d) && decide (d ≤ 7)) = T) := ⟨_, Lib.hid rfl⟩
    go_enter Try.func22, Try.ntmps22
    go_wp2_with (go_at_call 40; refine (c_l1In _ _ _ _).mono ?_; rintro e w' ⟨rfl, rfl⟩)
    go_loop [3] (fun i => ∃ k : Nat, k ≤ xs.length ∧ i = .int .i64 k ∧ Hid (T = (xs.drop k).all (fun d => decide (0 ≤ d) && decide (d ≤ 7)))) (fun i => xs.length - (intOf i).toNat)
    case atStart => exact ⟨0, Nat.zero_le _, rfl, Lib.hid hT.out.symm⟩
    case round =>
      obtain ⟨k, hk, rfl, hrem⟩ := hrel
      by_cases hlt : k < xs.length
      · obtain ⟨b, off, rfl, _, hcx⟩ := rd.at_ hlt
        have hd : Hid (xs.drop k = xs.getD k 0 :: xs.drop (k + 1)) := Lib.hid (by rw [List.drop_eq_getElem_cons hlt]; simp [hlt])
        generalize xs.getD k 0 = y at *
        cases hy : inB y 0 7
        · have fin : Hid (false = r) := Lib.hid (by
            rw [← hr.out, goodC_allF]
            rw [hT.out, hrem.out, hd.out, List.all_cons]
            unfold inB at hy
            rw [hy]; rfl)
          go_wp2_with (go_at_call 40; refine (c_l1In _ _ _ _).mono ?_; rintro e w' ⟨rfl, rfl⟩)
          go_ret
          exact ⟨ret_bool fin.out, rfl⟩
        · have hrem' : Hid (T = (xs.drop (k + 1)).all (fun d => decide (0 ≤ d) && decide (d ≤ 7))) := Lib.hid (by
            rw [hrem.out, hd.out, List.all_cons]
            unfold inB at hy
            rw [hy]; rfl)
          go_wp2_with (go_at_call 40; refine (c_l1In _ _ _ _).mono ?_; rintro e w' ⟨rfl, rfl⟩)
          go_round
          case rel => exact ⟨k + 1, by omega, by go_num, hrem'⟩
          case measure => simp [intOf]; omega
      · have hTt : T = true := by rw [hrem.out, List.drop_of_length_le (by omega)]; rfl
        obtain ⟨b, off, rfl, _, hc⟩ := rd.at_ (k := xs.length - 1) (by omega)
        have hi : ((xs.length : Int) - 1).toNat = xs.length - 1 := by omega
        have hne : ¬ (xs.length : Int) - 1 < 0 := by omega
        have fin : Hid ((!(L == 0)) = r) := Lib.hid (by
          rw [← hr.out, goodC, hT.out, hTt, hL.out, decide_eq_true h1, decide_eq_true h2]; rfl)
        rw [hL.out] at hc
        go_wp2_with fail
        go_ret
        exact ⟨ret_bool (by rw [← fin.out]; rfl), rfl⟩
end Go.Proofs.Ytoeacocijcammaa
