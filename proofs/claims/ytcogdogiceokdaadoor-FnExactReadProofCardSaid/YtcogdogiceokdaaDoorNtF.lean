/- Reading a number's text, by the reference. -/
import Derived.Test.YtcogdogiceokdaaDoorNtE
namespace Go.Proofs.YtcogdogiceokdaaDoor
open Go.RowKit

theorem specP_neg {L : List UInt8} (h1 : 1 < L.length) (h2 : L.getD 0 0 = 45) : (1 ≤ L.length - 1 → L.length - 1 ≤ 6 → specP L = (Lib.decFrom 0 (L.drop 1)).map fun (m : Nat) => -(m : Int)) ∧ (¬ L.length - 1 ≤ 6 → specP L = none) := by
  unfold specP
  rw [if_pos ⟨h1, h2⟩]
  exact ⟨fun _ h => if_pos (by omega), fun h => if_neg (by omega)⟩
theorem specP_pos {L : List UInt8} (h : ¬ (1 < L.length ∧ L.getD 0 0 = 45)) : (1 ≤ L.length → L.length ≤ 6 → specP L = (Lib.decFrom 0 L).map fun (m : Nat) => (m : Int)) ∧ (¬ (1 ≤ L.length ∧ L.length ≤ 6) → specP L = none) := by
  unfold specP
  rw [if_neg h]
  exact ⟨fun h1 h2 => if_pos ⟨h1, h2⟩, fun h => if_neg h⟩
set_option maxHeartbeats 3200000 in
theorem s_l1Read (s : ByteArray) (w : World) (hs : s.size ≤ 1048576) :
    Calls Tryd.prog 25 #[.string s] w fun e w' => e = .returned (.tuple #[.int .i64 (readT s).1, .bool (readT s).2]) ∧ Q w w' := by
  have FN := Lib.hid (fin_no (s := s))
  have FY := Lib.hid (fun n => fin_yes (s := s) (n := n))
  have FO := Lib.hid (fun n => fin_other (s := s) (n := n))
  have hlen : s.data.toList.length = s.size := by simp
  by_cases hneg : 1 < s.size ∧ s.data.toList.getD 0 0 = 45
  · have h1 := hneg.1
    have SP0 := specP_neg (L := s.data.toList) (by omega) hneg.2
    rw [hlen] at SP0
    have h0 : 0 < s.size := by omega
    have h45 : s[0]'h0 = 45 := by rw [← getB h0]; exact hneg.2
    obtain ⟨t, ht⟩ : ∃ t, t = s.extract 1 s.size := ⟨_, rfl⟩
    have htl : t.data.toList = s.data.toList.drop 1 := by rw [ht]; simp; exact List.take_of_length_le (by simp)
    have hts : t.size = s.size - 1 := by rw [ht]; simp
    rw [← htl] at SP0
    have SP : Hid ((1 ≤ t.size → t.size ≤ 6 → specP s.data.toList = (Lib.decFrom 0 t.data.toList).map fun (m : Nat) => -(m : Int)) ∧ (¬ (1 ≤ t.size ∧ t.size ≤ 6) → specP s.data.toList = none)) :=
      Lib.hid ⟨fun a b => SP0.1 (by omega) (by omega), fun a => SP0.2 (by omega)⟩
    have HI := fun w => c_l1In (t.size : Int) 1 6 w
    have hts1 : t.size + 1 ≤ s.size := by omega
    clear SP0 hneg htl hlen hts
    go_enter Tryd.func25, Tryd.ntmps25
    go_upto_region 4 with fail
    rw [← ht]
    clear h45 ht
    cases hin : inB (t.size : Int) 1 6
    · rw [hin] at HI
      have HI := Lib.hid HI
      have hnone : specP s.data.toList = none := SP.out.2 (by have := inB_false.1 hin; omega)
      have fin := Lib.hid (FN.out hnone)
      clear hnone hin
      go_wp2_with (go_at_call 32; refine (HI.out _).mono ?_; rintro e w' ⟨rfl, rfl⟩)
      go_ret2
      exact ⟨ret_iv2 fin.out, Q.refl _⟩
    · rw [hin] at HI
      have HI := Lib.hid HI
      have hin2 := inB_true.1 hin
      have SP1 := Lib.hid (SP.out.1 (by omega) (by omega))
      clear hin
      go_wp2_with (go_at_call 32; refine (HI.out _).mono ?_; rintro e w' ⟨rfl, rfl⟩)
      go_loop [5, 6] (fun n i => ∃ (k m : Nat), k ≤ t.size ∧ i = .int .i64 k ∧ n = .int .i64 m ∧ m < 1000000 ∧ Hid (Lib.decFrom 0 (t.data.toList.take k) = some m)) (fun _ i => t.size - (intOf i).toNat)
      case atStart => exact ⟨0, 0, Nat.zero_le _, rfl, rfl, by omega, Lib.hid rfl⟩
      case round =>
        obtain ⟨k, m, hk, rfl, rfl, hm, hrem⟩ := hrel
        by_cases hlt : k < t.size
        · have hgt := Lib.hid (getT hlt)
          have hu : t[k].toNat < 256 := t[k].toNat_lt
          obtain ⟨x, hx⟩ : ∃ x : Int, x = (t[k].toNat : Int) := ⟨_, rfl⟩
          by_cases h48 : t[k].toNat < 48
          · have hbad : Lib.digitVal t[k] = none := by unfold Lib.digitVal; rw [if_neg (by omega)]
            have fin := Lib.hid (FN.out (by rw [SP1.out, bad_digit (m := 0) hgt.out hbad]; rfl))
            have hc1 : (t[k].toNat : Int) < 48 := by omega
            clear hbad h48 hx
            go_wp2_with fail
            go_ret2
            exact ⟨ret_iv2 fin.out, Q.refl _⟩
          · by_cases h57 : 57 < t[k].toNat
            · have hbad : Lib.digitVal t[k] = none := by unfold Lib.digitVal; rw [if_neg (by omega)]
              have fin := Lib.hid (FN.out (by rw [SP1.out, bad_digit (m := 0) hgt.out hbad]; rfl))
              have hc1 : ¬ (t[k].toNat : Int) < 48 := by omega
              have hc2 : (57 : Int) < (t[k].toNat : Int) := by omega
              clear hbad h48 h57 hx
              go_wp2_with fail
              go_ret2
              exact ⟨ret_iv2 fin.out, Q.refl _⟩
            · have hdig : Lib.digitVal t[k] = some (t[k].toNat - 48) := by unfold Lib.digitVal; rw [if_pos (by omega)]
              have hnext := Lib.decFrom_take _ _ _ _ _ _ hrem.out hgt.out hdig
              have hnlt := Lib.decFrom_lt _ _ _ hnext
              have hk6 : k + 1 ≤ 6 := by omega
              have hlen : (t.data.toList.take (k + 1)).length ≤ 6 := by rw [List.length_take]; omega
              have hpow : 10 ^ (t.data.toList.take (k + 1)).length ≤ 10 ^ 6 := Nat.pow_le_pow_right (by omega) hlen
              have hm2 : m * 10 + (t[k].toNat - 48) < 1000000 := by omega
              have Hnext := Lib.hid hnext
              have hc1 : ¬ (t[k].toNat : Int) < 48 := by omega
              have hc2 : ¬ (57 : Int) < (t[k].toNat : Int) := by omega
              have hw8 : IntKind.u8.wrap ((t[k].toNat : Int) - 48) = (t[k].toNat : Int) - 48 := IntWalk.u8_in _ (by omega)
              clear hnext hnlt hlen hpow hdig hx
              go_wp2_with fail
              go_round
              case rel => exact ⟨k + 1, m * 10 + (t[k].toNat - 48), by omega, by go_num, by go_num, hm2, Hnext⟩
              case measure => simp [intOf]; omega
        · obtain rfl : k = t.size := by omega
          have hall : Lib.decFrom 0 t.data.toList = some m := by
            rw [← hrem.out, List.take_of_length_le (by simp)]
          have hsp : specP s.data.toList = some (-(m : Int)) := by rw [SP1.out, hall]; rfl
          have FYn := Lib.hid (FY.out _ hsp)
          have FOn := Lib.hid (FO.out _ hsp)
          have HN := Lib.hid (fun w => s_l1Num (-(m : Int)) w (by omega) (by omega))
          clear hall hsp hrem
          have hts : (t.size : Int) < (s.size : Int) := by omega
          have hwm : IntKind.i64.wrap (-(m : Int)) = -(m : Int) := IntWalk.i64_in _ (by omega)
          by_cases he : strOfNums (numB (-(m : Int))) = s
          · have fin := Lib.hid (FYn.out he)
            have hz : ((strOfNums (numB (-(m : Int)))).toList == s.toList) = true := by rw [he]; simp
            clear he
            go_wp2_with fail
            refine (HN.out _).mono ?_
            rintro e w1 ⟨rfl, q⟩
            go_wp2_with fail
            go_ret2
            exact ⟨ret_iv2 fin.out, q⟩
          · have fin := Lib.hid (FOn.out he)
            have hz := str_ne he
            clear he
            go_wp2_with fail
            refine (HN.out _).mono ?_
            rintro e w1 ⟨rfl, q⟩
            go_wp2_with fail
            go_ret2
            exact ⟨ret_iv2 fin.out, q⟩
  · have SP0 := specP_pos (L := s.data.toList) (by rw [hlen]; exact hneg)
    rw [hlen] at SP0
    have SP : Hid ((1 ≤ s.size → s.size ≤ 6 → specP s.data.toList = (Lib.decFrom 0 s.data.toList).map fun (m : Nat) => (m : Int)) ∧ (¬ (1 ≤ s.size ∧ s.size ≤ 6) → specP s.data.toList = none)) := Lib.hid SP0
    have HI := fun w => c_l1In (s.size : Int) 1 6 w
    have h1 : s.size ≤ 1 ∨ (1 < s.size ∧ ∀ h : 0 < s.size, (((s[0]'h).toNat : Int) == 45) = false) := by
      rcases Nat.lt_or_ge 1 s.size with h | h
      · refine .inr ⟨h, fun h0 => ?_⟩
        rw [beq_eq_false_iff_ne]
        intro e
        exact hneg ⟨h, by rw [getB h0]; exact UInt8.toNat_inj.1 (by show _ = 45; omega)⟩
      · exact .inl h
    clear SP0 hneg hlen
    rcases h1 with h1 | ⟨h1, h45⟩
    · have hsz : ¬ (1 : Int) < (s.size : Int) := by omega
      go_enter Tryd.func25, Tryd.ntmps25
      go_upto_region 4 with fail
      cases hin : inB (s.size : Int) 1 6
      · rw [hin] at HI
        have HI := Lib.hid HI
        have hnone : specP s.data.toList = none := SP.out.2 (by have := inB_false.1 hin; omega)
        have fin := Lib.hid (FN.out hnone)
        clear hnone hin
        go_wp2_with (go_at_call 32; refine (HI.out _).mono ?_; rintro e w' ⟨rfl, rfl⟩)
        go_ret2
        exact ⟨ret_iv2 fin.out, Q.refl _⟩
      · rw [hin] at HI
        have HI := Lib.hid HI
        have hin2 := inB_true.1 hin
        have SP1 := Lib.hid (SP.out.1 (by omega) (by omega))
        clear hin
        go_wp2_with (go_at_call 32; refine (HI.out _).mono ?_; rintro e w' ⟨rfl, rfl⟩)
        go_loop [5, 6] (fun n i => ∃ (k m : Nat), k ≤ s.size ∧ i = .int .i64 k ∧ n = .int .i64 m ∧ m < 1000000 ∧ Hid (Lib.decFrom 0 (s.data.toList.take k) = some m)) (fun _ i => s.size - (intOf i).toNat)
        case atStart => exact ⟨0, 0, Nat.zero_le _, rfl, rfl, by omega, Lib.hid rfl⟩
        case round =>
          obtain ⟨k, m, hk, rfl, rfl, hm, hrem⟩ := hrel
          by_cases hlt : k < s.size
          · have hgt := Lib.hid (getT hlt)
            have hu : s[k].toNat < 256 := s[k].toNat_lt
            obtain ⟨x, hx⟩ : ∃ x : Int, x = (s[k].toNat : Int) := ⟨_, rfl⟩
            by_cases h48 : s[k].toNat < 48
            · have hbad : Lib.digitVal s[k] = none := by unfold Lib.digitVal; rw [if_neg (by omega)]
              have fin := Lib.hid (FN.out (by rw [SP1.out, bad_digit (m := 0) hgt.out hbad]; rfl))
              have hc1 : (s[k].toNat : Int) < 48 := by omega
              clear hbad h48 hx
              go_wp2_with fail
              go_ret2
              exact ⟨ret_iv2 fin.out, Q.refl _⟩
            · by_cases h57 : 57 < s[k].toNat
              · have hbad : Lib.digitVal s[k] = none := by unfold Lib.digitVal; rw [if_neg (by omega)]
                have fin := Lib.hid (FN.out (by rw [SP1.out, bad_digit (m := 0) hgt.out hbad]; rfl))
                have hc1 : ¬ (s[k].toNat : Int) < 48 := by omega
                have hc2 : (57 : Int) < (s[k].toNat : Int) := by omega
                clear hbad h48 h57 hx
                go_wp2_with fail
                go_ret2
                exact ⟨ret_iv2 fin.out, Q.refl _⟩
              · have hdig : Lib.digitVal s[k] = some (s[k].toNat - 48) := by unfold Lib.digitVal; rw [if_pos (by omega)]
                have hnext := Lib.decFrom_take _ _ _ _ _ _ hrem.out hgt.out hdig
                have hnlt := Lib.decFrom_lt _ _ _ hnext
                have hk6 : k + 1 ≤ 6 := by omega
                have hlen : (s.data.toList.take (k + 1)).length ≤ 6 := by rw [List.length_take]; omega
                have hpow : 10 ^ (s.data.toList.take (k + 1)).length ≤ 10 ^ 6 := Nat.pow_le_pow_right (by omega) hlen
                have hm2 : m * 10 + (s[k].toNat - 48) < 1000000 := by omega
                have Hnext := Lib.hid hnext
                have hc1 : ¬ (s[k].toNat : Int) < 48 := by omega
                have hc2 : ¬ (57 : Int) < (s[k].toNat : Int) := by omega
                have hw8 : IntKind.u8.wrap ((s[k].toNat : Int) - 48) = (s[k].toNat : Int) - 48 := IntWalk.u8_in _ (by omega)
                clear hnext hnlt hlen hpow hdig hx
                go_wp2_with fail
                go_round
                case rel => exact ⟨k + 1, m * 10 + (s[k].toNat - 48), by omega, by go_num, by go_num, hm2, Hnext⟩
                case measure => simp [intOf]; omega
          · obtain rfl : k = s.size := by omega
            have hall : Lib.decFrom 0 s.data.toList = some m := by
              rw [← hrem.out, List.take_of_length_le (by simp)]
            have hsp : specP s.data.toList = some ((m : Int)) := by rw [SP1.out, hall]; rfl
            have FYn := Lib.hid (FY.out _ hsp)
            have FOn := Lib.hid (FO.out _ hsp)
            have HN := Lib.hid (fun w => s_l1Num ((m : Int)) w (by omega) (by omega))
            clear hall hsp hrem
            by_cases he : strOfNums (numB ((m : Int))) = s
            · have fin := Lib.hid (FYn.out he)
              have hz : ((strOfNums (numB ((m : Int)))).toList == s.toList) = true := by rw [he]; simp
              clear he
              go_wp2_with fail
              refine (HN.out _).mono ?_
              rintro e w1 ⟨rfl, q⟩
              go_wp2_with fail
              go_ret2
              exact ⟨ret_iv2 fin.out, q⟩
            · have fin := Lib.hid (FOn.out he)
              have hz := str_ne he
              clear he
              go_wp2_with fail
              refine (HN.out _).mono ?_
              rintro e w1 ⟨rfl, q⟩
              go_wp2_with fail
              go_ret2
              exact ⟨ret_iv2 fin.out, q⟩
    · have h45 := h45 (by omega)
      go_enter Tryd.func25, Tryd.ntmps25
      go_upto_region 4 with fail
      clear h45
      cases hin : inB (s.size : Int) 1 6
      · rw [hin] at HI
        have HI := Lib.hid HI
        have hnone : specP s.data.toList = none := SP.out.2 (by have := inB_false.1 hin; omega)
        have fin := Lib.hid (FN.out hnone)
        clear hnone hin
        go_wp2_with (go_at_call 32; refine (HI.out _).mono ?_; rintro e w' ⟨rfl, rfl⟩)
        go_ret2
        exact ⟨ret_iv2 fin.out, Q.refl _⟩
      · rw [hin] at HI
        have HI := Lib.hid HI
        have hin2 := inB_true.1 hin
        have SP1 := Lib.hid (SP.out.1 (by omega) (by omega))
        clear hin
        go_wp2_with (go_at_call 32; refine (HI.out _).mono ?_; rintro e w' ⟨rfl, rfl⟩)
        go_loop [5, 6] (fun n i => ∃ (k m : Nat), k ≤ s.size ∧ i = .int .i64 k ∧ n = .int .i64 m ∧ m < 1000000 ∧ Hid (Lib.decFrom 0 (s.data.toList.take k) = some m)) (fun _ i => s.size - (intOf i).toNat)
        case atStart => exact ⟨0, 0, Nat.zero_le _, rfl, rfl, by omega, Lib.hid rfl⟩
        case round =>
          obtain ⟨k, m, hk, rfl, rfl, hm, hrem⟩ := hrel
          by_cases hlt : k < s.size
          · have hgt := Lib.hid (getT hlt)
            have hu : s[k].toNat < 256 := s[k].toNat_lt
            obtain ⟨x, hx⟩ : ∃ x : Int, x = (s[k].toNat : Int) := ⟨_, rfl⟩
            by_cases h48 : s[k].toNat < 48
            · have hbad : Lib.digitVal s[k] = none := by unfold Lib.digitVal; rw [if_neg (by omega)]
              have fin := Lib.hid (FN.out (by rw [SP1.out, bad_digit (m := 0) hgt.out hbad]; rfl))
              have hc1 : (s[k].toNat : Int) < 48 := by omega
              clear hbad h48 hx
              go_wp2_with fail
              go_ret2
              exact ⟨ret_iv2 fin.out, Q.refl _⟩
            · by_cases h57 : 57 < s[k].toNat
              · have hbad : Lib.digitVal s[k] = none := by unfold Lib.digitVal; rw [if_neg (by omega)]
                have fin := Lib.hid (FN.out (by rw [SP1.out, bad_digit (m := 0) hgt.out hbad]; rfl))
                have hc1 : ¬ (s[k].toNat : Int) < 48 := by omega
                have hc2 : (57 : Int) < (s[k].toNat : Int) := by omega
                clear hbad h48 h57 hx
                go_wp2_with fail
                go_ret2
                exact ⟨ret_iv2 fin.out, Q.refl _⟩
              · have hdig : Lib.digitVal s[k] = some (s[k].toNat - 48) := by unfold Lib.digitVal; rw [if_pos (by omega)]
                have hnext := Lib.decFrom_take _ _ _ _ _ _ hrem.out hgt.out hdig
                have hnlt := Lib.decFrom_lt _ _ _ hnext
                have hk6 : k + 1 ≤ 6 := by omega
                have hlen : (s.data.toList.take (k + 1)).length ≤ 6 := by rw [List.length_take]; omega
                have hpow : 10 ^ (s.data.toList.take (k + 1)).length ≤ 10 ^ 6 := Nat.pow_le_pow_right (by omega) hlen
                have hm2 : m * 10 + (s[k].toNat - 48) < 1000000 := by omega
                have Hnext := Lib.hid hnext
                have hc1 : ¬ (s[k].toNat : Int) < 48 := by omega
                have hc2 : ¬ (57 : Int) < (s[k].toNat : Int) := by omega
                have hw8 : IntKind.u8.wrap ((s[k].toNat : Int) - 48) = (s[k].toNat : Int) - 48 := IntWalk.u8_in _ (by omega)
                clear hnext hnlt hlen hpow hdig hx
                go_wp2_with fail
                go_round
                case rel => exact ⟨k + 1, m * 10 + (s[k].toNat - 48), by omega, by go_num, by go_num, hm2, Hnext⟩
                case measure => simp [intOf]; omega
          · obtain rfl : k = s.size := by omega
            have hall : Lib.decFrom 0 s.data.toList = some m := by
              rw [← hrem.out, List.take_of_length_le (by simp)]
            have hsp : specP s.data.toList = some ((m : Int)) := by rw [SP1.out, hall]; rfl
            have FYn := Lib.hid (FY.out _ hsp)
            have FOn := Lib.hid (FO.out _ hsp)
            have HN := Lib.hid (fun w => s_l1Num ((m : Int)) w (by omega) (by omega))
            clear hall hsp hrem
            by_cases he : strOfNums (numB ((m : Int))) = s
            · have fin := Lib.hid (FYn.out he)
              have hz : ((strOfNums (numB ((m : Int)))).toList == s.toList) = true := by rw [he]; simp
              clear he
              go_wp2_with fail
              refine (HN.out _).mono ?_
              rintro e w1 ⟨rfl, q⟩
              go_wp2_with fail
              go_ret2
              exact ⟨ret_iv2 fin.out, q⟩
            · have fin := Lib.hid (FOn.out he)
              have hz := str_ne he
              clear he
              go_wp2_with fail
              refine (HN.out _).mono ?_
              rintro e w1 ⟨rfl, q⟩
              go_wp2_with fail
              go_ret2
              exact ⟨ret_iv2 fin.out, q⟩
end Go.Proofs.YtcogdogiceokdaaDoor
