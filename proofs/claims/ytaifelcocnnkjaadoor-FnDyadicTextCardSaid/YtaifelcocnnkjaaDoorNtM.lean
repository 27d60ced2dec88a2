/- Cutting a text at '/', the library's Atoi at any text, the reference's digits. -/
import Derived.Test.YtaifelcocnnkjaaDoorNtL
import Derived.Test.YtaifelcocnnkjaaDoorShelf
namespace Go.Proofs.YtaifelcocnnkjaaDoor
open Go.RowKit

/-- The library's error of range is there. -/
def RngV (w : World) : Prop := ∃ tp p, w.var? Tryd.prog "strconv.ErrRange" = some #[.iface tp p]
theorem g_rng : Tryd.prog.globalNamed "strconv.ErrRange" = some 2 := by kernel_rfl
theorem RngV.below {w w' : World} (h : RngV w) (hb : Below w.heap.size w w') : RngV w' := by
  obtain ⟨tp, p, h⟩ := h
  exact ⟨tp, p, Joins.var_stays g_rng h hb (Nat.le_refl _)⟩
theorem rng_of {W : World} {r : List (String × DataW Unit)} (h : laidMet Tryd.prog (("strconv.ErrRange", .iface "*errors.errorString" (.ptr (.agg [.lit (.string [118, 97, 108, 117, 101, 32, 111, 117, 116, 32, 111, 102, 32, 114, 97, 110, 103, 101])]))) :: r) W) : RngV W := by
  obtain ⟨a, s, hv, _⟩ := laid_sentinel h g_rng (by kernel_rfl) Tryd.underlying85 row_err Tryd.underlying148 Tryd.underlying150 rfl rfl Tryd.underlying9 (by kernel_rfl) (by kernel_rfl)
  exact ⟨_, _, hv⟩
theorem a_ok (s : ByteArray) (v : Int) (hs : s.size ≤ 1048576) (h : Lib.atoiAll s.data.toList = .ok v) (w : World) :
    Calls Tryd.prog 50 #[.string s] w fun e w' => e = .returned (.tuple #[.int .i64 v, .nilIface]) ∧ Below w.heap.size w w' :=
  (Tryd.strconv_Atoi_ok s (by omega) v h w).mono (fun e w' k => ⟨k.1, by
    rcases k.2 with rfl | ⟨t, rfl⟩
    · exact Below.refl _ _
    · exact Lib.bytesWorld_below _ _ _⟩)
theorem a_no (s : ByteArray) (hs : s.size ≤ 1048576) (h : ∀ v, ¬ Lib.atoiAll s.data.toList = .ok v) (w : World) (hv : SynV w) (hr : RngV w) :
    Calls Tryd.prog 50 #[.string s] w fun e w' => ∃ (x : Int) (N : Nat), e = .returned (.tuple #[.int .i64 x, .iface 120 (.pointer (some ⟨N, 0, none⟩))]) ∧ Below w.heap.size w w' := by
  obtain ⟨tp, p, hv⟩ := hv
  obtain ⟨tp', p', hr⟩ := hr
  cases ha : Lib.atoiAll s.data.toList with
  | ok v => exact absurd ha (h v)
  | range => exact (Tryd.strconv_Atoi_range_var s (by omega) ha tp' p' w hr).mono (fun e w' ⟨N, k, _, _, b⟩ => ⟨_, N, k, b⟩)
  | _ => exact (Tryd.strconv_Atoi_syntax_var s (by omega) ha tp p w hv).mono (fun e w' ⟨N, k, _, _, b⟩ => ⟨_, N, k, b⟩)
set_option maxHeartbeats 800000 in
theorem c_cut_no (s : ByteArray) (w : World) (hi : Lib.indexByte s.data.toList 47 = -1) :
    Calls Tryd.prog 74 #[.string s, .string ⟨#[47]⟩] w fun e w' => e = .returned (.tuple #[.string s, .string ⟨#[]⟩, .bool false]) ∧ w' = w := by
  go_enter Tryd.func74, Tryd.ntmps74
  go_wp2_with (go_at_call 88; refine (Tryd.stringslite_Index_one _ _ _).mono ?_; rintro e w' ⟨rfl, rfl⟩; rw [hi])
  go_ret3
  exact ⟨rfl, rfl⟩
set_option maxHeartbeats 800000 in
theorem c_cut_hit (s : ByteArray) (i : Nat) (w : World) (hi : Lib.indexByte s.data.toList 47 = (i : Int)) (hlt : i < s.size) (hs : s.size ≤ 1048576) :
    Calls Tryd.prog 74 #[.string s, .string ⟨#[47]⟩] w fun e w' => e = .returned (.tuple #[.string (s.extract 0 i), .string (s.extract (i + 1) s.size), .bool true]) ∧ ∃ n, w' = w.drewN n := by
  have c1 : (0 : Int) ≤ ↑i := by omega
  have c2 : (↑i : Int) ≤ ↑s.size := by omega
  have c3 : (0 : Int) ≤ ↑i + 1 := by omega
  have c4 : (↑i + 1 : Int) ≤ ↑s.size := by omega
  go_enter Tryd.func74, Tryd.ntmps74
  go_wp2_with (go_at_call 88; refine (Tryd.stringslite_Index_one _ _ _).mono ?_; rintro e w' ⟨rfl, rfl⟩; rw [hi])
  go_quiet (fail)
  go_wp2
  go_ret3
  exact ⟨rfl, _, rfl⟩
theorem C_cut_no (s : ByteArray) (w : World) (hi : Lib.indexByte s.data.toList 47 = -1) :
    Calls Tryd.prog 49 #[.string s, .string ⟨#[47]⟩] w fun e w' => e = .returned (.tuple #[.string s, .string ⟨#[]⟩, .bool false]) ∧ Q w w' := by
  have H := Lib.hid (fun w => c_cut_no s w hi)
  go_enter Tryd.func49, Tryd.ntmps49
  go_wp2_with (go_at_call 74; refine (H.out _).mono ?_; rintro e w' ⟨rfl, rfl⟩)
  go_ret3
  exact ⟨rfl, Q.refl _⟩
theorem C_cut_hit (s : ByteArray) (i : Nat) (w : World) (hi : Lib.indexByte s.data.toList 47 = (i : Int)) (hlt : i < s.size) (hs : s.size ≤ 1048576) :
    Calls Tryd.prog 49 #[.string s, .string ⟨#[47]⟩] w fun e w' => e = .returned (.tuple #[.string (s.extract 0 i), .string (s.extract (i + 1) s.size), .bool true]) ∧ Q w w' := by
  have H := Lib.hid (fun w => c_cut_hit s i w hi hlt hs)
  go_enter Tryd.func49, Tryd.ntmps49
  go_wp2_with (go_at_call 74; refine (H.out _).mono ?_; rintro e w' ⟨rfl, q⟩)
  go_ret3
  exact ⟨rfl, q⟩
theorem dig9_bad {t : ByteArray} {k : Nat} (hk : k < t.size) (h9 : k < 9) (hb : Lib.digitVal t[k] = none) : dig9 t.data.toList = -1 := by
  have h : (t.data.toList.take 9)[k]? = some t[k] := by rw [List.getElem?_take, if_pos h9, getT hk]
  unfold dig9
  rw [bad_digit (m := 0) h hb]
theorem dig9_end {t : ByteArray} {k m : Nat} (hk : k ≤ 9) (he : k = 9 ∨ k = t.size) (h : Lib.decFrom 0 (t.data.toList.take k) = some m) : dig9 t.data.toList = m := by
  have h2 : t.data.toList.take 9 = t.data.toList.take k := by
    rcases he with rfl | rfl
    · rfl
    · rw [List.take_of_length_le (by simp; omega), List.take_of_length_le (by simp)]
  unfold dig9
  rw [h2, h]
set_option maxHeartbeats 1600000 in
theorem s_l2Digits (t : ByteArray) (w : World) (ht : t.size ≤ 1048576) :
    Calls Tryd.prog 51 #[.string t] w fun e w' => e = .returned (.int .i64 (dig9 t.data.toList)) ∧ w' = w := by
  obtain ⟨R, hR⟩ : ∃ R, dig9 t.data.toList = R := ⟨_, rfl⟩
  have HB := Lib.hid (fun (k : Nat) (hk : k < t.size) (h9 : k < 9) (hb : Lib.digitVal t[k] = none) => hR.symm.trans (dig9_bad hk h9 hb))
  have HE := Lib.hid (fun (k m : Nat) (hk : k ≤ 9) (he : k = 9 ∨ k = t.size) (h : Lib.decFrom 0 (t.data.toList.take k) = some m) => hR.symm.trans (dig9_end hk he h))
  rw [hR]
  clear hR
  go_enter Tryd.func51, Tryd.ntmps51
  go_wp2_with fail
  go_loop [3, 4] (fun n i => ∃ (k m : Nat), k ≤ t.size ∧ k ≤ 9 ∧ i = .int .i64 k ∧ n = .int .i64 m ∧ m < 1000000000 ∧ Hid (Lib.decFrom 0 (t.data.toList.take k) = some m)) (fun _ i => t.size - (intOf i).toNat)
  case atStart => exact ⟨0, 0, Nat.zero_le _, by omega, rfl, rfl, by omega, Lib.hid rfl⟩
  case round =>
    obtain ⟨k, m, hk, hk9, rfl, rfl, hm, hrem⟩ := hrel
    by_cases hlt : k < t.size
    · by_cases h9 : k < 9
      · have hgt := Lib.hid (getT hlt)
        have hu : t[k].toNat < 256 := t[k].toNat_lt
        obtain ⟨x, hx⟩ : ∃ x : Int, x = (t[k].toNat : Int) := ⟨_, rfl⟩
        by_cases h48 : t[k].toNat < 48
        · have hbad : Lib.digitVal t[k] = none := by unfold Lib.digitVal; rw [if_neg (by omega)]
          have fin := Lib.hid (HB.out k hlt h9 hbad)
          have hc1 : (t[k].toNat : Int) < 48 := by omega
          clear hbad h48 hx
          go_wp2_with fail
          go_ret
          exact ⟨congrArg (fun z => Ending.returned (.int .i64 z)) fin.out.symm, rfl⟩
        · by_cases h57 : 57 < t[k].toNat
          · have hbad : Lib.digitVal t[k] = none := by unfold Lib.digitVal; rw [if_neg (by omega)]
            have fin := Lib.hid (HB.out k hlt h9 hbad)
            have hc1 : ¬ (t[k].toNat : Int) < 48 := by omega
            have hc2 : (57 : Int) < (t[k].toNat : Int) := by omega
            clear hbad h48 h57 hx
            go_wp2_with fail
            go_ret
            exact ⟨congrArg (fun z => Ending.returned (.int .i64 z)) fin.out.symm, rfl⟩
          · have hdig : Lib.digitVal t[k] = some (t[k].toNat - 48) := by unfold Lib.digitVal; rw [if_pos (by omega)]
            have hnext := Lib.decFrom_take _ _ _ _ _ _ hrem.out hgt.out hdig
            have hnlt := Lib.decFrom_lt _ _ _ hnext
            have hlen : (t.data.toList.take (k + 1)).length ≤ 9 := by rw [List.length_take]; omega
            have hpow : 10 ^ (t.data.toList.take (k + 1)).length ≤ 10 ^ 9 := Nat.pow_le_pow_right (by omega) hlen
            have hm2 : m * 10 + (t[k].toNat - 48) < 1000000000 := by omega
            have Hnext := Lib.hid hnext
            have hc1 : ¬ (t[k].toNat : Int) < 48 := by omega
            have hc2 : ¬ (57 : Int) < (t[k].toNat : Int) := by omega
            have hw8 : IntKind.u8.wrap ((t[k].toNat : Int) - 48) = (t[k].toNat : Int) - 48 := IntWalk.u8_in _ (by omega)
            clear hnext hnlt hlen hpow hdig hx
            go_wp2_with fail
            go_round
            case rel => exact ⟨k + 1, m * 10 + (t[k].toNat - 48), by omega, by omega, by go_num, by go_num, hm2, Hnext⟩
            case measure => simp [intOf]; omega
      · have fin := Lib.hid (HE.out k m hk9 (.inl (by omega)) hrem.out)
        go_wp2_with fail
        go_ret
        exact ⟨congrArg (fun z => Ending.returned (.int .i64 z)) fin.out.symm, rfl⟩
    · have fin := Lib.hid (HE.out k m hk9 (.inr (by omega)) hrem.out)
      go_wp2_with fail
      go_ret
      exact ⟨congrArg (fun z => Ending.returned (.int .i64 z)) fin.out.symm, rfl⟩
end Go.Proofs.YtaifelcocnnkjaaDoor
