/- Values of heaps: HeapValues of both, and the walk of its law. -/
import Derived.Test.YtoeacocijcammaaHvB
namespace Go.Proofs.Ytoeacocijcammaa
open Go.RowKit

def hvC (xs : List Int) (n : Int) : List Int × Bool := if goodC xs && inB n 0 300 then valsC xs n.toNat else ([], false)
theorem hvC_code {xs : List Int} {n : Int} (h : goodC xs = false) : hvC xs n = ([], false) := by simp [hvC, h]
theorem hvC_n {xs : List Int} {n : Int} (h : inB n 0 300 = false) : hvC xs n = ([], false) := by simp [hvC, h]
theorem hvC_in {xs : List Int} {n : Nat} (h : goodC xs = true) (hn : n ≤ 300) : hvC xs n = valsC xs n := by
  have : inB (n : Int) 0 300 = true := inB_true.2 ⟨by omega, by omega⟩
  simp [hvC, h, this]
theorem valsC_yes {xs : List Int} {n : Nat} (h : nims (vals xs (n + 1)) = true) : valsC xs n = ((vals xs (n + 1)).map fun (x : Nat) => (x : Int), true) := by simp [valsC, h]
theorem valsC_no {xs : List Int} {n : Nat} (h : nims (vals xs (n + 1)) = false) : valsC xs n = ([], false) := by simp [valsC, h]

theorem listP_of_nats {w w' : World} {v : List Nat} {g cap : Nat} {m : List Int × Bool} (hm : m = (v.map fun (x : Nat) => (x : Int), true))
    (ho : w'.ownsRow w.heap.size 3 1 (.slice (some ⟨g, 0, none⟩) v.length cap) v.length (natC v)) (hb : Below w.heap.size w w') {e : Ending}
    (he : e = .returned (.tuple #[.slice (some ⟨g, 0, none⟩) v.length cap, .bool true])) : ListP w m e w' := by
  subst hm
  refine ⟨some ⟨g, 0, none⟩, cap, by simpa using he, ?_, hb⟩
  simp only [OwnI, List.length_map, List.map_map]
  exact ho

set_option maxHeartbeats 400000 in
theorem c_l16Nimber (x : Nat) (w : World) :
    Calls Try.prog 67 #[.int .i64 x] w fun e w' => e = .returned (.bool (decide (x ≤ 255))) ∧ w = w' := by
  have hq : Hid (inB (x : Int) 0 255 = decide (x ≤ 255)) := Lib.hid (by
    by_cases h : x ≤ 255
    · rw [decide_eq_true h, inB_true]; omega
    · rw [decide_eq_false h, inB_false]; omega)
  go_enter Try.func67, Try.ntmps67
  go_wp2_with (go_at_call 40; refine (c_l1In _ _ _ _).mono ?_; rintro e w' ⟨rfl, rfl⟩)
  go_ret
  exact ⟨ret_bool hq.out, rfl⟩
set_option maxHeartbeats 400000 in
theorem c_l17Nimbers (A : Option Addr) (c : Nat) (v : List Nat) (w : World) (rd : RdV w A v.length (natC v)) (hl : v.length ≤ 301) :
    Calls Try.prog 49 #[.slice A v.length c] w fun e w' => e = .returned (.bool (nims v)) ∧ w = w' := by
  obtain ⟨r, hr⟩ : ∃ r, Hid (nims v = r) := ⟨_, Lib.hid rfl⟩
  rw [hr.out]
  go_enter Try.func49, Try.ntmps49
  go_wp2_with fail
  go_loop [3] (fun i => ∃ k : Nat, k ≤ v.length ∧ i = .int .i64 k ∧ Hid (r = nims (v.drop k))) (fun i => v.length - (intOf i).toNat)
  case atStart => exact ⟨0, Nat.zero_le _, rfl, Lib.hid hr.out.symm⟩
  case round =>
    obtain ⟨k, hk, rfl, hrem⟩ := hrel
    by_cases hlt : k < v.length
    · obtain ⟨b, off, rfl, _, hcx⟩ := rd.at_ hlt
      have hc0 := hcx k _ (natC_get hlt)
      clear hcx
      have hd : Hid (v.drop k = v.getD k 0 :: v.drop (k + 1)) := Lib.hid (by rw [List.drop_eq_getElem_cons hlt]; simp [hlt])
      generalize v.getD k 0 = y at *
      have hy := Lib.hid (c_l16Nimber y w)
      by_cases he : y ≤ 255
      · have hrem' : Hid (r = nims (v.drop (k + 1))) := Lib.hid (by rw [hrem.out, hd.out]; simp [nims, he])
        have hq : Hid (decide (y ≤ 255) = true) := Lib.hid (decide_eq_true he)
        clear he
        go_wp2_with (go_at_call 67; refine hy.out.mono ?_; rintro e w' ⟨rfl, rfl⟩; rw [hq.out])
        go_round
        case rel => exact ⟨k + 1, by omega, by go_num, hrem'⟩
        case measure => simp [intOf]; omega
      · have hres : Hid (false = r) := Lib.hid (by rw [hrem.out, hd.out]; simp [nims]; omega)
        have hq : Hid (decide (y ≤ 255) = false) := Lib.hid (decide_eq_false he)
        clear he
        go_wp2_with (go_at_call 67; refine hy.out.mono ?_; rintro e w' ⟨rfl, rfl⟩; rw [hq.out])
        go_ret
        exact ⟨ret_bool hres.out, rfl⟩
    · have hres : Hid (true = r) := Lib.hid (by rw [hrem.out, List.drop_of_length_le (by omega)]; simp [nims])
      go_wp2_with fail
      go_ret
      exact ⟨ret_bool hres.out, rfl⟩
set_option maxHeartbeats 800000 in
theorem s_HeapValues (A : Option Addr) (c : Nat) (xs : List Int) (n : Int) (w : World) (rd : RdI w A xs.length xs) (hn : xs.length ≤ 1048576) :
    Calls Try.prog 29 #[.slice A xs.length c, .int .i64 n] w (ListP w (hvC xs n)) := by
  have HG := Lib.hid (s_GoodCode A c xs w rd (by omega))
  cases hg : goodC xs
  · have fin := Lib.hid (hvC_code (n := n) hg)
    rw [hg] at HG
    clear hg
    go_enter Try.func29, Try.ntmps29
    go_wp2_with (go_at_call 22; refine HG.out.mono ?_; rintro e w' ⟨rfl, rfl⟩)
    exact bodyPost_ret (results_tmp2 rfl _ _ _) rfl (ListP.none fin.out rfl (Below.refl _ _))
  · rw [hg] at HG
    cases hb : inB n 0 300
    · have fin := Lib.hid (hvC_n (xs := xs) hb)
      have HB := Lib.hid (c_l1In n 0 300 w)
      rw [hb] at HB
      clear hg hb
      go_enter Try.func29, Try.ntmps29
      go_wp2_with (first | (go_at_call 22; refine HG.out.mono ?_; rintro e w' ⟨rfl, rfl⟩) | (go_at_call 40; refine HB.out.mono ?_; rintro e w' ⟨rfl, rfl⟩))
      exact bodyPost_ret (results_tmp2 rfl _ _ _) rfl (ListP.none fin.out rfl (Below.refl _ _))
    · obtain ⟨h0, h300⟩ := inB_true.1 hb
      obtain ⟨m, rfl⟩ := Int.eq_ofNat_of_zero_le h0
      have fin := Lib.hid (hvC_in hg (n := m) (by omega))
      have HB := Lib.hid (c_l1In m 0 300 w)
      have HV := Lib.hid (s_l17Values A c xs m w rd hg (by omega))
      rw [hb] at HB
      have hm : m + 1 ≤ 301 := by omega
      clear hg hb h0 h300
      go_enter Try.func29, Try.ntmps29
      go_wp2_with (first | (go_at_call 22; refine HG.out.mono ?_; rintro e w' ⟨rfl, rfl⟩) | (go_at_call 40; refine HB.out.mono ?_; rintro e w' ⟨rfl, rfl⟩))
      refine HV.out.mono ?_
      rintro e w1 ⟨g, cap, rfl, o1, b1⟩
      have hl := vals_len xs (m + 1)
      have HN := Lib.hid (c_l17Nimbers (some ⟨g, 0, none⟩) cap (vals xs (m + 1)) w1 (RdV.of_own o1) (by omega))
      have O1 := Lib.hid o1
      have B1 := Lib.hid b1
      clear o1 b1 hl
      cases hq : nims (vals xs (m + 1))
      · have fin2 := Lib.hid (valsC_no hq)
        rw [hq] at HN
        clear hq
        go_wp2_with fail
        refine HN.out.mono ?_
        rintro e w' ⟨rfl, rfl⟩
        go_wp2_with fail
        exact bodyPost_ret (results_tmp2 rfl _ _ _) rfl (ListP.none (fin.out.trans fin2.out) rfl B1.out)
      · have fin2 := Lib.hid (valsC_yes hq)
        rw [hq] at HN
        clear hq
        go_wp2_with fail
        refine HN.out.mono ?_
        rintro e w' ⟨rfl, rfl⟩
        go_wp2_with fail
        exact bodyPost_ret (results_tmp2 rfl _ _ _) rfl (listP_of_nats (fin.out.trans fin2.out) O1.out B1.out rfl)
set_option maxHeartbeats 800000 in
theorem c_HeapValues (A : Option Addr) (c : Nat) (xs : List Int) (n : Int) (w : World) (rd : RdI w A xs.length xs) :
    Calls Try.prog 28 #[.slice A xs.length c, .int .i64 n] w (ListP w (hvC xs n)) := by
  have HG := Lib.hid (c_GoodCode A c xs w rd)
  cases hg : goodC xs
  · have fin := Lib.hid (hvC_code (n := n) hg)
    rw [hg] at HG
    clear hg
    go_enter Try.func28, Try.ntmps28
    go_wp2_with (go_at_call 23; refine HG.out.mono ?_; rintro e w' ⟨rfl, rfl⟩)
    exact bodyPost_ret (results_tmp2 rfl _ _ _) rfl (ListP.none fin.out rfl (Below.refl _ _))
  · rw [hg] at HG
    by_cases h0 : n < 0
    · have fin := Lib.hid (hvC_n (xs := xs) (inB_false.2 (.inl h0)))
      clear hg
      go_enter Try.func28, Try.ntmps28
      go_wp2_with (go_at_call 23; refine HG.out.mono ?_; rintro e w' ⟨rfl, rfl⟩)
      exact bodyPost_ret (results_tmp2 rfl _ _ _) rfl (ListP.none fin.out rfl (Below.refl _ _))
    · by_cases h3 : 300 < n
      · have fin := Lib.hid (hvC_n (xs := xs) (inB_false.2 (.inr h3)))
        clear hg
        go_enter Try.func28, Try.ntmps28
        go_wp2_with (go_at_call 23; refine HG.out.mono ?_; rintro e w' ⟨rfl, rfl⟩)
        exact bodyPost_ret (results_tmp2 rfl _ _ _) rfl (ListP.none fin.out rfl (Below.refl _ _))
      · obtain ⟨m, rfl⟩ := Int.eq_ofNat_of_zero_le (show 0 ≤ n by omega)
        have fin := Lib.hid (hvC_in hg (n := m) (by omega))
        have HV := Lib.hid (c_values A c xs m w rd hg (by omega))
        rw [← fin.out] at HV
        clear hg fin
        go_enter Try.func28, Try.ntmps28
        go_wp2_with (go_at_call 23; refine HG.out.mono ?_; rintro e w' ⟨rfl, rfl⟩)
        refine HV.out.mono ?_
        rintro e w1 ⟨A', c', rfl, o1, b1⟩
        have O1 := Lib.hid o1
        have B1 := Lib.hid b1
        clear o1 b1
        go_wp2_with fail
        exact bodyPost_ret (results_tmp2 rfl _ _ _) rfl ⟨_, _, rfl, O1.out, B1.out⟩
end Go.Proofs.Ytoeacocijcammaa
