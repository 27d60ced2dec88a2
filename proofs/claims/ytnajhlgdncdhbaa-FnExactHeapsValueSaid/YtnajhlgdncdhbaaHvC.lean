/- Values of heaps: HeapValues of both, and the walk of its law. -/
import Derived.Test.YtnajhlgdncdhbaaHvB
namespace Go.Proofs.Ytnajhlgdncdhbaa
open Go.RowKit

def hvC (xs : List Int) (n : Int) : List Int × Bool := if goodC xs && inB n 0 300 then valsC xs n.toNat else ([], false)
theorem hvC_code {xs : List Int} {n : Int} (h : goodC xs = false) : hvC xs n = ([], false) := by simp [hvC, h]
theorem hvC_n {xs : List Int} {n : Int} (h : inB n 0 300 = false) : hvC xs n = ([], false) := by simp [hvC, h]
theorem hvC_in {xs : List Int} {n : Nat} (h : goodC xs = true) (hn : n ≤ 300) : hvC xs n = valsC xs n := by
  have : inB (n : Int) 0 300 = true := inB_true.2 ⟨by omega, by omega⟩
  simp [hvC, h, this]
theorem valsC_yes {xs : List Int} {n : Nat} (h : nims (vals xs (n + 1)) = true) : valsC xs n = ((vals xs (n + 1)).map fun (x : Nat) => (x : Int), true) := by simp [valsC, h]
theorem valsC_no {xs : List Int} {n : Nat} (h : nims (vals xs (n + 1)) = false) : valsC xs n = ([], false) := by simp [valsC, h]

theorem listP_of_nats {w w' : World} {v : List Nat} {g cap : Nat} {m : List Int × Bool} (hm : m = (v.map fun (x : Nat) => (x : Int), true))
    (ho : w'.ownsRow w.heap.size 3 1 (.slice (some ⟨g, 0, none⟩) v.length cap) v.length (natC v)) (hb : Below w.heap.size w w') {e : Ending}
    (he : e = .returned (.tuple #[.slice (some ⟨g, 0, none⟩) v.length cap, .bool true])) : ListP w m e w' := by
  subst hm
  refine ⟨some ⟨g, 0, none⟩, cap, by simpa using he, ?_, hb⟩
  simp only [OwnI, List.length_map, List.map_map]
  exact ho

set_option maxHeartbeats 400000 in
theorem c_l16Nimber (x : Nat) (w : World) :
    Calls Try.prog 66 #[.int .i64 x] w fun e w' => e = .returned (.bool (decide (x ≤ 255))) ∧ w = w' := by
  have hq : Hid (inB (x : Int) 0 255 = decide (x ≤ 255)) := Lib.hid (by
    by_cases h : x ≤ 255
    · rw [decide_eq_true h, inB_true]; omega
    · rw [decide_eq_false h, inB_false]; omega)
  go_enter Try.func66, Try.ntmps66
  go_wp2_with (go_at_call 45; refine (c_l1In _ _ _ _).mono ?_; rintro e w' ⟨rfl, rfl⟩)
  go_ret
  exact ⟨ret_bool hq.out, rfl⟩
set_option maxHeartbeats 400000 in
theorem c_l17Nimbers (A : Option Addr) (c : Nat) (v : List Nat) (w : World) (rd : RdV w A v.length (natC v)) (hl : v.length ≤ 301) :
    Calls Try.prog 63 #[.slice A v.length c] w fun e w' => e = .returned (.bool (nims v)) ∧ w = w' := by
  obtain ⟨r, hr⟩ : ∃ r, Hid (nims v = r) := ⟨_, Lib.hid rfl⟩
  rw [hr.out]
  go_enter Try.func63, Try.ntmps63
  go_wp2_with fail
  go_loop [3] (fun i => ∃ k : Nat, k ≤ v.length ∧ i = .int .i64 k ∧ Hid (r = nims (v.drop k))) (fun i => v.length - (intOf i).toNat)
  case atStart => exact ⟨0, Nat.zero_le _, rfl, Lib.hid hr.out.symm⟩
  case round =>
    obtain ⟨k, hk, rfl, hrem⟩ := hrel
    by_cases hlt : k < v.length
    · obtain ⟨b, off, rfl, _, hcx⟩ := rd.at_ hlt
      have hc0 := hcx k _ (natC_get hlt)
      clear hcx
      have hd : Hid (v.drop k = v.getD k 0 :: v.drop (k + 1)) := Lib.hid (by rw [List.drop_eq_getElem_cons hlt]; simp [hlt])
      generalize v.getD k 0 = y at *
      have hy := Lib.hid (c_l16Nimber y w)
      by_cases he : y ≤ 255
      · have hrem' : Hid (r = nims (v.drop (k + 1))) := Lib.hid (by rw [hrem.out, hd.out]; simp [nims, he])
        have hq : Hid (decide (y ≤ 255) = true) := Lib.hid (decide_eq_true he)
        clear he
        go_wp2_with (go_at_call 66; refine hy.out.mono ?_; rintro e w' ⟨rfl, rfl⟩; rw [hq.out])
        go_round
        case rel => exact ⟨k + 1, by omega, by go_num, hrem'⟩
        case measure => simp [intOf]; omega
      · have hres : Hid (false = r) := Lib.hid (by rw [hrem.out, hd.out]; simp [nims]; omega)
        have hq : Hid (decide (y ≤ 255) = false) := Lib.hid (decide_eq_false he)
        clear he
        go_wp2_with (go_at_call 66; refine hy.out.mono ?_; rintro e w' ⟨rfl, rfl⟩; rw [hq.out])
        go_ret
        exact ⟨ret_bool hres.out, rfl⟩
    · have hres : Hid (true = r) := Lib.hid (by rw [hrem.out, List.drop_of_length_le (by omega)]; simp [nims])
      go_wp2_with fail
      go_ret
      exact ⟨ret_bool hres.out, rfl⟩
set_option maxHeartbeats 800000 in
theorem s_HeapValues (A : Option Addr) (c : Nat) (xs : List Int) (n : Int) (w : World) (rd : RdI w A xs.length xs) (hn : xs.length ≤ 1048576) :
    Calls Try.prog 41 #[.slice A xs.length c, .int .i64 n] w (ListP w (hvC xs n)) := by
  have HG := Lib.hid (s_GoodCode A c xs w rd (by omega))
  cases hg : goodC xs
  · have fin := Lib.hid (hvC_code (n := n) hg)
    rw [hg] at HG
    clear hg
    go_enter Try.func41, Try.ntmps41
    go_wp2_with (go_at_call 16; refine HG.out.mono ?_; rintro e w' ⟨rfl, rfl⟩)
    exact bodyPost_ret (results_tmp2 rfl _ _ _) rfl (ListP.none fin.out rfl (Below.refl _ _))
  · rw [hg] at HG
    cases hb : inB n 0 300
    · have fin := Lib.hid (hvC_n (xs := xs) hb)
      have HB := Lib.hid (c_l1In n 0 300 w)
      rw [hb] at HB
      clear hg hb
      go_enter Try.func41, Try.ntmps41
      go_wp2_with (first | (go_at_call 16; refine HG.out.mono ?_; rintro e w' ⟨rfl, rfl⟩) | (go_at_call 45; refine HB.out.mono ?_; rintro e w' ⟨rfl, rfl⟩))
      exact bodyPost_ret (results_tmp2 rfl _ _ _) rfl (ListP.none fin.out rfl (Below.refl _ _))
    · obtain ⟨h0, h300⟩ := inB_true.1 hb
      obtain ⟨m, rfl⟩ := Int.eq_ofNat_of_zero_le h0
      have fin := Lib.hid (hvC_in hg (n := m) (by omega))
      have HB := Lib.hid (c_l1In m 0 300 w)
      have HV := Lib.hid (s_l17Values A c xs m w rd hg (by omega))
      rw [hb] at HB
      have hm : m + 1 ≤ 301 := by omega
      clear hg hb h0 h300
      go_enter Try.func41, Try.ntmps41
      go_wp2_with (first | (go_at_call 16; refine HG.out.mono ?_; rintro e w' ⟨rfl, rfl⟩) | (go_at_call 45; refine HB.out.mono ?_; rintro e w' ⟨rfl, rfl⟩))
      refine HV.out.mono ?_
      rintro e w1 ⟨g, cap, rfl, o1, b1⟩
      have hl := vals_len xs (m + 1)
      have HN := Lib.hid (c_l17Nimbers (some ⟨g, 0, none⟩) cap (vals xs (m + 1)) w1 (RdV.of_own o1) (by omega))
      have O1 := Lib.hid o1
      have B1 := Lib.hid b1
      clear o1 b1 hl
      cases hq : nims (vals xs (m + 1))
      · have fin2 := Lib.hid (valsC_no hq)
        rw [hq] at HN
        clear hq
        go_wp2_with fail
        refine HN.out.mono ?_
        rintro e w' ⟨rfl, rfl⟩
        go_wp2_with fail
        exact bodyPost_ret (results_tmp2 rfl _ _ _) rfl (ListP.none (fin.out.trans fin2.out) rfl B1.out)
      · have fin2 := Lib.hid (valsC_yes hq)
        rw [hq] at HN
        clear hq
        go_wp2_with fail
        refine HN.out.mono ?_
        rintro e w' ⟨rfl, rfl⟩
        go_wp2_with fail
        exact bodyPost_ret (results_tmp2 rfl _ _ _) rfl (listP_of_nats (fin.out.trans fin2.out) O1.out B1.out rfl)
set_option maxHeartbeats 800000 in
theorem c_HeapValues (A : Option Addr) (c : Nat) (xs : List Int) (n : Int) (w : World) (rd : RdI w A xs.length xs) :
    Calls Try.prog 42 #[.slice A xs.length c, .int .i64 n] w (ListP w (hvC xs n)) := by
  have HG := Lib.hid (c_GoodCode A c xs w rd)
  cases hg : goodC xs
  · have fin := Lib.hid (hvC_code (n := n) hg)
    rw [hg] at HG
    clear hg
    go_enter Try.func42, Try.ntmps42
    go_wp2_with (go_at_call 18; refine HG.out.mono ?_; rintro e w' ⟨rfl, rfl⟩)
    exact bodyPost_ret (results_tmp2 rfl _ _ _) rfl (ListP.none fin.out rfl (Below.refl _ _))
  · rw [hg] at HG
    by_cases h0 : n < 0
    · have fin := Lib.hid (hvC_n (xs := xs) (inB_false.2 (.inl h0)))
      clear hg
      go_enter Try.func42, Try.ntmps42
      go_wp2_with (go_at_call 18; refine HG.out.mono ?_; rintro e w' ⟨rfl, rfl⟩)
      exact bodyPost_ret (results_tmp2 rfl _ _ _) rfl (ListP.none fin.out rfl (Below.refl _ _))
    · by_cases h3 : 300 < n
      · have fin := Lib.hid (hvC_n (xs := xs) (inB_false.2 (.inr h3)))
        clear hg
        go_enter Try.func42, Try.ntmps42
        go_wp2_with (go_at_call 18; refine HG.out.mono ?_; rintro e w' ⟨rfl, rfl⟩)
        exact bodyPost_ret (results_tmp2 rfl _ _ _) rfl (ListP.none fin.out rfl (Below.refl _ _))
      · obtain ⟨m, rfl⟩ := Int.eq_ofNat_of_zero_le (show 0 ≤ n by omega)
        have fin := Lib.hid (hvC_in hg (n := m) (by omega))
        have HV := Lib.hid (c_values A c xs m w rd hg (by omega))
        rw [← fin.out] at HV
        clear hg fin
        go_enter Try.func42, Try.ntmps42
        go_wp2_with (go_at_call 18; refine HG.out.mono ?_; rintro e w' ⟨rfl, rfl⟩)
        refine HV.out.mono ?_
        rintro e w1 ⟨A', c', rfl, o1, b1⟩
        have O1 := Lib.hid o1
        have B1 := Lib.hid b1
        clear o1 b1
        go_wp2_with fail
        exact bodyPost_ret (results_tmp2 rfl _ _ _) rfl ⟨_, _, rfl, O1.out, B1.out⟩
set_option maxHeartbeats 1600000 in
theorem w_FnExactHeapValues (A : Option Addr) (len c : Nat) (ys : List Int) (n : Int) (w : World) (rd : RdV w A len (ys.map (Value.int .i64))) (_f : Fits .i64 ys) (_m : len ≤ maxLen) (hn64 : (Lit.int .i64 n).wf = true) :
    Calls Try.prog 11 #[.slice A len c, .int .i64 n] w fun e w' => e = .returned (.bool true) ∧ Below w.heap.size w w' := by
  have rd : RdI w A len ys := rd
  obtain rfl := rd.len
  clear _m _f hn64
  by_cases hn : ys.length ≤ 1048576
  · obtain ⟨m, Hm⟩ : ∃ m, Hid (hvC ys n = m) := ⟨_, Lib.hid rfl⟩
    have hl : Hid (m.1.length ≤ 1048576) := Lib.hid (by
      rw [← Hm.out]; unfold hvC; split
      · rename_i h
        simp only [Bool.and_eq_true] at h
        have h2 := (inB_true.1 h.2)
        unfold valsC; split
        · simp [vals_len]; omega
        · simp
      · simp)
    have HS : ∀ (A : Option Addr) (c : Nat) (w : World), RdI w A ys.length ys → Calls Try.prog 41 #[.slice A ys.length c, .int .i64 n] w (ListP w m) := fun A c w rd => by have := s_HeapValues A c ys n w rd hn; rwa [Hm.out] at this
    have HC : ∀ (A : Option Addr) (c : Nat) (w : World), RdI w A ys.length ys → Calls Try.prog 42 #[.slice A ys.length c, .int .i64 n] w (ListP w m) := fun A c w rd => by have := c_HeapValues A c ys n w rd; rwa [Hm.out] at this
    obtain ⟨xs, ok⟩ := m
    have hl : xs.length ≤ 1048576 := hl.out
    go_enter Try.func11, Try.ntmps11
    go_wp2_with fail
    refine (c_toIntS _ _ _ ys _ rd hn).mono ?_
    rintro e v1 ⟨g1, rfl, _, t1, a1⟩
    go_wp2_with fail
    refine (HS _ _ _ t1).mono ?_
    rintro e w1 ⟨A1, c1, rfl, o1, b1⟩
    have B1 := Below.next a1 b1
    go_wp2_with fail
    refine (c_toIntS_own _ _ _ ys _ (rd.below B1) hn).mono ?_
    rintro e v2 ⟨g2, rfl, t2, a2⟩
    have B2 := Below.next B1 a2
    have r1 := o1.rd.below a2
    go_wp2_with fail
    refine (HC _ _ _ t2.rd).mono ?_
    rintro e w2 ⟨A2, c2, rfl, o2, b2⟩
    have B3 := Below.next B2 b2
    have r1 := r1.below b2
    have t3 := own_below t2 b2
    go_wp2_with fail
    refine (c_eqIntS_same _ _ _ _ _ xs _ o2.rd r1 hl).mono ?_
    rintro e w3 ⟨rfl, q3⟩
    have B4 := Below.next B3 q3.below
    have r1 := r1.q q3
    have o3 := own_below o2 q3.below
    have t4 := own_below t3 q3.below
    go_wp2_with fail
    refine (c_toIntS _ _ _ ys _ (rd.below B4) hn).mono ?_
    rintro e w4 ⟨g4, rfl, _, t5, a4⟩
    have B5 := Below.next B4 a4
    have r1 := r1.below a4
    have o4 := own_below o3 a4
    have t6 := own_below t4 a4
    go_wp2_with fail
    refine (c_eqIntS_same _ _ _ _ _ ys _ (OwnI.rd t6) t5 hn).mono ?_
    rintro e w5 ⟨rfl, q5⟩
    have B6 := Below.next B5 q5.below
    have r1 := r1.q q5
    have o5 := own_below o4 q5.below
    have t7 := own_below t6 q5.below
    go_wp2_with fail
    refine (c_markIntS _ _ _ ys _ _ t7 (by omega) (by decide) (by decide)).mono ?_
    rintro e w6 ⟨rfl, _, k6⟩
    have B7 := B6.grown k6 B6.size (fun k hk => Nat.le_trans B1.size (t7.lt k hk).1)
    have r1 := RdI.grown r1 t7 (OwnI.old o1 (Nat.le_refl _)) k6
    have o6 := OwnI.apart o5 t2 (Nat.le_refl _) k6
    have hk0 : (0 : Int) ≤ 1 + (ys.length : Int) := by omega
    go_wp2_with fail
    refine (c_eqIntS_same _ _ _ _ _ xs _ (OwnI.rd o6) r1 hl).mono ?_
    rintro e w7 ⟨rfl, q7⟩
    have B8 := Below.next B7 q7.below
    have r1 := r1.q q7
    have o7 := own_below o6 q7.below
    clear hk0
    go_wp2_with fail
    refine (c_markIntS _ _ _ xs _ _ o7 (by omega) (by decide) (by decide)).mono ?_
    rintro e w8 ⟨rfl, o8, k8⟩
    have B9 := B8.grown k8 B8.size (fun k hk => Nat.le_trans B2.size (o7.lt k hk).1)
    have r1 := RdI.grown r1 o7 (OwnI.old o1 a2.size) k8
    have r8 : RdI w8 A2 xs.length (mks 1 xs.length) := RdV.of_own o8
    have hk0 : (0 : Int) ≤ 1 + (xs.length : Int) := by omega
    go_wp2_with fail
    refine (c_heldIntS _ _ _ _ _ r8 (by omega) (by decide) (by decide)).mono ?_
    rintro e w9 ⟨rfl, rfl⟩
    go_wp2_with fail
    refine (c_toIntS _ _ _ ys _ (rd.below B9) hn).mono ?_
    rintro e v9 ⟨g9, rfl, _, t9, a9⟩
    have B10 := Below.next B9 a9
    have r1 := r1.below a9
    have r8 := r8.below a9
    go_wp2_with fail
    refine (HC _ _ _ t9).mono ?_
    rintro e w10 ⟨A3, c3, rfl, o10, b10⟩
    have B11 := Below.next B10 b10
    have r1 := r1.below b10
    have r8 := r8.below b10
    go_wp2_with fail
    refine (c_eqIntS_same _ _ _ _ _ xs _ o10.rd r1 hl).mono ?_
    rintro e w11 ⟨rfl, q11⟩
    have B12 := Below.next B11 q11.below
    have r8 := r8.q q11
    go_wp2_with fail
    refine (c_heldIntS _ _ _ _ _ r8 (by omega) (by decide) (by decide)).mono ?_
    rintro e w12 ⟨rfl, rfl⟩
    go_wp2_with fail
    go_ret
    exact ⟨rfl, B12⟩
  · go_enter Try.func11, Try.ntmps11
    go_wp2_with fail
    go_ret
    exact ⟨rfl, Below.refl _ _⟩
end Go.Proofs.Ytnajhlgdncdhbaa
