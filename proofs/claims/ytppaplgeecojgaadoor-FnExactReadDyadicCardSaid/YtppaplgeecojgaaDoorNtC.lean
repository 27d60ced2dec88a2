/- Seals: the text with its checksum, by the program and by the reference; the walk of the law on SealText. -/
import Derived.Test.YtppaplgeecojgaaDoorNtB
namespace Go.Proofs.YtppaplgeecojgaaDoor
open Go.RowKit

/-- A text, '#', and its checksum. -/
def sealB (s : ByteArray) : ByteArray := s ++ ⟨#[35]⟩ ++ strOfNums (numB (sumFrom 5 s.data.toList))
theorem sum_bd (s : ByteArray) : 0 ≤ sumFrom 5 s.data.toList ∧ sumFrom 5 s.data.toList < 999983 := sumFrom_bd _ 5 (by omega) (by omega)
theorem sum_len (s : ByteArray) : (numB (sumFrom 5 s.data.toList)).length ≤ 14 := numB_len (by have := sum_bd s; omega) (by have := sum_bd s; omega)
theorem sealB_size (s : ByteArray) : (sealB s).size = s.size + 1 + (numB (sumFrom 5 s.data.toList)).length := by
  unfold sealB
  rw [ByteArray.size_append, ByteArray.size_append, strOfNums_size]
  rfl
set_option maxHeartbeats 800000 in
theorem s_l1Seal (s : ByteArray) (w : World) (hs : s.size ≤ 1048576) :
    Calls Tryd.prog 33 #[.string s] w fun e w' => e = .returned (.string (sealB s)) ∧ Q w w' := by
  have hb := sum_bd s
  have hl := sum_len s
  have HS := Lib.hid (fun w => s_l1Sum s w (by unfold maxLen; omega))
  have HN := Lib.hid (fun w => s_l1Num (sumFrom 5 s.data.toList) w (by omega) (by omega))
  have fin : Hid (sealB s = s ++ ⟨#[35]⟩ ++ strOfNums (numB (sumFrom 5 s.data.toList))) := Lib.hid rfl
  generalize sumFrom 5 s.data.toList = h at *
  generalize numB h = L at *
  have h1 := fun (w : World) => run_string_add_sum (P := Tryd.prog) w s ⟨#[35]⟩ (by show s.size + 1 ≤ _; omega)
  have h2 := fun (w : World) => run_string_add_sum (P := Tryd.prog) w (s ++ ⟨#[35]⟩) (strOfNums L) (by rw [ByteArray.size_append, strOfNums_size]; show s.size + 1 + _ ≤ _; omega)
  clear hl
  go_enter Tryd.func33, Tryd.ntmps33
  go_wp2_with fail
  refine (HS.out _).mono ?_
  rintro e w1 ⟨rfl, rfl⟩
  go_wp2_with fail
  refine (HN.out _).mono ?_
  rintro e w1 ⟨rfl, q⟩
  go_wp2_with fail
  go_ret
  exact ⟨by rw [fin.out]; rfl, q⟩
def sealT (s : ByteArray) : ByteArray × Bool := if s.size ≤ 4000 ∧ stB s 35 = false ∧ (sealB s).size ≤ 4000 then (sealB s, true) else (ByteArray.empty, false)
theorem sealT_no {s : ByteArray} (h : ¬ (s.size ≤ 4000 ∧ stB s 35 = false ∧ (sealB s).size ≤ 4000)) : sealT s = (ByteArray.empty, false) := if_neg h
theorem sealT_yes {s : ByteArray} (h1 : s.size ≤ 4000) (h2 : stB s 35 = false) (h3 : (sealB s).size ≤ 4000) : sealT s = (sealB s, true) := if_pos ⟨h1, h2, h3⟩
set_option maxHeartbeats 800000 in
theorem s_SealText (s : ByteArray) (w : World) (hs : s.size ≤ 1048576) :
    Calls Tryd.prog 12 #[.string s] w fun e w' => e = .returned (tv (sealT s)) ∧ Q w w' := by
  by_cases h4 : s.size ≤ 4000
  · have h41 : ¬ (4000 : Int) < (s.size : Int) := by omega
    have HST : ∀ w, Calls Tryd.prog 32 #[.string s, .int .u8 35] w fun e w' => e = .returned (.bool (stB s 35)) ∧ w = w' := fun w => c_l1Stands s 35 w hs
    have HL := Lib.hid (fun w => s_l1Seal s w hs)
    cases hb : stB s 35
    · rw [hb] at HST
      have HST := Lib.hid HST
      by_cases h5 : (sealB s).size ≤ 4000
      · have fin := Lib.hid (sealT_yes h4 hb h5)
        have h51 : ¬ (4000 : Int) < ((sealB s).size : Int) := by omega
        clear hb
        go_enter Tryd.func12, Tryd.ntmps12
        go_wp2_with fail
        refine (HST.out _).mono ?_
        rintro e w1 ⟨rfl, rfl⟩
        go_wp2_with fail
        refine (HL.out _).mono ?_
        rintro e w1 ⟨rfl, q⟩
        go_wp2_with fail
        refine (HL.out _).mono ?_
        rintro e w2 ⟨rfl, q2⟩
        go_wp2_with fail
        go_ret2
        exact ⟨ret_tv fin.out, q.trans q2⟩
      · have fin := Lib.hid (sealT_no (s := s) (fun h => h5 h.2.2))
        have h51 : (4000 : Int) < ((sealB s).size : Int) := by omega
        clear hb
        go_enter Tryd.func12, Tryd.ntmps12
        go_wp2_with fail
        refine (HST.out _).mono ?_
        rintro e w1 ⟨rfl, rfl⟩
        go_wp2_with fail
        refine (HL.out _).mono ?_
        rintro e w1 ⟨rfl, q⟩
        go_wp2_with fail
        go_ret2
        exact ⟨ret_tv fin.out, q⟩
    · rw [hb] at HST
      have HST := Lib.hid HST
      have fin := Lib.hid (sealT_no (s := s) (fun h => by rw [hb] at h; exact absurd h.2.1 (by simp)))
      clear hb
      go_enter Tryd.func12, Tryd.ntmps12
      go_wp2_with fail
      refine (HST.out _).mono ?_
      rintro e w1 ⟨rfl, rfl⟩
      go_wp2_with fail
      go_ret2
      exact ⟨ret_tv fin.out, Q.refl _⟩
  · have h41 : (4000 : Int) < (s.size : Int) := by omega
    have fin := Lib.hid (sealT_no (s := s) (fun h => h4 h.1))
    go_enter Tryd.func12, Tryd.ntmps12
    go_wp2_with fail
    go_ret2
    exact ⟨ret_tv fin.out, Q.refl _⟩
set_option maxHeartbeats 800000 in
theorem c_SealText (s : ByteArray) (w : World) (hs : s.size ≤ maxLen) (ht : Tab w) :
    Calls Tryd.prog 13 #[.string s] w fun e w' => e = .returned (tv (sealT s)) ∧ Below w.heap.size w w' := by
  have HS := c_SumOf s w hs
  by_cases h4 : s.size ≤ 4000
  · have hsv : sumV s = (sumFrom 5 s.data.toList, true) := by unfold sumV; rw [if_pos h4]
    rw [hsv] at HS
    have hb0 := sum_bd s
    have hl := sum_len s
    have hsz := sealB_size s
    have HI : ∀ w, Calls Tryd.prog 35 #[.string s, .int .u8 35] w fun e w' => e = .returned (.int .i64 (Lib.indexByte s.data.toList 35)) ∧ w' = w := fun w => Tryd.strings_IndexByte s 35 w
    have HN := Lib.hid (fun w h => c_Itoa (sumFrom 5 s.data.toList) w h (by omega) (by omega))
    have HS := Lib.hid HS
    cases hb : stB s 35
    · have hi : Lib.indexByte s.data.toList 35 = -1 := idx_neg (of_decide_eq_false hb)
      rw [hi] at HI
      have HI := Lib.hid HI
      have h1 := fun (w : World) => run_string_add_sum (P := Tryd.prog) w s ⟨#[35]⟩ (by show s.size + 1 ≤ _; omega)
      have h2 := fun (w : World) => run_string_add_sum (P := Tryd.prog) w (s ++ ⟨#[35]⟩) (strOfNums (numB (sumFrom 5 s.data.toList))) (by rw [ByteArray.size_append, strOfNums_size]; show s.size + 1 + _ ≤ _; omega)
      have e3 : s ++ ⟨#[35]⟩ ++ strOfNums (numB (sumFrom 5 s.data.toList)) = sealB s := rfl
      rw [e3] at h2
      have fin1 : Hid ((sealB s).size ≤ 4000 → sealT s = (sealB s, true)) := Lib.hid (sealT_yes h4 hb)
      have fin0 : Hid (¬ (sealB s).size ≤ 4000 → sealT s = (ByteArray.empty, false)) := Lib.hid (fun h => sealT_no (fun k => h k.2.2))
      clear hb hi hb0 hl hsz hsv e3
      generalize sumFrom 5 s.data.toList = h at *
      generalize sealB s = Z at *
      generalize strOfNums (numB h) = L at *
      by_cases h5 : Z.size ≤ 4000
      · have h51 : ¬ (4000 : Int) < (Z.size : Int) := by omega
        go_enter Tryd.func13, Tryd.ntmps13
        go_wp2_with (go_at_call 34; refine HS.out.mono ?_; rintro e w' ⟨rfl, rfl⟩)
        refine (HI.out _).mono ?_
        rintro e w1 ⟨rfl, rfl⟩
        go_wp2_with fail
        refine (HN.out _ ht).mono ?_
        rintro e w1 ⟨rfl, b⟩
        go_wp2_with fail
        go_ret2
        exact ⟨ret_tv (fin1.out h5), b⟩
      · have h51 : (4000 : Int) < (Z.size : Int) := by omega
        go_enter Tryd.func13, Tryd.ntmps13
        go_wp2_with (go_at_call 34; refine HS.out.mono ?_; rintro e w' ⟨rfl, rfl⟩)
        refine (HI.out _).mono ?_
        rintro e w1 ⟨rfl, rfl⟩
        go_wp2_with fail
        refine (HN.out _ ht).mono ?_
        rintro e w1 ⟨rfl, b⟩
        go_wp2_with fail
        go_ret2
        exact ⟨ret_tv (fin0.out h5), b⟩
    · have hi : 0 ≤ Lib.indexByte s.data.toList 35 := idx_pos (of_decide_eq_true hb)
      have HI := Lib.hid HI
      have fin := Lib.hid (sealT_no (s := s) (fun h => by rw [hb] at h; exact absurd h.2.1 (by simp)))
      clear hb hb0 hl hsz hsv HN
      generalize Lib.indexByte s.data.toList 35 = i at *
      generalize sumFrom 5 s.data.toList = h at *
      go_enter Tryd.func13, Tryd.ntmps13
      go_wp2_with (go_at_call 34; refine HS.out.mono ?_; rintro e w' ⟨rfl, rfl⟩)
      refine (HI.out _).mono ?_
      rintro e w1 ⟨rfl, rfl⟩
      go_wp2_with fail
      go_ret2
      exact ⟨ret_tv fin.out, Below.refl _ _⟩
  · have hsv : sumV s = (0, false) := by unfold sumV; rw [if_neg h4]
    rw [hsv] at HS
    have fin := Lib.hid (sealT_no (s := s) (fun h => h4 h.1))
    clear hsv
    go_enter Tryd.func13, Tryd.ntmps13
    go_wp2_with (go_at_call 34; refine HS.mono ?_; rintro e w' ⟨rfl, rfl⟩)
    go_ret2
    exact ⟨ret_tv fin.out, Below.refl _ _⟩
set_option maxHeartbeats 800000 in
theorem w_FnExactSealText (s : ByteArray) (w : World) (hs : s.size ≤ maxLen) (ht : Tab w) :
    Calls Tryd.prog 4 #[.string s] w fun e w' => e = .returned (.bool true) ∧ Below w.heap.size w w' := by
  have hs' := hs
  unfold maxLen at hs
  by_cases hn : s.size ≤ 1048576
  · have HS := Lib.hid (fun w => s_SealText s w hn)
    have HC := Lib.hid (fun w => c_SealText s w hs')
    obtain ⟨m, hm⟩ : ∃ m, sealT s = m := ⟨_, rfl⟩
    obtain ⟨t, ok⟩ := m
    rw [hm] at HS HC
    go_enter Tryd.func4, Tryd.ntmps4
    go_wp2_with fail
    refine (HS.out _).mono ?_
    rintro e w1 ⟨rfl, q⟩
    have ht1 := ht.below q.below
    go_wp2_with fail
    refine (HC.out _ ht1).mono ?_
    rintro e w2 ⟨rfl, b⟩
    have b2 := Below.next q.below b
    go_wp2_with fail
    go_ret
    exact ⟨rfl, b2⟩
  · go_enter Tryd.func4, Tryd.ntmps4
    go_wp2_with fail
    go_ret
    exact ⟨rfl, Below.refl _ _⟩
end Go.Proofs.YtppaplgeecojgaaDoor
