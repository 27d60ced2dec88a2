/- The walk of the law FnSplit. -/
import Derived.Test.YtppaplgeecojgaaTxI
namespace Go.Proofs.Ytppaplgeecojgaa
open Go.RowKit

set_option maxHeartbeats 400000 in
theorem c_LessText (a b : ByteArray) (w : World) : Calls Try.prog 9 #[.string a, .string b] w fun e w' => e = .returned (.bool (Op.bytesLess a.toList b.toList)) ∧ w = w' := by
  go_enter Try.func9, Try.ntmps9
  go_wp2
  go_ret
  exact ⟨rfl, rfl⟩
set_option maxHeartbeats 400000 in
theorem s_LessText (a b : ByteArray) (w : World) : Calls Try.prog 8 #[.string a, .string b] w fun e w' => e = .returned (.bool (Op.bytesLess a.toList b.toList)) ∧ w = w' := by
  go_enter Try.func8, Try.ntmps8
  go_wp2
  go_ret
  exact ⟨rfl, rfl⟩
theorem less_not : ∀ a b : List UInt8, Op.bytesLess a b = true → Op.bytesLess b a = false
  | [], [], h => by simp [Op.bytesLess] at h
  | [], _ :: _, _ => by simp [Op.bytesLess]
  | _ :: _, [], h => by simp [Op.bytesLess] at h
  | x :: xs, y :: ys, h => by
    have ih := less_not xs ys
    simp only [Op.bytesLess, Bool.or_eq_true, Bool.and_eq_true, decide_eq_true_iff, beq_iff_eq] at h
    simp only [Op.bytesLess, Bool.or_eq_false_iff, Bool.and_eq_false_iff, decide_eq_false_iff_not, beq_eq_false_iff_ne]
    rcases h with h | ⟨h1, h2⟩
    · exact ⟨UInt8.lt_asymm h, .inl fun e => by subst e; exact absurd h (UInt8.lt_irrefl _)⟩
    · subst h1; exact ⟨UInt8.lt_irrefl _, .inr (ih h2)⟩
theorem c_vBig (A : Option Addr) (n c : Nat) (w : World) (hm : n ≤ maxLen) :
    Calls Try.prog 21 #[.slice A n c] w fun e w' => e = .returned (.bool (decide (65536 < (n : Int)))) ∧ w = w' := by
  unfold maxLen at hm
  go_enter Try.func21, Try.ntmps21
  go_wp2
  go_ret
  exact ⟨rfl, rfl⟩
set_option maxHeartbeats 1600000 in
theorem w_FnSplit (A : Option Addr) (n c : Nat) (bs : List Int) (w : World) (rd : RdV w A n (bs.map (Value.int .u8))) (f : Fits .u8 bs) (m : n ≤ maxLen) :
    Calls Try.prog 7 #[.slice A n c] w fun e w' => e = .returned (.bool true) ∧ Below w.heap.size w w' := by
  by_cases hn : n ≤ 65536
  · have hc : Code8 w A n bs := ⟨rd, f, hn⟩
    clear rd f
    go_enter Try.func7, Try.ntmps7
    go_wp2_with fail
    refine (c_vBig _ _ _ _ m).mono ?_
    rintro e w' ⟨rfl, rfl⟩
    go_wp2_with fail
    refine (c_DrawSplitText A n c bs _ hc).mono ?_
    rintro e w1 ⟨s, sign, rfl, hs, hsg, b1⟩
    have hc1 := hc.below b1
    by_cases h1 : sign.size = 1
    · have h0 : 0 < sign.size := by omega
      have finT := Lib.hid (splitT_yes (s := s) (by omega) h1 h0)
      have hrt := Lib.hid (split_join s sign (by omega) h1 h0)
      have hzs := szs_split s sign (by omega) h1 h0
      have hll := splitT_len s sign
      rw [finT.out] at hll
      have hll : (splitL s sign[0]).length ≤ 4001 := hll
      obtain ⟨L, HL⟩ : ∃ L, Hid (splitL s sign[0] = L) := ⟨_, Lib.hid rfl⟩
      rw [HL.out] at finT hrt hzs hll
      have HSP := Lib.hid (fun w => c_SplitText s sign w (by omega) (by omega))
      rw [finT.out] at HSP
      have h11 : ((sign.size : Int) != 1) = false := by simp [h1]
      clear h1
      go_wp2_with fail
      refine (HSP.out _).mono ?_
      rintro e w2 ⟨A1, c1, rfl, o1, b2⟩
      have B2 := Below.next b1 b2
      have hc2 := hc1.below b2
      have o1 := ownsRow_low o1 (Nat.zero_le _)
      go_wp2_with fail
      refine (c_DrawJoinTexts A n c bs _ hc2).mono ?_
      rintro e w3 ⟨A2, c2, l, mark, rfl, o2, hz, hl4, hcap, hmk, b3⟩
      have B3 := Below.next B2 b3
      have hc3 := hc2.below b3
      have o1 := own_below o1 b3
      obtain ⟨J, HJ⟩ : ∃ J, Hid (joinT l mark = J) := ⟨_, Lib.hid rfl⟩
      have HJC := Lib.hid (c_JoinTexts A2 c2 l mark w3 o2.rd hcap (by omega) (by omega) (by omega))
      have HJS := Lib.hid (fun w h => s_JoinTexts A2 c2 l mark w h (by omega) (by omega) (by omega))
      rw [HJ.out] at HJC HJS
      obtain ⟨X, jok⟩ := J
      go_wp2_with fail
      refine HJC.out.mono ?_
      rintro e w4 ⟨rfl, b4⟩
      have B4 := Below.next B3 b4
      have hc4 := hc3.below b4
      have o1 := own_below o1 b4
      have r2 := o2.rd.below b4
      go_wp2_with fail
      refine (HJS.out _ r2).mono ?_
      rintro e w5 ⟨rfl, q5⟩
      have B5 := Below.next B4 q5.below
      have hc5 := hc4.below q5.below
      have o1 := own_below o1 q5.below
      go_wp2_with fail
      refine (c_DrawLessText A n c bs _ hc5).mono ?_
      rintro e w6 ⟨a, b, rfl, ha, hb, b6⟩
      have B6 := Below.next B5 b6
      have o1 := own_below o1 b6
      have hless := Lib.hid (less_not a.toList b.toList)
      obtain ⟨p, hp⟩ : ∃ p, Hid (Op.bytesLess a.toList b.toList = p) := ⟨_, Lib.hid rfl⟩
      obtain ⟨q, hq⟩ : ∃ q, Hid (Op.bytesLess b.toList a.toList = q) := ⟨_, Lib.hid rfl⟩
      have HP := Lib.hid (fun w => c_LessText a b w)
      have HPS := Lib.hid (fun w => s_LessText a b w)
      have HQ := Lib.hid (fun w => c_LessText b a w)
      rw [hp.out] at HP HPS
      rw [hq.out] at HQ
      have hpq : p = true → q = false := fun e => by rw [← hq.out]; exact hless.out (by rw [hp.out]; exact e)
      have O1 := Lib.hid o1
      clear o1 hc hc1 hc2 hc3 hc4 hc5
      cases p
      · clear hpq
        have HJ2 := Lib.hid (c_JoinTexts A1 c1 L sign w6 (OwnS.rd O1.out) (own_cap O1.out) (by omega) (by omega) (by omega))
        rw [hrt.out] at HJ2
        go_wp2_with fail
        refine (HP.out _).mono ?_
        rintro e w' ⟨rfl, rfl⟩
        go_wp2_with fail
        refine (HPS.out _).mono ?_
        rintro e w' ⟨rfl, rfl⟩
        go_wp2_with fail
        refine (HP.out _).mono ?_
        rintro e w' ⟨rfl, rfl⟩
        go_wp2_with fail
        refine HJ2.out.mono ?_
        rintro e w7 ⟨rfl, b7⟩
        have B7 := Lib.hid (Below.next B6 b7)
        clear b7
        go_wp2_with fail
        go_ret
        exact ⟨rfl, B7.out⟩
      · obtain rfl := hpq rfl
        clear hpq
        have HJ2 := Lib.hid (c_JoinTexts A1 c1 L sign w6 (OwnS.rd O1.out) (own_cap O1.out) (by omega) (by omega) (by omega))
        rw [hrt.out] at HJ2
        go_wp2_with fail
        refine (HP.out _).mono ?_
        rintro e w' ⟨rfl, rfl⟩
        go_wp2_with fail
        refine (HPS.out _).mono ?_
        rintro e w' ⟨rfl, rfl⟩
        go_wp2_with fail
        refine (HP.out _).mono ?_
        rintro e w' ⟨rfl, rfl⟩
        go_wp2_with fail
        refine (HQ.out _).mono ?_
        rintro e w' ⟨rfl, rfl⟩
        go_wp2_with fail
        refine HJ2.out.mono ?_
        rintro e w7 ⟨rfl, b7⟩
        have B7 := Lib.hid (Below.next B6 b7)
        clear b7
        go_wp2_with fail
        go_ret
        exact ⟨rfl, B7.out⟩
    · have h1 := h1
      have finT := Lib.hid (splitT_no (s := s) (sign := sign) (fun h => h1 h.2))
      have HSP := Lib.hid (fun w => c_SplitText s sign w (by omega) (by omega))
      rw [finT.out] at HSP
      have h11 : ((sign.size : Int) != 1) = true := by simp; omega
      clear h1
      go_wp2_with fail
      refine (HSP.out _).mono ?_
      rintro e w2 ⟨A1, c1, rfl, o1, b2⟩
      have B2 := Below.next b1 b2
      have hc2 := hc1.below b2
      have o1 := ownsRow_low o1 (Nat.zero_le _)
      go_wp2_with fail
      refine (c_DrawJoinTexts A n c bs _ hc2).mono ?_
      rintro e w3 ⟨A2, c2, l, mark, rfl, o2, hz, hl4, hcap, hmk, b3⟩
      have B3 := Below.next B2 b3
      have hc3 := hc2.below b3
      have o1 := own_below o1 b3
      obtain ⟨J, HJ⟩ : ∃ J, Hid (joinT l mark = J) := ⟨_, Lib.hid rfl⟩
      have HJC := Lib.hid (c_JoinTexts A2 c2 l mark w3 o2.rd hcap (by omega) (by omega) (by omega))
      have HJS := Lib.hid (fun w h => s_JoinTexts A2 c2 l mark w h (by omega) (by omega) (by omega))
      rw [HJ.out] at HJC HJS
      obtain ⟨X, jok⟩ := J
      go_wp2_with fail
      refine HJC.out.mono ?_
      rintro e w4 ⟨rfl, b4⟩
      have B4 := Below.next B3 b4
      have hc4 := hc3.below b4
      have o1 := own_below o1 b4
      have r2 := o2.rd.below b4
      go_wp2_with fail
      refine (HJS.out _ r2).mono ?_
      rintro e w5 ⟨rfl, q5⟩
      have B5 := Below.next B4 q5.below
      have hc5 := hc4.below q5.below
      have o1 := own_below o1 q5.below
      go_wp2_with fail
      refine (c_DrawLessText A n c bs _ hc5).mono ?_
      rintro e w6 ⟨a, b, rfl, ha, hb, b6⟩
      have B6 := Below.next B5 b6
      have o1 := own_below o1 b6
      have hless := Lib.hid (less_not a.toList b.toList)
      obtain ⟨p, hp⟩ : ∃ p, Hid (Op.bytesLess a.toList b.toList = p) := ⟨_, Lib.hid rfl⟩
      obtain ⟨q, hq⟩ : ∃ q, Hid (Op.bytesLess b.toList a.toList = q) := ⟨_, Lib.hid rfl⟩
      have HP := Lib.hid (fun w => c_LessText a b w)
      have HPS := Lib.hid (fun w => s_LessText a b w)
      have HQ := Lib.hid (fun w => c_LessText b a w)
      rw [hp.out] at HP HPS
      rw [hq.out] at HQ
      have hpq : p = true → q = false := fun e => by rw [← hq.out]; exact hless.out (by rw [hp.out]; exact e)
      have O1 := Lib.hid o1
      clear o1 hc hc1 hc2 hc3 hc4 hc5
      cases p
      · clear hpq
        go_wp2_with fail
        refine (HP.out _).mono ?_
        rintro e w' ⟨rfl, rfl⟩
        go_wp2_with fail
        refine (HPS.out _).mono ?_
        rintro e w' ⟨rfl, rfl⟩
        go_wp2_with fail
        refine (HP.out _).mono ?_
        rintro e w' ⟨rfl, rfl⟩
        go_wp2_with fail
        go_ret
        exact ⟨rfl, B6⟩
      · obtain rfl := hpq rfl
        clear hpq
        go_wp2_with fail
        refine (HP.out _).mono ?_
        rintro e w' ⟨rfl, rfl⟩
        go_wp2_with fail
        refine (HPS.out _).mono ?_
        rintro e w' ⟨rfl, rfl⟩
        go_wp2_with fail
        refine (HP.out _).mono ?_
        rintro e w' ⟨rfl, rfl⟩
        go_wp2_with fail
        refine (HQ.out _).mono ?_
        rintro e w' ⟨rfl, rfl⟩
        go_wp2_with fail
        go_ret
        exact ⟨rfl, B6⟩
  · go_enter Try.func7, Try.ntmps7
    go_wp2_with fail
    refine (c_vBig _ _ _ _ m).mono ?_
    rintro e w' ⟨rfl, rfl⟩
    go_wp2_with fail
    go_ret
    exact ⟨rfl, Below.refl _ _⟩
end Go.Proofs.Ytppaplgeecojgaa
