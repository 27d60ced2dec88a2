/- The law on the nimbers' field. -/
import Derived.Test.YtoaknbeekflnaaaNimG
namespace Go.Proofs.Ytoaknbeekflnaaa
open Go.RowKit

theorem svFrom_spec (a b : Nat) : ∀ (f k : Nat), svFrom a b f k = -1 ∨ ∃ j, k ≤ j ∧ j < k + f ∧ svFrom a b f k = (j : Int) ∧ sT a b j = true
  | 0, _ => .inl rfl
  | f + 1, k => by
    unfold svFrom
    cases h : sT a b k
    · rcases svFrom_spec a b f (k + 1) with e | ⟨j, h1, h2, h3, h4⟩
      · left; simpa using e
      · right; exact ⟨j, by omega, by omega, by simpa using h3, h4⟩
    · right; exact ⟨k, by omega, by omega, by simp, h⟩
theorem sT_eq {a b j : Nat} (ha : a < 256) (hb : b < 256) (hj : j < 256) (h : sT a b j = true) : Nim.nm j j ^^^ Nim.nm a j = b := by
  unfold sT at h
  have l1 := Nim.nm_lt hj hj
  have l2 := Nim.nm_lt ha hj
  have l3 := x256 l1 l2
  rw [i64_xor_nat _ _ (by omega) (by omega), i64_xor_nat _ _ (by omega) (by omega)] at h
  have h0 : (Nim.nm j j ^^^ Nim.nm a j) ^^^ b = 0 := by
    have := beq_iff_eq.1 h
    omega
  have h1 : ((Nim.nm j j ^^^ Nim.nm a j) ^^^ b) ^^^ b = b := by rw [h0, Nat.zero_xor]
  rw [Nat.xor_assoc, Nat.xor_self, Nat.xor_zero] at h1
  exact h1
theorem c_PowN (a n r : Nat) (w : World) (ha : a < 256) (hn : n ≤ 300) (hr : Nim.pw a n = r) (i : Int) (hi : i = n) :
    Calls Try.prog 20 #[.int .i64 a, .int .i64 i] w fun e w' => e = .returned (.int .i64 r) ∧ Q w w' := by
  subst hi
  have := c_NimPower a n w
  rw [fPow_yes ha hn, hr] at this
  exact this

set_option maxHeartbeats 4000000 in
theorem w_FnNimField (A : Option Addr) (n c : Nat) (bs : List Int) (w : World) (rd : RdV w A n (bs.map (Value.int .u8))) (f : Fits .u8 bs) (m : n ≤ maxLen) :
    Calls Try.prog 14 #[.slice A n c] w fun e w' => e = .returned (.bool true) ∧ Below w.heap.size w w' := by
  by_cases hn : n ≤ 65536
  · have hc : Code8 w A n bs := ⟨rd, f, hn⟩
    clear rd f
    go_enter Try.func14, Try.ntmps14
    go_wp2_with fail
    refine (c_rBig _ _ _ _ m).mono ?_
    rintro e w1 ⟨rfl, rfl⟩
    go_wp2_with fail
    refine (c_DrawNimSolve A n c bs _ hc).mono ?_
    rintro e w1 ⟨a, b, rfl, a0, a1, b0, b1, hB⟩
    clear hc
    obtain ⟨ro, hro⟩ : ∃ r, Hid (fRoot a = r) := ⟨_, Lib.hid rfl⟩
    obtain ⟨bk, hbk⟩ : ∃ r, Hid (fInv a = r) := ⟨_, Lib.hid rfl⟩
    obtain ⟨so, hso⟩ : ∃ r, Hid (fSolve a b = r) := ⟨_, Lib.hid rfl⟩
    go_wp2_with fail
    refine (c_NimRoot _ _).mono ?_
    rintro e w2 ⟨rfl, q2⟩
    rw [hro.out]
    go_wp2_with fail
    refine (c_NimInverse _ _).mono ?_
    rintro e w3 ⟨rfl, q3⟩
    rw [hbk.out]
    go_wp2_with fail
    refine (c_NimSolve _ _ _).mono ?_
    rintro e w4 ⟨rfl, q4⟩
    rw [hso.out]
    go_wp2_with fail
    refine (s_NimRoot _ _).mono ?_
    rintro e w5 ⟨rfl, q5⟩
    rw [hro.out]
    go_wp2_with fail
    refine (s_NimInverse _ _).mono ?_
    rintro e w6 ⟨rfl, q6⟩
    rw [hbk.out]
    go_wp2_with fail
    refine (s_NimSolve _ _ _).mono ?_
    rintro e w7 ⟨rfl, q7⟩
    rw [hso.out]
    have B7 : Below w.heap.size w w7 := Below.next hB ((((q2.trans q3).trans (q4.trans q5)).trans q6).trans q7).below
    clear q2 q3 q4 q5 q6 q7 hB
    by_cases ha : 0 ≤ a ∧ a ≤ 255
    · obtain ⟨ha0, ha1⟩ := ha
      obtain ⟨a, rfl⟩ := Int.eq_ofNat_of_zero_le ha0
      have ha : a < 256 := by omega
      obtain ⟨R, hR⟩ : ∃ R, Hid (Nim.pw a 128 = R) := ⟨_, Lib.hid rfl⟩
      have lR : R < 256 := by rw [← hR.out]; exact Nim.pw_lt ha _
      have hRR : Hid (Nim.nm R R = a) := Lib.hid (by rw [← hR.out]; exact Nim.root_sq ha)
      obtain rfl : ro = (R : Int) := by rw [← hro.out, fRoot_yes ha, hR.out]
      obtain ⟨S, hS⟩ : ∃ R, Hid (Nim.nm a a = R) := ⟨_, Lib.hid rfl⟩
      have lS : S < 256 := by rw [← hS.out]; exact Nim.nm_lt ha ha
      obtain ⟨T, hT⟩ : ∃ R, Hid (Nim.pw a 3 = R) := ⟨_, Lib.hid rfl⟩
      have hT' : Hid (Nim.nm a S = T) := Lib.hid (by
        rw [← hT.out, ← hS.out]; show _ = Nim.nm (Nim.nm (Nim.nm 1 a) a) a
        rw [Nim.one_nm, Nim.nm_comm])
      have hsol : Hid (so < 0 ∨ ∃ (j P1 P2 : Nat), so = (j : Int) ∧ j < 256 ∧ P1 < 256 ∧ P2 < 256 ∧ Nim.nm j j = P1 ∧ Nim.nm a j = P2 ∧ ∃ b' : Nat, b = (b' : Int) ∧ P1 ^^^ P2 = b') := Lib.hid (by
        cases hib : inB b 0 255
        · left; rw [← hso.out]; unfold fSolve; rw [hib, Bool.and_false]; simp
        · obtain ⟨hb0, hb1⟩ := inB_true.1 hib
          obtain ⟨b, rfl⟩ := Int.eq_ofNat_of_zero_le hb0
          rw [← hso.out, fSolve_yes ha (by omega)]
          rcases svFrom_spec a b 256 0 with e | ⟨j, h1, h2, h3, h4⟩
          · left; rw [e]; omega
          · right
            exact ⟨j, _, _, h3, by omega, Nim.nm_lt (by omega) (by omega), Nim.nm_lt ha (by omega), rfl, rfl, b, rfl, sT_eq ha (by omega) (by omega) h4⟩)
      rcases Nat.eq_zero_or_pos a with hz | hpos
      · have hbk' : bk = -1 := by rw [← hbk.out]; exact fInv_no (by omega)
        subst hbk' hz
        go_wp2_with fail
        refine (c_ProdN R R 0 _ lR lR hRR.out).mono ?_
        rintro e w8 ⟨rfl, q8⟩
        go_wp2_with fail
        refine (c_PowN 0 3 T _ ha (by omega) hT.out _ rfl).mono ?_
        rintro e w9 ⟨rfl, q9⟩
        go_wp2_with fail
        refine (c_ProdN 0 0 S _ ha ha hS.out).mono ?_
        rintro e w10 ⟨rfl, q10⟩
        go_wp2_with fail
        refine (c_ProdN 0 S T _ ha lS hT'.out).mono ?_
        rintro e w11 ⟨rfl, q11⟩
        have B11 : Below w.heap.size w w11 := Below.next B7 ((q8.trans q9).trans (q10.trans q11)).below
        rcases hsol.out with hlt | ⟨j, P1, P2, rfl, lj, l1, l2, e1, e2, b', rfl, e3⟩
        · go_wp2_with fail
          go_ret
          exact ⟨rfl, B11⟩
        · have E1 := Lib.hid e1
          have E2 := Lib.hid e2
          have E3 := Lib.hid e3
          clear e1 e2 e3
          go_wp2_with fail
          refine (c_ProdN j j P1 _ lj lj E1.out).mono ?_
          rintro e w12 ⟨rfl, q12⟩
          go_wp2_with fail
          refine (c_ProdN 0 j P2 _ ha lj E2.out).mono ?_
          rintro e w13 ⟨rfl, q13⟩
          go_wp2_with fail
          refine (c_SumN P1 P2 b' _ l1 l2 E3.out).mono ?_
          rintro e w' ⟨rfl, rfl⟩
          go_wp2_with fail
          go_ret
          exact ⟨rfl, Below.next B11 (q12.trans q13).below⟩
      · obtain ⟨K, hK⟩ : ∃ R, Hid (Nim.pw a 254 = R) := ⟨_, Lib.hid rfl⟩
        have lK : K < 256 := by rw [← hK.out]; exact Nim.pw_lt ha _
        have hbk' : bk = (K : Int) := by rw [← hbk.out, fInv_yes hpos ha, hK.out]
        subst hbk'
        have hinv : Hid (Nim.nm a K = 1) := Lib.hid (by rw [← hK.out]; exact Nim.inv_right hpos ha)
        have h255 : Hid (Nim.pw a 255 = 1) := Lib.hid (Nim.pw_255 hpos ha)
        go_wp2_with fail
        refine (c_ProdN R R a _ lR lR hRR.out).mono ?_
        rintro e w8 ⟨rfl, q8⟩
        go_wp2_with fail
        refine (c_ProdN a K 1 _ ha lK hinv.out).mono ?_
        rintro e w8a ⟨rfl, q8a⟩
        go_wp2_with fail
        refine (c_PowN a 255 1 _ ha (by omega) h255.out _ rfl).mono ?_
        rintro e w8b ⟨rfl, q8b⟩
        go_wp2_with fail
        refine (c_PowN a 3 T _ ha (by omega) hT.out _ rfl).mono ?_
        rintro e w9 ⟨rfl, q9⟩
        go_wp2_with fail
        refine (c_ProdN a a S _ ha ha hS.out).mono ?_
        rintro e w10 ⟨rfl, q10⟩
        go_wp2_with fail
        refine (c_ProdN a S T _ ha lS hT'.out).mono ?_
        rintro e w11 ⟨rfl, q11⟩
        have B11 : Below w.heap.size w w11 := Below.next B7 (((q8.trans q8a).trans q8b).trans (q9.trans (q10.trans q11))).below
        rcases hsol.out with hlt | ⟨j, P1, P2, rfl, lj, l1, l2, e1, e2, b', rfl, e3⟩
        · go_wp2_with fail
          go_ret
          exact ⟨rfl, B11⟩
        · have E1 := Lib.hid e1
          have E2 := Lib.hid e2
          have E3 := Lib.hid e3
          clear e1 e2 e3
          go_wp2_with fail
          refine (c_ProdN j j P1 _ lj lj E1.out).mono ?_
          rintro e w12 ⟨rfl, q12⟩
          go_wp2_with fail
          refine (c_ProdN a j P2 _ ha lj E2.out).mono ?_
          rintro e w13 ⟨rfl, q13⟩
          go_wp2_with fail
          refine (c_SumN P1 P2 b' _ l1 l2 E3.out).mono ?_
          rintro e w' ⟨rfl, rfl⟩
          go_wp2_with fail
          go_ret
          exact ⟨rfl, Below.next B11 (q12.trans q13).below⟩
    · have hia : inB a 0 255 = false := inB_false.2 (by omega)
      obtain rfl : ro = -1 := by rw [← hro.out]; simp [fRoot, hia]
      obtain rfl : bk = -1 := by rw [← hbk.out]; exact fInv_no (by omega)
      obtain rfl : so = -1 := by rw [← hso.out]; simp [fSolve, hia]
      clear hia
      by_cases hneg : a < 0
      · go_wp2_with fail
        go_ret
        exact ⟨rfl, B7⟩
      · have hbig : 255 < a := by omega
        clear ha
        go_wp2_with fail
        go_ret
        exact ⟨rfl, B7⟩
  · have hb : (decide (65536 < (n : Int))) = true := by simp; omega
    go_enter Try.func14, Try.ntmps14
    go_wp2_with fail
    refine (c_rBig _ _ _ _ m).mono ?_
    rintro e w1 ⟨rfl, rfl⟩
    go_wp2_with fail
    go_ret
    exact ⟨rfl, Below.refl _ _⟩
end Go.Proofs.Ytoaknbeekflnaaa
