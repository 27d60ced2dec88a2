/- The laws on the nimbers' ring and field. -/
import Derived.Test.YtoaknbeekflnaaaNimF
namespace Go.Proofs.Ytoaknbeekflnaaa
open Go.RowKit

theorem c_ProdN (a b r : Nat) (w : World) (ha : a < 256) (hb : b < 256) (hr : Nim.nm a b = r) :
    Calls Try.prog 18 #[.int .i64 a, .int .i64 b] w fun e w' => e = .returned (.int .i64 r) ∧ Q w w' := by
  have := c_NimProduct a b w
  rw [fProd_yes ha hb, hr] at this
  exact this
theorem c_SumN (a b r : Nat) (w : World) (ha : a < 256) (hb : b < 256) (hr : a ^^^ b = r) :
    Calls Try.prog 16 #[.int .i64 a, .int .i64 b] w fun e w' => e = .returned (.int .i64 r) ∧ w = w' := by
  have := c_NimSum a b w
  rw [fSum_yes ha hb, hr] at this
  exact this
theorem x256 {a b : Nat} (ha : a < 256) (hb : b < 256) : a ^^^ b < 256 := Nat.xor_lt_two_pow (n := 8) ha hb
theorem fProd_no {a b : Int} (h : (inB a 0 255 && inB b 0 255) = false) : fProd a b = -1 := by unfold fProd; rw [h]; rfl
theorem fSum_no {a b : Int} (h : (inB a 0 255 && inB b 0 255) = false) : fSum a b = -1 := by unfold fSum; rw [h]; rfl

set_option maxHeartbeats 2000000 in
theorem w_FnNimRing (A : Option Addr) (n c : Nat) (bs : List Int) (w : World) (rd : RdV w A n (bs.map (Value.int .u8))) (f : Fits .u8 bs) (m : n ≤ maxLen) :
    Calls Try.prog 11 #[.slice A n c] w fun e w' => e = .returned (.bool true) ∧ Below w.heap.size w w' := by
  by_cases hn : n ≤ 65536
  · have hc : Code8 w A n bs := ⟨rd, f, hn⟩
    clear rd f
    go_enter Try.func11, Try.ntmps11
    go_wp2_with fail
    refine (c_rBig _ _ _ _ m).mono ?_
    rintro e w1 ⟨rfl, rfl⟩
    go_wp2_with fail
    refine (c_DrawNimProduct A n c bs _ hc).mono ?_
    rintro e w1 ⟨a, b, rfl, a0, a1, b0, b1, hB⟩
    have hc1 := hc.below hB
    go_wp2_with fail
    refine (c_rAt 5 A n c bs _ hc1 (by omega) (by omega)).mono ?_
    rintro e w' ⟨z, rfl, hz, rfl⟩
    clear hc hc1
    cases hin : inB a 0 255 && inB b 0 255
    · have e1 := Lib.hid (fProd_no hin)
      have e2 := Lib.hid (fProd_no (by rw [Bool.and_comm]; exact hin))
      have e3 := Lib.hid (fSum_no hin)
      have e4 := Lib.hid (fSum_no (by rw [Bool.and_comm]; exact hin))
      clear hin
      go_wp2_with fail
      refine (c_NimProduct _ _ _).mono ?_
      rintro e w2 ⟨rfl, q2⟩
      rw [e1.out]
      go_wp2_with fail
      refine (s_NimProduct _ _ _).mono ?_
      rintro e w3 ⟨rfl, q3⟩
      rw [e1.out]
      go_wp2_with fail
      refine (c_NimProduct _ _ _).mono ?_
      rintro e w4 ⟨rfl, q4⟩
      rw [e2.out]
      go_wp2_with fail
      refine (c_NimSum _ _ _).mono ?_
      rintro e w' ⟨rfl, rfl⟩
      rw [e3.out]
      go_wp2_with fail
      refine (c_NimSum _ _ _).mono ?_
      rintro e w' ⟨rfl, rfl⟩
      rw [e4.out]
      go_wp2_with fail
      refine (c_NimSum _ _ _).mono ?_
      rintro e w' ⟨rfl, rfl⟩
      rw [e3.out]
      go_wp2_with fail
      go_ret
      exact ⟨rfl, Below.next hB ((q2.trans q3).trans q4).below⟩
    · obtain ⟨h1, h2⟩ := Bool.and_eq_true_iff.1 hin
      clear hin
      have i1 := inB_true.1 h1
      have i2 := inB_true.1 h2
      clear h1 h2 a0 a1 b0 b1
      obtain ⟨a, rfl⟩ := Int.eq_ofNat_of_zero_le i1.1
      obtain ⟨b, rfl⟩ := Int.eq_ofNat_of_zero_le i2.1
      have ha : a < 256 := by omega
      have hb : b < 256 := by omega
      clear i1 i2
      obtain ⟨X, hX⟩ : ∃ X, Hid (Nim.nm a b = X) := ⟨_, Lib.hid rfl⟩
      obtain ⟨Z, hZ⟩ : ∃ X, Hid (Nim.nm b z = X) := ⟨_, Lib.hid rfl⟩
      obtain ⟨Y, hY⟩ : ∃ Y, Hid (Nim.nm X z = Y) := ⟨_, Lib.hid rfl⟩
      obtain ⟨U, hU⟩ : ∃ U, Hid (a ^^^ b = U) := ⟨_, Lib.hid rfl⟩
      obtain ⟨V, hV⟩ : ∃ V, Hid (Nim.nm z U = V) := ⟨_, Lib.hid rfl⟩
      obtain ⟨P, hP⟩ : ∃ V, Hid (Nim.nm z a = V) := ⟨_, Lib.hid rfl⟩
      obtain ⟨R, hR⟩ : ∃ V, Hid (Nim.nm z b = V) := ⟨_, Lib.hid rfl⟩
      have hX' : Hid (Nim.nm b a = X) := Lib.hid (by rw [Nim.nm_comm]; exact hX.out)
      have hY' : Hid (Nim.nm a Z = Y) := Lib.hid (by rw [← hZ.out, ← hY.out, ← hX.out, Nim.nm_assoc ha hb hz])
      have hU' : Hid (b ^^^ a = U) := Lib.hid (by rw [Nat.xor_comm]; exact hU.out)
      have hV' : Hid (P ^^^ R = V) := Lib.hid (by rw [← hP.out, ← hR.out, ← hV.out, ← hU.out, Nim.nm_xr ha hb hz])
      have hUb : Hid (U ^^^ b = a) := Lib.hid (by rw [← hU.out, Nat.xor_assoc, Nat.xor_self, Nat.xor_zero])
      have lX : X < 256 := by rw [← hX.out]; exact Nim.nm_lt ha hb
      have lZ : Z < 256 := by rw [← hZ.out]; exact Nim.nm_lt hb hz
      have lU : U < 256 := by rw [← hU.out]; exact x256 ha hb
      have lP : P < 256 := by rw [← hP.out]; exact Nim.nm_lt hz ha
      have lR : R < 256 := by rw [← hR.out]; exact Nim.nm_lt hz hb
      have hsp : Hid (fProd a b = (X : Int)) := Lib.hid (by rw [fProd_yes ha hb, hX.out])
      have h1a : Hid (fProd a 1 = (a : Int)) := Lib.hid (by have := fProd_yes (a := a) (b := 1) ha (by omega); rw [Nim.nm_one] at this; exact this)
      have h0a : Hid (fProd a 0 = 0) := Lib.hid (by have := fProd_yes (a := a) (b := 0) ha (by omega); rw [Nim.nm_zero] at this; exact this)
      go_wp2_with fail
      refine (c_ProdN a b X _ ha hb hX.out).mono ?_
      rintro e w2 ⟨rfl, q2⟩
      go_wp2_with fail
      refine (s_NimProduct _ _ _).mono ?_
      rintro e w3 ⟨rfl, q3⟩
      rw [hsp.out]
      go_wp2_with fail
      refine (c_ProdN b a X _ hb ha hX'.out).mono ?_
      rintro e w4 ⟨rfl, q4⟩
      go_wp2_with fail
      refine (c_SumN a b U _ ha hb hU.out).mono ?_
      rintro e w' ⟨rfl, rfl⟩
      go_wp2_with fail
      refine (c_SumN b a U _ hb ha hU'.out).mono ?_
      rintro e w' ⟨rfl, rfl⟩
      go_wp2_with fail
      refine (c_ProdN X z Y _ lX hz hY.out).mono ?_
      rintro e w5 ⟨rfl, q5⟩
      go_wp2_with fail
      refine (c_ProdN b z Z _ hb hz hZ.out).mono ?_
      rintro e w6 ⟨rfl, q6⟩
      go_wp2_with fail
      refine (c_ProdN a Z Y _ ha lZ hY'.out).mono ?_
      rintro e w7 ⟨rfl, q7⟩
      go_wp2_with fail
      refine (c_SumN a b U _ ha hb hU.out).mono ?_
      rintro e w' ⟨rfl, rfl⟩
      go_wp2_with fail
      refine (c_ProdN z U V _ hz lU hV.out).mono ?_
      rintro e w8 ⟨rfl, q8⟩
      go_wp2_with fail
      refine (c_ProdN z a P _ hz ha hP.out).mono ?_
      rintro e w9 ⟨rfl, q9⟩
      go_wp2_with fail
      refine (c_ProdN z b R _ hz hb hR.out).mono ?_
      rintro e w10 ⟨rfl, q10⟩
      go_wp2_with fail
      refine (c_SumN P R V _ lP lR hV'.out).mono ?_
      rintro e w' ⟨rfl, rfl⟩
      go_wp2_with fail
      refine (c_SumN a b U _ ha hb hU.out).mono ?_
      rintro e w' ⟨rfl, rfl⟩
      go_wp2_with fail
      refine (c_SumN U b a _ lU hb hUb.out).mono ?_
      rintro e w' ⟨rfl, rfl⟩
      go_wp2_with fail
      refine (c_NimProduct _ _ _).mono ?_
      rintro e w11 ⟨rfl, q11⟩
      rw [h1a.out]
      go_wp2_with fail
      refine (c_NimProduct _ _ _).mono ?_
      rintro e w12 ⟨rfl, q12⟩
      rw [h0a.out]
      go_wp2_with fail
      go_ret
      exact ⟨rfl, Below.next hB (((((q2.trans q3).trans (q4.trans q5)).trans (q6.trans q7)).trans ((q8.trans q9).trans (q10.trans q11))).trans q12).below⟩
  · have hb : (decide (65536 < (n : Int))) = true := by simp; omega
    go_enter Try.func11, Try.ntmps11
    go_wp2_with fail
    refine (c_rBig _ _ _ _ m).mono ?_
    rintro e w1 ⟨rfl, rfl⟩
    go_wp2_with fail
    go_ret
    exact ⟨rfl, Below.refl _ _⟩
end Go.Proofs.Ytoaknbeekflnaaa
