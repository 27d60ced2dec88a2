/- The walk of the law on the least number. -/
import Derived.Test.YtoaknbeekflnaaaNimT
import Derived.Test.YtoaknbeekflnaaaNimR
namespace Go.Proofs.Ytoaknbeekflnaaa
open Go.RowKit

abbrev natV (v : List Nat) : List Value := v.map fun (x : Nat) => Value.int .i64 (x : Int)
theorem natV_map (v : List Nat) : natV v = (v.map fun (x : Nat) => (x : Int)).map (Value.int .i64) := by simp [natV]
theorem mexV_nat {l : List Nat} (h : l.length ≤ 300) : mexV (l.map fun (x : Nat) => (x : Int)) = ((mex (l.map fun (x : Nat) => (x : Int)) : Nat) : Int) := by
  unfold mexV
  rw [if_neg (by simp; omega), if_neg]
  simp
theorem p_prod {x y : Nat} (hx : x < 256) (hy : y < 256) (w : World) : Calls Try.prog 18 #[.int .i64 x, .int .i64 y] w fun e w' => e = .returned (.int .i64 ((Nim.nm x y : Nat) : Int)) ∧ Q w w' := by
  have := c_NimProduct x y w
  rwa [fProd_yes hx hy] at this
theorem p_sum {x y : Nat} (hx : x < 256) (hy : y < 256) (w : World) : Calls Try.prog 16 #[.int .i64 x, .int .i64 y] w fun e w' => e = .returned (.int .i64 ((x ^^^ y : Nat) : Int)) ∧ w = w' := by
  have := c_NimSum x y w
  rwa [fSum_yes hx hy] at this
open Least
set_option maxHeartbeats 4000000 in
theorem w_FnNimLeast (A : Option Addr) (n c : Nat) (bs : List Int) (w : World) (rd : RdV w A n (bs.map (Value.int .u8))) (f : Fits .u8 bs) (m : n ≤ maxLen) :
    Calls Try.prog 13 #[.slice A n c] w fun e w' => e = .returned (.bool true) ∧ Below w.heap.size w w' := by
  by_cases hn : n ≤ 65536
  · have hc : Code8 w A n bs := ⟨rd, f, hn⟩
    clear rd f
    obtain ⟨⟨r00, r01⟩, HR0⟩ := c_rAtV 0 A n c bs w hc (by decide) (by decide)
    obtain ⟨⟨r10, r11⟩, HR1⟩ := c_rAtV 1 A n c bs w hc (by decide) (by decide)
    generalize rAtV bs n 0 = r0 at *
    generalize rAtV bs n 1 = r1 at *
    obtain ⟨a, ha⟩ : ∃ a : Nat, r0 % 16 = (a : Int) := Int.eq_ofNat_of_zero_le (Int.emod_nonneg _ (by decide))
    obtain ⟨b, hb⟩ : ∃ b : Nat, r1 % 16 = (b : Int) := Int.eq_ofNat_of_zero_le (Int.emod_nonneg _ (by decide))
    have ha16 : a < 16 := by have := Int.emod_lt_of_pos r0 (show (0 : Int) < 16 by decide); omega
    have hb16 : b < 16 := by have := Int.emod_lt_of_pos r1 (show (0 : Int) < 16 by decide); omega
    have hleast := Lib.hid (least ha16 hb16)
    have hlen := Lib.hid (sums_len a b)
    have HA0 := Lib.hid HR0
    have HA1 := Lib.hid HR1
    clear HR0 HR1
    go_enter Try.func13, Try.ntmps13
    go_wp2_with fail
    refine (c_rBig _ _ _ _ m).mono ?_
    rintro e w1 ⟨rfl, rfl⟩
    go_wp2_with fail
    refine HA0.out.mono ?_
    rintro e w1 ⟨rfl, rfl⟩
    go_wp2_with fail
    refine HA1.out.mono ?_
    rintro e w1 ⟨rfl, rfl⟩
    go_wp2_with fail
    rw [hb]
    clear ha hb
    have hown0 : (w1.alloc (.cells #[] 3)).ownsRow w1.heap.size 3 1 (.slice (some ⟨w1.heap.size, 0, none⟩) 0 0) 0 [] := own_lit0 w1 _ _ (Nat.le_refl _)
    go_loopg [5, 6] a (fun mm o i wr => ∃ (k g cap N : Nat), k ≤ a ∧ mm = a - k ∧ i = .int .i64 k ∧ o = .slice (some ⟨g, 0, none⟩) N cap ∧ Hid (N = k * b) ∧ N ≤ 225 ∧
      wr.ownsRow w1.heap.size 3 1 (.slice (some ⟨g, 0, none⟩) N cap) N (natV (sums a b k)) ∧ Below w1.heap.size w1 wr)
    case atStart => exact ⟨0, w1.heap.size, 0, 0, Nat.zero_le _, rfl, rfl, rfl, Lib.hid (by simp), by omega, hown0, by go_grown⟩
    case round =>
      obtain ⟨k, g, cap, N, hk, rfl, rfl, rfl, hN, hN225, hown, hbl⟩ := hrel
      by_cases hlt : k < a
      · have Hown := Lib.hid hown
        have Hb := Lib.hid hbl
        have hNk : Hid (N + b ≤ 225) := Lib.hid (by
          have h1 := hN.out
          have h2 : (k + 1) * b ≤ 15 * 15 := Nat.mul_le_mul (by omega) (by omega)
          rw [Nat.succ_mul] at h2
          omega)
        obtain ⟨w0, hw0⟩ : ∃ w0, w0 = wr := ⟨_, rfl⟩
        subst hw0
        clear hown hbl hown0
        go_wp2_with fail
        go_loopg [5, 7] b (fun mm o i wx => ∃ (j g cap M : Nat), j ≤ b ∧ mm = b - j ∧ i = .int .i64 j ∧ o = .slice (some ⟨g, 0, none⟩) M cap ∧ Hid (M = N + j) ∧ M ≤ 225 ∧
          wx.ownsRow w1.heap.size 3 1 (.slice (some ⟨g, 0, none⟩) M cap) M (natV (sums a b k ++ row a b k j)) ∧ Below w1.heap.size w1 wx)
        case atStart => exact ⟨0, g, cap, N, Nat.zero_le _, rfl, rfl, rfl, Lib.hid rfl, hN225, by simpa [row] using Hown.out, Hb.out⟩
        case round =>
          obtain ⟨j, g, cap, M, hj, rfl, rfl, rfl, hM, hM225, hown2, hbl2⟩ := hrel
          by_cases hlt2 : j < b
          · have hM2 : M + 1 ≤ 225 := by have := hM.out; have := hNk.out; omega
            have hp1 := Nim.nm_lt (a := k) (b := b) (by omega) (by omega)
            have hp2 := Nim.nm_lt (a := a) (b := j) (by omega) (by omega)
            have hp3 := Nim.nm_lt (a := k) (b := j) (by omega) (by omega)
            have HP1 := Lib.hid (fun w => p_prod (x := k) (y := b) (by omega) (by omega) w)
            have HP2 := Lib.hid (fun w => p_prod (x := a) (y := j) (by omega) (by omega) w)
            have HP3 := Lib.hid (fun w => p_prod (x := k) (y := j) (by omega) (by omega) w)
            have hel : Hid (el a b k j = Nim.nm k b ^^^ Nim.nm a j ^^^ Nim.nm k j) := Lib.hid rfl
            have hrow : Hid (row a b k (j + 1) = row a b k j ++ [el a b k j]) := Lib.hid (row_succ a b k j)
            generalize Nim.nm k b = n1 at *
            generalize Nim.nm a j = n2 at *
            generalize Nim.nm k j = n3 at *
            have hx12 : n1 ^^^ n2 < 256 := Nat.xor_lt_two_pow (n := 8) hp1 hp2
            have HS1 := Lib.hid (fun w => p_sum (x := n1) (y := n2) hp1 hp2 w)
            have HS2 := Lib.hid (fun w => p_sum (x := n1 ^^^ n2) (y := n3) hx12 hp3 w)
            rw [← hel.out] at HS2
            generalize el a b k j = E at *
            generalize n1 ^^^ n2 = n12 at *
            have Hown2 := Lib.hid hown2
            have Hb2 := Lib.hid hbl2
            clear hown2 hbl2
            go_wp2_with fail
            refine (HP1.out _).mono ?_
            rintro e w3 ⟨rfl, q3⟩
            go_wp2_with fail
            refine (HP2.out _).mono ?_
            rintro e w4 ⟨rfl, q4⟩
            go_wp2_with fail
            refine (HS1.out _).mono ?_
            rintro e w5 ⟨rfl, rfl⟩
            go_wp2_with fail
            refine (HP3.out _).mono ?_
            rintro e w6 ⟨rfl, q6⟩
            go_wp2_with fail
            refine (HS2.out _).mono ?_
            rintro e w7 ⟨rfl, rfl⟩
            have Q7 := (q3.trans q4).trans q6
            have hown7 := own_below Hown2.out Q7.below
            have B7 := Lib.hid (Below.next Hb2.out Q7.below)
            have hbw := B7.out.size
            clear q3 q4 q6 Q7
            go_wp2_with (at_builtin; refine app1 _ 24 3 (.int .i64 0) 8 Try.underlying24 hI_int rfl rfl (.tmp 37) (.tmp 43) rfl w1.heap.size _ _ _ rfl hown7 (.int .i64 (E : Int)) rfl rfl (by omega) (by omega) hbw ?_; intro g' cap' w' h1 h2 h3)
            go_roundg (b - (j + 1))
            case measure => omega
            case rel =>
              exact ⟨j + 1, g', cap', M + 1, by omega, rfl, by go_num, rfl, Lib.hid (by have := hM.out; omega), hM2, by rw [hrow.out, ← List.append_assoc, natV, List.map_append]; exact h1, B7.out.grown h2 hbw (by intro q hq; have := (hown7.lt q hq).1; omega)⟩
          · obtain rfl : j = b := by omega
            have Hown2 := Lib.hid hown2
            have Hb2 := Lib.hid hbl2
            clear hown2 hbl2
            go_wp2_with fail
            go_roundg (a - (k + 1))
            case measure => omega
            case rel => exact ⟨k + 1, g, cap, M, by omega, rfl, by go_num, rfl, Lib.hid (by have h1 := hM.out; have h2 := hN.out; rw [Nat.succ_mul]; omega), hM225, by rw [sums_succ]; exact Hown2.out, Hb2.out⟩
      · obtain rfl : k = a := by omega
        have hNl := hN.out
        have hll : (sums k b k).length = N := by rw [hlen.out k, hNl]
        have hmv : mexV ((sums k b k).map fun (x : Nat) => (x : Int)) = ((Nim.nm k b : Nat) : Int) := by rw [mexV_nat (by omega), hleast.out]
        have hown2 := hown
        rw [natV_map] at hown2
        have hrd : RdI wr (some ⟨g, 0, none⟩) N ((sums k b k).map fun (x : Nat) => (x : Int)) := RdV.of_own hown2
        have HM := Lib.hid (c_Mex (some ⟨g, 0, none⟩) cap ((sums k b k).map fun (x : Nat) => (x : Int)) wr (by rw [List.length_map, hll]; exact hrd))
        rw [hmv, List.length_map, hll] at HM
        have HPR := Lib.hid (fun w => p_prod (x := k) (y := b) (by omega) (by omega) w)
        generalize Nim.nm k b = V at *
        have HC := Lib.hid (hc.below (by assumption : Below w1.heap.size w1 wr))
        have Hbl := Lib.hid hbl
        clear hown hown2 hrd hbl hmv hll hNl hleast hlen hown0 hc
        go_wp2_with fail
        refine HM.out.mono ?_
        rintro e w2 ⟨rfl, b2⟩
        have HC2 := Lib.hid (HC.out.below b2)
        have B2 := Lib.hid (Below.next Hbl.out b2)
        clear b2
        go_wp2_with fail
        refine (c_rCut A n c bs w2 HC2.out).mono ?_
        rintro e w3 ⟨A3, n3, c3, bs3, rfl, hc3, b3⟩
        have B3 := Lib.hid (Below.next B2.out b3)
        clear b3
        go_wp2_with fail
        refine (c_DrawMex A3 n3 c3 bs3 w3 hc3).mono ?_
        rintro e w4 ⟨g4, cap4, xs, rfl, ho4, hl4, _, b4⟩
        have B4 := Lib.hid (Below.next B3.out b4)
        have hr4 := OwnI.rd ho4
        clear b4 ho4 hc3
        go_wp2_with fail
        refine (HPR.out _).mono ?_
        rintro e w5 ⟨rfl, q5⟩
        have hr5 := hr4.q q5
        have HX := Lib.hid (c_Mex (some ⟨g4, 0, none⟩) cap4 xs w5 hr5)
        have B5 := Lib.hid (Below.next B4.out q5.below)
        have HR5 := Lib.hid hr5
        obtain ⟨R, hR⟩ : ∃ R, Hid (mexV xs = R) := ⟨_, Lib.hid rfl⟩
        rw [hR.out] at HX
        clear hr4 hr5 q5
        go_wp2_with fail
        refine HX.out.mono ?_
        rintro e w6 ⟨rfl, b6⟩
        have HY := Lib.hid (s_Mex (some ⟨g4, 0, none⟩) cap4 xs w6 (HR5.out.below b6))
        rw [hR.out] at HY
        have B6 := Lib.hid (Below.next B5.out b6)
        clear b6
        go_wp2_with fail
        refine HY.out.mono ?_
        rintro e w7 ⟨rfl, rfl⟩
        go_wp2_with fail
        go_ret
        exact ⟨rfl, B6.out⟩
  · go_enter Try.func13, Try.ntmps13
    go_wp2_with fail
    refine (c_rBig _ _ _ _ m).mono ?_
    rintro e w1 ⟨rfl, rfl⟩
    go_wp2_with fail
    go_ret
    exact ⟨rfl, Below.refl _ _⟩
end Go.Proofs.Ytoaknbeekflnaaa
