/- The walk of the law FnExactGoodWall. -/
import Derived.Test.YtcogdogiceokdaaFmR
import Derived.Test.YtcogdogiceokdaaFmS
import Derived.Test.YtcogdogiceokdaaFmO
namespace Go.Proofs.Ytcogdogiceokdaa
open Go.RowKit

theorem s_GoodWall (A : Option Addr) (n c : Nat) (es : List El) (w : World) (rd : RdE 4 0 w A n es) (hn : n ≤ 1048576) :
    Calls Try.prog 7 #[.slice A n c] w fun e w' => e = .returned (.bool (wallC (dats es))) ∧ Below w.heap.size w w' := by
  have HN := Lib.hid (s_l11Good A n c es w rd hn)
  clear rd
  go_enter Try.func7, Try.ntmps7
  go_wp2_with fail
  refine HN.out.mono ?_
  rintro e w1 ⟨rfl, b1⟩
  have B1 := Lib.hid b1
  clear b1 HN
  go_wp2_with fail
  go_ret
  exact ⟨rfl, B1.out⟩
set_option maxRecDepth 100000 in
set_option maxHeartbeats 1600000 in
theorem w_FnExactGoodWall (A : Option Addr) (n c : Nat) (es : List El) (w : World) (ra : RdE 4 0 w A n es) (_fa : ∀ el ∈ es, Fits .i64 el.is ∧ ∀ r ∈ el.rs, r.xs.length ≤ maxLen) (ma : n ≤ maxLen) :
    Calls Try.prog 3 #[.slice A n c] w fun e w' => e = .returned (.bool true) ∧ Below w.heap.size w w' := by
  obtain rfl := ra.len
  have RA := Lib.hid ra
  have S1 := Lib.hid (c_szPointS A es.length c 1048576 w (by decide) (by decide) ma)
  clear ra _fa
  by_cases hbig : (1048576 : Int) < (es.length : Int)
  · rw [if_pos hbig] at S1
    go_enter Try.func3, Try.ntmps3
    go_wp2_with fail
    refine S1.out.mono ?_
    rintro e w' ⟨rfl, rfl⟩
    go_wp2_with fail
    go_ret
    exact ⟨rfl, Below.refl _ _⟩
  rw [if_neg hbig] at S1
  have hn : es.length ≤ 1048576 := by omega
  have hneg : ¬ (1048576 : Int) - (es.length : Int) < 0 := by omega
  have TA := Lib.hid (fun W (hb : Below w.heap.size w W) => c_toPointS A c es W (RA.out.below hb) hn)
  obtain ⟨z, hz⟩ : ∃ z, Hid (wallC (dats es) = z) := ⟨_, Lib.hid rfl⟩
  have SW : Hid (∀ W g es1, RdE 4 0 W (some ⟨g, 0, none⟩) es.length es1 → dats es1 = dats es → Calls Try.prog 7 #[.slice (some ⟨g, 0, none⟩) es.length es.length] W fun e w' => e = .returned (.bool z) ∧ Below W.heap.size W w') := Lib.hid (fun W g es1 r1 d1 => by
    have := s_GoodWall (some ⟨g, 0, none⟩) es.length es.length es1 W r1 hn
    rw [d1, hz.out] at this
    exact this)
  have CW : Hid (∀ W g es1, RdE 4 0 W (some ⟨g, 0, none⟩) es.length es1 → dats es1 = dats es → Calls Try.prog 9 #[.slice (some ⟨g, 0, none⟩) es.length es.length] W fun e w' => e = .returned (.bool z) ∧ Below W.heap.size W w') := Lib.hid (fun W g es1 r1 d1 => by
    have := c_GoodWall (some ⟨g, 0, none⟩) es.length es.length es1 W r1 hn
    rw [d1, hz.out] at this
    exact this)
  go_enter Try.func3, Try.ntmps3
  go_wp2_with fail
  refine S1.out.mono ?_
  rintro e w' ⟨rfl, rfl⟩
  clear S1
  go_wp2_with fail
  refine (TA.out _ (Below.refl _ _)).mono ?_
  rintro e w3 ⟨g3, es3, rfl, o3, d3, b3⟩
  have B3 := Lib.hid b3
  have U3 := Lib.hid (SW.out w3 g3 es3 o3.rd d3)
  clear o3 d3 b3 SW
  go_wp2_with fail
  refine U3.out.mono ?_
  rintro e w4 ⟨rfl, b4⟩
  have B4 := Lib.hid (Below.next B3.out b4)
  clear b4 U3 B3
  go_wp2_with fail
  refine (TA.out _ B4.out).mono ?_
  rintro e w5 ⟨g5, es5, rfl, o5, d5, b5⟩
  have B5 := Lib.hid (Below.next B4.out b5)
  have R5 := Lib.hid o5.rd
  have D5 := Lib.hid d5
  have U5 := Lib.hid (CW.out w5 g5 es5 o5.rd d5)
  clear o5 d5 b5 CW B4
  go_wp2_with fail
  refine U5.out.mono ?_
  rintro e w6 ⟨rfl, b6⟩
  have B6 := Lib.hid (Below.next B5.out b6)
  have R6 := Lib.hid (R5.out.below b6)
  clear b6 U5 R5 B5
  go_wp2_with fail
  refine (TA.out _ B6.out).mono ?_
  rintro e w7 ⟨g7, es7, rfl, o7, d7, b7⟩
  have B7 := Lib.hid (Below.next B6.out b7)
  have EQ := Lib.hid (c_eqPointS (some ⟨g5, 0, none⟩) (some ⟨g7, 0, none⟩) es.length es.length es5 es7 es.length w7 (R6.out.below b7) o7.rd (D5.out.trans d7.symm) hn)
  clear o7 d7 b7 R6 B6 TA
  go_wp2_with fail
  refine EQ.out.mono ?_
  rintro e w8 ⟨rfl, b8⟩
  have B8 := Lib.hid (Below.next B7.out b8)
  clear b8 EQ
  go_wp2_with fail
  go_ret
  exact ⟨rfl, B8.out⟩
end Go.Proofs.Ytcogdogiceokdaa
