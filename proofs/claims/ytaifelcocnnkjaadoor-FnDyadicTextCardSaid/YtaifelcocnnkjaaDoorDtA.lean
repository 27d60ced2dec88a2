/- Draws: a text that was spoilt; texts of numbers; a top and a power. -/
import Derived.Test.YtaifelcocnnkjaaDoorDtP
import Derived.Test.YtaifelcocnnkjaaDoorDyG1
import Derived.Test.YtaifelcocnnkjaaDoorTxG
namespace Go.Proofs.YtaifelcocnnkjaaDoor
open Go.RowKit

def SpP (w : World) (g : Nat) (k : Nat) (e : Ending) (w' : World) : Prop := ∃ s : ByteArray, e = .returned (.string s) ∧ s.size ≤ k ∧ w.grownBy w' (some g)
set_option maxHeartbeats 1600000 in
theorem c_spoilt (t W : ByteArray) (ht : 1 ≤ t.size) (ht2 : t.size ≤ 100) (hW : W.size = 4) (g : Nat) (A : Option Addr) (n c : Nat) (bs : List Int) (m : Int) (w : World) (hc : Cur w g A n c bs m) (hm : m ≤ 900000000000) (hn : n ≤ 1099511627776) :
    Calls Tryd.prog 48 #[.pointer (some ⟨g, 0, none⟩), .string t, .string W] w (SpP w g 101) := by
  have hne : t.toList.isEmpty = false := by
    have e : t.toList.length = t.size := by rw [Lib.toList_data]; simp
    cases h : t.toList with
    | nil => rw [h] at e; simp at e; omega
    | cons a l => rfl
  go_enter Tryd.func48, Tryd.ntmps48
  go_wp2_with fail
  refine (c_pick t.size g A n c bs _ _ hc (by omega) (by omega) (by omega) (by omega)).mono ?_
  rintro e w1 ⟨x, rfl, x0, x1, hc1, gr1⟩
  obtain ⟨i, rfl⟩ : ∃ i : Nat, x = (i : Int) := Int.eq_ofNat_of_zero_le x0
  have HP := Lib.hid (c_pick 4 g A n c bs _ w1 hc1 (by omega) (by omega) (by decide) (by decide))
  have hi : i + 1 ≤ t.size := by omega
  have hW1 : (W.size : Int) = 4 := by omega
  clear hc1 hc x0 x1 hne
  go_wp2_with fail
  refine HP.out.mono ?_
  rintro e w2 ⟨y, rfl, y0, y1, hc2, gr2⟩
  obtain ⟨j, rfl⟩ : ∃ j : Nat, y = (j : Int) := Int.eq_ofNat_of_zero_le y0
  have HP3 := Lib.hid (c_pick 3 g A n c bs _ w2 hc2 (by omega) (by omega) (by decide) (by decide))
  obtain ⟨V, hV⟩ : ∃ V, W.extract j W.size = V := ⟨_, rfl⟩
  have hVs : 1 ≤ V.size := by rw [← hV]; simp; omega
  obtain ⟨C, hC⟩ : ∃ C, V.extract 0 1 = C := ⟨_, rfl⟩
  have hCs : C.size = 1 := by rw [← hC]; simp; omega
  have hj : j ≤ W.size := by omega
  have hj1 : (j : Int) ≤ (W.size : Int) := by omega
  have hV1 : (1 : Int) ≤ (V.size : Int) := by omega
  obtain ⟨U, hU⟩ : ∃ U, t.extract 0 i = U := ⟨_, rfl⟩
  obtain ⟨X, hX⟩ : ∃ X, t.extract i t.size = X := ⟨_, rfl⟩
  obtain ⟨Y, hY⟩ : ∃ Y, t.extract (i + 1) t.size = Y := ⟨_, rfl⟩
  have hUs : U.size = i := by rw [← hU]; simp; omega
  have hXs : X.size = t.size - i := by rw [← hX]; simp
  have hYs : Y.size = t.size - (i + 1) := by rw [← hY]; simp
  have HUs := Lib.hid hUs
  have HXs := Lib.hid hXs
  have HYs := Lib.hid hYs
  have HCs := Lib.hid hCs
  have ha1 := fun (w : World) => run_string_add_sum (P := Tryd.prog) w U C (by omega)
  have ha2 := fun (w : World) => run_string_add_sum (P := Tryd.prog) w (U ++ C) X (by rw [ByteArray.size_append]; omega)
  have ha3 := fun (w : World) => run_string_add_sum (P := Tryd.prog) w (U ++ C) Y (by rw [ByteArray.size_append]; omega)
  have ha4 := fun (w : World) => run_string_add_sum (P := Tryd.prog) w U Y (by omega)
  have i0 : (0 : Int) ≤ (i : Int) := by omega
  have i1 : (i : Int) ≤ (t.size : Int) := by omega
  have i2 : (0 : Int) ≤ (i : Int) + 1 := by omega
  have i3 : (i : Int) + 1 ≤ (t.size : Int) := by omega
  have G2 := Lib.hid (grown_trans gr1 gr2)
  clear hUs hXs hYs hCs hc2 gr1 gr2 HP hW hVs
  go_wp2_with fail
  refine HP3.out.mono ?_
  rintro e w3 ⟨z, rfl, z0, z1, hc3, gr3⟩
  have G3 := Lib.hid (grown_trans G2.out gr3)
  clear hc3 gr3 G2 HP3
  have hz : z = 0 ∨ z = 1 ∨ z = 2 := by omega
  rcases hz with rfl | rfl | rfl
  · go_wp2_with fail
    go_quiet (fail)
    go_wp2_with fail
    refine bodyPost_ret (results_tmp rfl _ _ _) rfl ⟨_, rfl, ?_, grown_trans G3.out (grown_below (some g) (Q.below ⟨_, rfl⟩))⟩
    simp only [hU, hV, hC, hX, hY, ByteArray.size_append, HUs.out, HXs.out, HYs.out, HCs.out]; omega
  · go_wp2_with fail
    go_quiet (fail)
    go_wp2_with fail
    refine bodyPost_ret (results_tmp rfl _ _ _) rfl ⟨_, rfl, ?_, grown_trans G3.out (grown_below (some g) (Q.below ⟨_, rfl⟩))⟩
    simp only [hU, hV, hC, hX, hY, ByteArray.size_append, HUs.out, HXs.out, HYs.out, HCs.out]; omega
  · go_wp2_with fail
    go_quiet (fail)
    go_wp2_with fail
    refine bodyPost_ret (results_tmp rfl _ _ _) rfl ⟨_, rfl, ?_, grown_trans G3.out (grown_below (some g) (Q.below ⟨_, rfl⟩))⟩
    simp only [hU, hV, hC, hX, hY, ByteArray.size_append, HUs.out, HXs.out, HYs.out, HCs.out]; omega
end Go.Proofs.YtaifelcocnnkjaaDoor
