/- Values of heaps: HeapsValue of both, where each value to 300 is a nimber; the walk of its law. -/
import Derived.Test.YtoeacocijcammaaHvD
namespace Go.Proofs.Ytoeacocijcammaa
open Go.RowKit

/-- The value of a heap. -/
def hV (xs : List Int) (j : Nat) : Nat := mexN (opts xs (vals xs j) j)
def Bnd : Prop := ∀ xs, goodC xs = true → ∀ j, j ≤ 300 → hV xs j ≤ 255
theorem hV_get (xs : List Int) {j n : Nat} (h : j < n) : (vals xs n).getD j 0 = hV xs j := vals_get xs h
theorem nims_of {xs : List Int} (h : ∀ j, j ≤ 300 → hV xs j ≤ 255) : ∀ n, n ≤ 301 → nims (vals xs n) = true
  | 0, _ => rfl
  | n + 1, hn => by rw [vals]; exact nims_more (nims_of h n (by omega)) (h n (by omega))
def xorF (xs : List Int) (acc : Nat) : List Int → Nat
  | [] => acc
  | n :: t => xorF xs (acc ^^^ hV xs n.toNat) t
def hsV (xs hs : List Int) : Int × Bool := if goodC xs && goodH hs then (((xorF xs 0 hs : Nat) : Int), true) else (0, false)
theorem hsV_code {xs hs : List Int} (h : goodC xs = false) : hsV xs hs = (0, false) := by simp [hsV, h]
theorem hsV_heaps {xs hs : List Int} (h : goodH hs = false) : hsV xs hs = (0, false) := by simp [hsV, h]
theorem hsV_in {xs hs : List Int} (h : goodC xs = true) (h2 : goodH hs = true) : hsV xs hs = (((xorF xs 0 hs : Nat) : Int), true) := by simp [hsV, h, h2]
theorem goodH_ris {hs : List Int} (h : goodH hs = true) : hs.length ≤ 20 ∧ risB 0 hs = true := by simpa [goodH] using h
theorem xor255 {a b : Nat} (ha : a ≤ 255) (hb : b ≤ 255) : a ^^^ b ≤ 255 := by
  have := Nat.xor_lt_two_pow (n := 8) (show a < 2 ^ 8 by omega) (show b < 2 ^ 8 by omega)
  omega
theorem ret_ib {a : Int} {c : Bool} {m : Int × Bool} (h : m = (a, c)) : Ending.returned (.tuple #[.int .i64 a, .bool c]) = .returned (.tuple #[.int .i64 m.1, .bool m.2]) := by rw [h]
theorem s_l17Values_len (A : Option Addr) (c : Nat) (xs : List Int) (n : Nat) (w : World) (rd : RdI w A xs.length xs) (hg : goodC xs = true) (hn : n ≤ 300) :
    Calls Try.prog 48 #[.slice A xs.length c, .int .i64 n] w fun e w' => ∃ g cap N, N = n + 1 ∧ e = .returned (.slice (some ⟨g, 0, none⟩) N cap) ∧ w'.ownsRow w.heap.size 3 1 (.slice (some ⟨g, 0, none⟩) N cap) N (natC (vals xs (n + 1))) ∧ Below w.heap.size w w' :=
  (s_l17Values A c xs n w rd hg hn).mono fun _ _ ⟨g, cap, he, ho, hb⟩ => ⟨g, cap, _, vals_len xs (n + 1), he, ho, hb⟩
theorem c_values_all (bnd : Bnd) (A : Option Addr) (c : Nat) (xs : List Int) (w : World) (rd : RdI w A xs.length xs) (hg : goodC xs = true) :
    Calls Try.prog 47 #[.slice A xs.length c, .int .i64 300] w fun e w' => ∃ A' cap, e = .returned (.tuple #[.slice A' 301 cap, .bool true]) ∧ w'.ownsRow w.heap.size 3 1 (.slice A' 301 cap) 301 (natC (vals xs 301)) ∧ Below w.heap.size w w' := by
  have hv : valsC xs 300 = ((vals xs 301).map fun (x : Nat) => (x : Int), true) := valsC_yes (nims_of (bnd xs hg) 301 (by omega))
  refine (c_values A c xs 300 w rd hg (by omega)).mono fun e w' ⟨A', cap, he, ho, hb⟩ => ?_
  rw [hv] at he ho
  simp only [List.length_map, vals_len] at he
  simp only [OwnI, List.length_map, vals_len, List.map_map] at ho
  exact ⟨A', cap, he, ho, hb⟩
set_option maxHeartbeats 1600000 in
theorem c_HeapsValue (bnd : Bnd) (A B : Option Addr) (c d : Nat) (xs hs : List Int) (w : World) (rd : RdI w A xs.length xs) (rh : RdI w B hs.length hs) :
    Calls Try.prog 38 #[.slice A xs.length c, .slice B hs.length d] w fun e w' => e = .returned (.tuple #[.int .i64 (hsV xs hs).1, .bool (hsV xs hs).2]) ∧ Below w.heap.size w w' := by
  have HG := Lib.hid (c_GoodCode A c xs w rd)
  have HH := Lib.hid (c_goodHeaps B d hs w rh)
  obtain ⟨m, Hm⟩ : ∃ m, Hid (hsV xs hs = m) := ⟨_, Lib.hid rfl⟩
  rw [Hm.out]
  cases hg : goodC xs
  · have fin := Lib.hid (hsV_code (hs := hs) hg)
    rw [hg] at HG
    clear hg
    go_enter Try.func38, Try.ntmps38
    go_wp2_with (go_at_call 23; refine HG.out.mono ?_; rintro e w' ⟨rfl, rfl⟩)
    go_ret2
    exact ⟨ret_ib (by rw [← Hm.out, fin.out]), Below.refl _ _⟩
  · rw [hg] at HG
    cases hb : goodH hs
    · have fin := Lib.hid (hsV_heaps (xs := xs) hb)
      rw [hb] at HH
      clear hg hb
      go_enter Try.func38, Try.ntmps38
      go_wp2_with (first | (go_at_call 23; refine HG.out.mono ?_; rintro e w' ⟨rfl, rfl⟩) | (go_at_call 56; refine HH.out.mono ?_; rintro e w' ⟨rfl, rfl⟩))
      go_ret2
      exact ⟨ret_ib (by rw [← Hm.out, fin.out]), Below.refl _ _⟩
    · obtain ⟨hl, hris⟩ := goodH_ris hb
      have fin := Lib.hid (hsV_in hg hb)
      rw [hb] at HH
      have Hall := Lib.hid (risB_all hris)
      have HV := Lib.hid (c_values_all bnd A c xs w rd hg)
      have hbn := Lib.hid (bnd xs hg)
      clear hg hb hris bnd
      go_enter Try.func38, Try.ntmps38
      go_wp2_with (first | (go_at_call 23; refine HG.out.mono ?_; rintro e w' ⟨rfl, rfl⟩) | (go_at_call 56; refine HH.out.mono ?_; rintro e w' ⟨rfl, rfl⟩))
      refine HV.out.mono ?_
      rintro e w1 ⟨A', cap, rfl, o1, b1⟩
      have B1 := b1
      have O1 := Lib.hid (RdV.of_own o1)
      have rh1 := rh.below B1
      clear o1 b1
      go_wp2_with fail
      go_loop [8, 28] (fun x i => ∃ (k acc : Nat), k ≤ hs.length ∧ i = .int .i64 k ∧ x = .int .i64 acc ∧ acc ≤ 255 ∧ Hid (xorF xs acc (hs.drop k) = xorF xs 0 hs)) (fun _ i => hs.length - (intOf i).toNat)
      case atStart => exact ⟨0, 0, Nat.zero_le _, rfl, rfl, by omega, Lib.hid rfl⟩
      case round =>
        obtain ⟨k, acc, hk, rfl, rfl, hacc, hrem⟩ := hrel
        by_cases hlt : k < hs.length
        · obtain ⟨b2, off2, rfl, _, hcx⟩ := rh1.at_ hlt
          obtain ⟨y, hy⟩ : ∃ y : Nat, hs.getD k 0 = (y : Int) := Int.eq_ofNat_of_zero_le (Hall.out _ (mem_getD hlt)).1
          have hyt : y ≤ 300 := by have := (Hall.out _ (mem_getD hlt)).2; omega
          have hyi : (y : Int) < 301 := by omega
          have hd : Hid (hs.drop k = (y : Int) :: hs.drop (k + 1)) := Lib.hid (by rw [drop_cons hlt, hy])
          rw [hy] at hcx
          clear hy
          obtain ⟨b3, off3, rfl, _, hcv⟩ := RdV.at_ O1.out (k := y) (by omega)
          have hcv := hcv y _ (natC_get (by rw [vals_len]; omega))
          rw [hV_get xs (by omega)] at hcv
          have hx5 : hV xs y ≤ 255 := hbn.out y (by omega)
          have hrem' : Hid (xorF xs (acc ^^^ hV xs y) (hs.drop (k + 1)) = xorF xs 0 hs) := Lib.hid (by rw [← hrem.out, hd.out]; simp [xorF])
          generalize hV xs y = z at *
          have hX : bits .xor .i64 (acc : Int) (z : Int) = ((acc ^^^ z : Nat) : Int) := i64_xor_nat acc z (by omega) (by omega)
          have h255 := xor255 hacc hx5
          go_wp2_with fail
          go_round
          case rel => exact ⟨k + 1, acc ^^^ z, by omega, by go_num, rfl, h255, hrem'⟩
          case measure => simp [intOf]; omega
        · have fin2 : Hid (m = ((acc : Int), true)) := Lib.hid (by
            rw [← Hm.out, fin.out, ← hrem.out, List.drop_of_length_le (by omega)]; rfl)
          go_wp2_with fail
          go_ret2
          exact ⟨ret_ib fin2.out, B1⟩
end Go.Proofs.Ytoeacocijcammaa
