/- Values of heaps: HeapsValue of both, where each value to 300 is a nimber; the walk of its law. -/
import Derived.Test.YtnajhlgdncdhbaaHvD
namespace Go.Proofs.Ytnajhlgdncdhbaa
open Go.RowKit

/-- The value of a heap. -/
def hV (xs : List Int) (j : Nat) : Nat := mexN (opts xs (vals xs j) j)
def Bnd : Prop := ∀ xs, goodC xs = true → ∀ j, j ≤ 300 → hV xs j ≤ 255
theorem hV_get (xs : List Int) {j n : Nat} (h : j < n) : (vals xs n).getD j 0 = hV xs j := vals_get xs h
theorem nims_of {xs : List Int} (h : ∀ j, j ≤ 300 → hV xs j ≤ 255) : ∀ n, n ≤ 301 → nims (vals xs n) = true
  | 0, _ => rfl
  | n + 1, hn => by rw [vals]; exact nims_more (nims_of h n (by omega)) (h n (by omega))
def xorF (xs : List Int) (acc : Nat) : List Int → Nat
  | [] => acc
  | n :: t => xorF xs (acc ^^^ hV xs n.toNat) t
def hsV (xs hs : List Int) : Int × Bool := if goodC xs && goodH hs then (((xorF xs 0 hs : Nat) : Int), true) else (0, false)
theorem hsV_code {xs hs : List Int} (h : goodC xs = false) : hsV xs hs = (0, false) := by simp [hsV, h]
theorem hsV_heaps {xs hs : List Int} (h : goodH hs = false) : hsV xs hs = (0, false) := by simp [hsV, h]
theorem hsV_in {xs hs : List Int} (h : goodC xs = true) (h2 : goodH hs = true) : hsV xs hs = (((xorF xs 0 hs : Nat) : Int), true) := by simp [hsV, h, h2]
theorem goodH_ris {hs : List Int} (h : goodH hs = true) : hs.length ≤ 20 ∧ risB 0 hs = true := by simpa [goodH] using h
theorem xor255 {a b : Nat} (ha : a ≤ 255) (hb : b ≤ 255) : a ^^^ b ≤ 255 := by
  have := Nat.xor_lt_two_pow (n := 8) (show a < 2 ^ 8 by omega) (show b < 2 ^ 8 by omega)
  omega
theorem ret_ib {a : Int} {c : Bool} {m : Int × Bool} (h : m = (a, c)) : Ending.returned (.tuple #[.int .i64 a, .bool c]) = .returned (.tuple #[.int .i64 m.1, .bool m.2]) := by rw [h]
theorem s_l17Values_len (A : Option Addr) (c : Nat) (xs : List Int) (n : Nat) (w : World) (rd : RdI w A xs.length xs) (hg : goodC xs = true) (hn : n ≤ 300) :
    Calls Try.prog 62 #[.slice A xs.length c, .int .i64 n] w fun e w' => ∃ g cap N, N = n + 1 ∧ e = .returned (.slice (some ⟨g, 0, none⟩) N cap) ∧ w'.ownsRow w.heap.size 3 1 (.slice (some ⟨g, 0, none⟩) N cap) N (natC (vals xs (n + 1))) ∧ Below w.heap.size w w' :=
  (s_l17Values A c xs n w rd hg hn).mono fun _ _ ⟨g, cap, he, ho, hb⟩ => ⟨g, cap, _, vals_len xs (n + 1), he, ho, hb⟩
set_option maxHeartbeats 1600000 in
theorem s_HeapsValue (bnd : Bnd) (A B : Option Addr) (c d : Nat) (xs hs : List Int) (w : World) (rd : RdI w A xs.length xs) (rh : RdI w B hs.length hs) (hn : xs.length ≤ 1048576) (hm : hs.length ≤ 1048576) :
    Calls Try.prog 43 #[.slice A xs.length c, .slice B hs.length d] w fun e w' => e = .returned (.tuple #[.int .i64 (hsV xs hs).1, .bool (hsV xs hs).2]) ∧ Below w.heap.size w w' := by
  have HG := Lib.hid (s_GoodCode A c xs w rd (by omega))
  have HH := Lib.hid (s_l17Heaps B d hs w rh hm)
  obtain ⟨m, Hm⟩ : ∃ m, Hid (hsV xs hs = m) := ⟨_, Lib.hid rfl⟩
  rw [Hm.out]
  cases hg : goodC xs
  · have fin := Lib.hid (hsV_code (hs := hs) hg)
    rw [hg] at HG
    clear hg
    go_enter Try.func43, Try.ntmps43
    go_wp2_with (go_at_call 16; refine HG.out.mono ?_; rintro e w' ⟨rfl, rfl⟩)
    go_ret2
    exact ⟨ret_ib (by rw [← Hm.out, fin.out]), Below.refl _ _⟩
  · rw [hg] at HG
    cases hb : goodH hs
    · have fin := Lib.hid (hsV_heaps (xs := xs) hb)
      rw [hb] at HH
      clear hg hb
      go_enter Try.func43, Try.ntmps43
      go_wp2_with (first | (go_at_call 16; refine HG.out.mono ?_; rintro e w' ⟨rfl, rfl⟩) | (go_at_call 65; refine HH.out.mono ?_; rintro e w' ⟨rfl, q⟩))
      go_ret2
      exact ⟨ret_ib (by rw [← Hm.out, fin.out]), q.below⟩
    · obtain ⟨hl, hris⟩ := goodH_ris hb
      have fin := Lib.hid (hsV_in hg hb)
      rw [hb] at HH
      by_cases hz : hs.length = 0
      · have fin2 : Hid (m = (0, true)) := Lib.hid (by
          rw [List.length_eq_zero_iff] at hz; subst hz; rw [← Hm.out, fin.out]; rfl)
        have hz2 : ((hs.length : Int) == 0) = true := by simp [hz]
        clear hg hb hris hz
        go_enter Try.func43, Try.ntmps43
        go_wp2_with (first | (go_at_call 16; refine HG.out.mono ?_; rintro e w' ⟨rfl, rfl⟩) | (go_at_call 65; refine HH.out.mono ?_; rintro e w' ⟨rfl, q⟩))
        go_ret2
        exact ⟨ret_ib (by rw [fin2.out]), q.below⟩
      · have hall := risB_all hris
        have hlast := risB_last hris
        obtain ⟨t, ht⟩ : ∃ t : Nat, hs.getD (hs.length - 1) 0 = (t : Int) := Int.eq_ofNat_of_zero_le (hall _ (mem_getD (by omega))).1
        have ht300 : t ≤ 300 := by have := (hall _ (mem_getD (k := hs.length - 1) (by omega))).2; omega
        rw [ht] at hlast
        have hz2 : ((hs.length : Int) == 0) = false := by simp [hz]
        have Hall := Lib.hid hall
        have Hlast := Lib.hid hlast
        have Hg := Lib.hid hg
        have hbn := Lib.hid (bnd xs hg)
        have hpos : 0 < hs.length := by omega
        clear hg hb hris hall hlast hz
        obtain ⟨b, off, rfl, _, hc⟩ := rh.at_ (k := hs.length - 1) (by omega)
        rw [ht] at hc
        go_enter Try.func43, Try.ntmps43
        go_wp2_with (first | (go_at_call 16; refine HG.out.mono ?_; rintro e w' ⟨rfl, rfl⟩) | (go_at_call 65; refine HH.out.mono ?_; rintro e w' ⟨rfl, ⟨n, rfl⟩⟩))
        have q : Q w (w.drewN n) := ⟨n, rfl⟩
        refine (s_l17Values_len A c xs t _ (rd.q q) Hg.out ht300).mono ?_
        rintro e w1 ⟨g, cap, N, hN, rfl, o1, b1⟩
        have hNt : t < N := by omega
        clear hN
        have B1 := Below.next q.below b1
        have O1 := Lib.hid o1
        have rh1 := rh.below B1
        clear o1 b1 hc
        go_wp2_with fail
        go_loop [7, 8] (fun x i => ∃ (k acc : Nat), k ≤ hs.length ∧ i = .int .i64 k ∧ x = .int .i64 acc ∧ acc ≤ 255 ∧ Hid (xorF xs acc (hs.drop k) = xorF xs 0 hs)) (fun _ i => hs.length - (intOf i).toNat)
        case atStart => exact ⟨0, 0, Nat.zero_le _, rfl, rfl, by omega, Lib.hid rfl⟩
        case round =>
          obtain ⟨k, acc, hk, rfl, rfl, hacc, hrem⟩ := hrel
          by_cases hlt : k < hs.length
          · obtain ⟨b2, off2, e, _, hcx⟩ := rh1.at_ hlt
            injection e with e
            injection e with e1 e2
            subst e1 e2
            obtain ⟨y, hy⟩ : ∃ y : Nat, hs.getD k 0 = (y : Int) := Int.eq_ofNat_of_zero_le (Hall.out _ (mem_getD hlt)).1
            have hyt : y ≤ t := by have := Hlast.out _ (mem_getD hlt); omega
            have hd : Hid (hs.drop k = (y : Int) :: hs.drop (k + 1)) := Lib.hid (by rw [drop_cons hlt, hy])
            rw [hy] at hcx
            clear hy
            have hcv := O1.out.cellAt y (by omega)
            rw [natC_get (by rw [vals_len]; omega), hV_get xs (by omega)] at hcv
            have hx5 : hV xs y ≤ 255 := hbn.out y (by omega)
            have hrem' : Hid (xorF xs (acc ^^^ hV xs y) (hs.drop (k + 1)) = xorF xs 0 hs) := Lib.hid (by rw [← hrem.out, hd.out]; simp [xorF])
            generalize hV xs y = z at *
            have hX : bits .xor .i64 (acc : Int) (z : Int) = ((acc ^^^ z : Nat) : Int) := i64_xor_nat acc z (by omega) (by omega)
            have h255 := xor255 hacc hx5
            have hq : Hid (decide (z ≤ 255) = true) := Lib.hid (decide_eq_true hx5)
            go_wp2_with (go_at_call 66; refine (c_l16Nimber z _).mono ?_; rintro e w' ⟨rfl, rfl⟩; rw [hq.out])
            go_round
            case rel => exact ⟨k + 1, acc ^^^ z, by omega, by go_num, rfl, h255, hrem'⟩
            case measure => simp [intOf]; omega
          · have fin2 : Hid (m = ((acc : Int), true)) := Lib.hid (by
              rw [← Hm.out, fin.out, ← hrem.out, List.drop_of_length_le (by omega)]; rfl)
            go_wp2_with fail
            go_ret2
            exact ⟨ret_ib fin2.out, B1⟩
theorem c_values_all (bnd : Bnd) (A : Option Addr) (c : Nat) (xs : List Int) (w : World) (rd : RdI w A xs.length xs) (hg : goodC xs = true) :
    Calls Try.prog 64 #[.slice A xs.length c, .int .i64 300] w fun e w' => ∃ A' cap, e = .returned (.tuple #[.slice A' 301 cap, .bool true]) ∧ w'.ownsRow w.heap.size 3 1 (.slice A' 301 cap) 301 (natC (vals xs 301)) ∧ Below w.heap.size w w' := by
  have hv : valsC xs 300 = ((vals xs 301).map fun (x : Nat) => (x : Int), true) := valsC_yes (nims_of (bnd xs hg) 301 (by omega))
  refine (c_values A c xs 300 w rd hg (by omega)).mono fun e w' ⟨A', cap, he, ho, hb⟩ => ?_
  rw [hv] at he ho
  simp only [List.length_map, vals_len] at he
  simp only [OwnI, List.length_map, vals_len, List.map_map] at ho
  exact ⟨A', cap, he, ho, hb⟩
set_option maxHeartbeats 1600000 in
theorem c_HeapsValue (bnd : Bnd) (A B : Option Addr) (c d : Nat) (xs hs : List Int) (w : World) (rd : RdI w A xs.length xs) (rh : RdI w B hs.length hs) :
    Calls Try.prog 44 #[.slice A xs.length c, .slice B hs.length d] w fun e w' => e = .returned (.tuple #[.int .i64 (hsV xs hs).1, .bool (hsV xs hs).2]) ∧ Below w.heap.size w w' := by
  have HG := Lib.hid (c_GoodCode A c xs w rd)
  have HH := Lib.hid (c_goodHeaps B d hs w rh)
  obtain ⟨m, Hm⟩ : ∃ m, Hid (hsV xs hs = m) := ⟨_, Lib.hid rfl⟩
  rw [Hm.out]
  cases hg : goodC xs
  · have fin := Lib.hid (hsV_code (hs := hs) hg)
    rw [hg] at HG
    clear hg
    go_enter Try.func44, Try.ntmps44
    go_wp2_with (go_at_call 18; refine HG.out.mono ?_; rintro e w' ⟨rfl, rfl⟩)
    go_ret2
    exact ⟨ret_ib (by rw [← Hm.out, fin.out]), Below.refl _ _⟩
  · rw [hg] at HG
    cases hb : goodH hs
    · have fin := Lib.hid (hsV_heaps (xs := xs) hb)
      rw [hb] at HH
      clear hg hb
      go_enter Try.func44, Try.ntmps44
      go_wp2_with (first | (go_at_call 18; refine HG.out.mono ?_; rintro e w' ⟨rfl, rfl⟩) | (go_at_call 67; refine HH.out.mono ?_; rintro e w' ⟨rfl, rfl⟩))
      go_ret2
      exact ⟨ret_ib (by rw [← Hm.out, fin.out]), Below.refl _ _⟩
    · obtain ⟨hl, hris⟩ := goodH_ris hb
      have fin := Lib.hid (hsV_in hg hb)
      rw [hb] at HH
      have Hall := Lib.hid (risB_all hris)
      have HV := Lib.hid (c_values_all bnd A c xs w rd hg)
      have hbn := Lib.hid (bnd xs hg)
      clear hg hb hris bnd
      go_enter Try.func44, Try.ntmps44
      go_wp2_with (first | (go_at_call 18; refine HG.out.mono ?_; rintro e w' ⟨rfl, rfl⟩) | (go_at_call 67; refine HH.out.mono ?_; rintro e w' ⟨rfl, rfl⟩))
      refine HV.out.mono ?_
      rintro e w1 ⟨A', cap, rfl, o1, b1⟩
      have B1 := b1
      have O1 := Lib.hid (RdV.of_own o1)
      have rh1 := rh.below B1
      clear o1 b1
      go_wp2_with fail
      go_loop [8, 28] (fun x i => ∃ (k acc : Nat), k ≤ hs.length ∧ i = .int .i64 k ∧ x = .int .i64 acc ∧ acc ≤ 255 ∧ Hid (xorF xs acc (hs.drop k) = xorF xs 0 hs)) (fun _ i => hs.length - (intOf i).toNat)
      case atStart => exact ⟨0, 0, Nat.zero_le _, rfl, rfl, by omega, Lib.hid rfl⟩
      case round =>
        obtain ⟨k, acc, hk, rfl, rfl, hacc, hrem⟩ := hrel
        by_cases hlt : k < hs.length
        · obtain ⟨b2, off2, rfl, _, hcx⟩ := rh1.at_ hlt
          obtain ⟨y, hy⟩ : ∃ y : Nat, hs.getD k 0 = (y : Int) := Int.eq_ofNat_of_zero_le (Hall.out _ (mem_getD hlt)).1
          have hyt : y ≤ 300 := by have := (Hall.out _ (mem_getD hlt)).2; omega
          have hyi : (y : Int) < 301 := by omega
          have hd : Hid (hs.drop k = (y : Int) :: hs.drop (k + 1)) := Lib.hid (by rw [drop_cons hlt, hy])
          rw [hy] at hcx
          clear hy
          obtain ⟨b3, off3, rfl, _, hcv⟩ := RdV.at_ O1.out (k := y) (by omega)
          have hcv := hcv y _ (natC_get (by rw [vals_len]; omega))
          rw [hV_get xs (by omega)] at hcv
          have hx5 : hV xs y ≤ 255 := hbn.out y (by omega)
          have hrem' : Hid (xorF xs (acc ^^^ hV xs y) (hs.drop (k + 1)) = xorF xs 0 hs) := Lib.hid (by rw [← hrem.out, hd.out]; simp [xorF])
          generalize hV xs y = z at *
          have hX : bits .xor .i64 (acc : Int) (z : Int) = ((acc ^^^ z : Nat) : Int) := i64_xor_nat acc z (by omega) (by omega)
          have h255 := xor255 hacc hx5
          go_wp2_with fail
          go_round
          case rel => exact ⟨k + 1, acc ^^^ z, by omega, by go_num, rfl, h255, hrem'⟩
          case measure => simp [intOf]; omega
        · have fin2 : Hid (m = ((acc : Int), true)) := Lib.hid (by
            rw [← Hm.out, fin.out, ← hrem.out, List.drop_of_length_le (by omega)]; rfl)
          go_wp2_with fail
          go_ret2
          exact ⟨ret_ib fin2.out, B1⟩
set_option maxHeartbeats 1600000 in
theorem w_FnExactHeapsValue_of (bnd : Bnd) (A : Option Addr) (n c : Nat) (xs : List Int) (B : Option Addr) (m d : Nat) (hs : List Int) (w : World) (rd : RdV w A n (xs.map (Value.int .i64))) (_f : Fits .i64 xs) (_m : n ≤ maxLen)
    (rh : RdV w B m (hs.map (Value.int .i64))) (_f' : Fits .i64 hs) (_m' : m ≤ maxLen) :
    Calls Try.prog 12 #[.slice A n c, .slice B m d] w fun e w' => e = .returned (.bool true) ∧ Below w.heap.size w w' := by
  have rd : RdI w A n xs := rd
  have rh : RdI w B m hs := rh
  obtain rfl := rd.len
  obtain rfl := rh.len
  clear _m _f _m' _f'
  by_cases hn : xs.length ≤ 1048576
  · by_cases hn2 : hs.length ≤ 1048576
    · obtain ⟨m, Hm⟩ : ∃ m, Hid (hsV xs hs = m) := ⟨_, Lib.hid rfl⟩
      have HS : ∀ (A B : Option Addr) (c d : Nat) (w : World), RdI w A xs.length xs → RdI w B hs.length hs → Calls Try.prog 43 #[.slice A xs.length c, .slice B hs.length d] w fun e w' => e = .returned (.tuple #[.int .i64 m.1, .bool m.2]) ∧ Below w.heap.size w w' :=
        fun A B c d w r1 r2 => by have := s_HeapsValue bnd A B c d xs hs w r1 r2 hn hn2; rwa [Hm.out] at this
      have HC : ∀ (A B : Option Addr) (c d : Nat) (w : World), RdI w A xs.length xs → RdI w B hs.length hs → Calls Try.prog 44 #[.slice A xs.length c, .slice B hs.length d] w fun e w' => e = .returned (.tuple #[.int .i64 m.1, .bool m.2]) ∧ Below w.heap.size w w' :=
        fun A B c d w r1 r2 => by have := c_HeapsValue bnd A B c d xs hs w r1 r2; rwa [Hm.out] at this
      obtain ⟨v, ok⟩ := m
      clear bnd
      go_enter Try.func12, Try.ntmps12
      go_wp2_with fail
      refine (c_toIntS _ _ _ xs _ rd hn).mono ?_
      rintro e v1 ⟨g1, rfl, _, t1, a1⟩
      go_wp2_with fail
      refine (c_toIntS _ _ _ hs _ (rh.below a1) hn2).mono ?_
      rintro e v2 ⟨g2, rfl, _, t2, a2⟩
      have B2 := Below.next a1 a2
      go_wp2_with fail
      refine (HS _ _ _ _ _ (t1.below a2) t2).mono ?_
      rintro e v3 ⟨rfl, a3⟩
      have B3 := Below.next B2 a3
      go_wp2_with fail
      refine (c_toIntS _ _ _ xs _ (rd.below B3) hn).mono ?_
      rintro e v4 ⟨g4, rfl, _, t4, a4⟩
      have B4 := Below.next B3 a4
      go_wp2_with fail
      refine (c_toIntS _ _ _ hs _ (rh.below B4) hn2).mono ?_
      rintro e v5 ⟨g5, rfl, _, t5, a5⟩
      have B5 := Below.next B4 a5
      have t4 := t4.below a5
      go_wp2_with fail
      refine (HC _ _ _ _ _ t4 t5).mono ?_
      rintro e v6 ⟨rfl, a6⟩
      have B6 := Below.next B5 a6
      have t4 := t4.below a6
      have t5 := t5.below a6
      go_wp2_with fail
      refine (c_toIntS _ _ _ xs _ (rd.below B6) hn).mono ?_
      rintro e v7 ⟨g7, rfl, _, t7, a7⟩
      have B7 := Below.next B6 a7
      have t4 := t4.below a7
      have t5 := t5.below a7
      go_wp2_with fail
      refine (c_eqIntS_same _ _ _ _ _ xs _ t4 t7 hn).mono ?_
      rintro e v8 ⟨rfl, q8⟩
      have B8 := Below.next B7 q8.below
      have t5 := t5.q q8
      go_wp2_with fail
      refine (c_toIntS _ _ _ hs _ (rh.below B8) hn2).mono ?_
      rintro e v9 ⟨g9, rfl, _, t9, a9⟩
      have B9 := Below.next B8 a9
      have t5 := t5.below a9
      go_wp2_with fail
      refine (c_eqIntS_same _ _ _ _ _ hs _ t5 t9 hn2).mono ?_
      rintro e v10 ⟨rfl, q10⟩
      have B10 := Below.next B9 q10.below
      go_wp2_with fail
      go_ret
      exact ⟨rfl, B10⟩
    · have h2 : ¬ (hs.length : Int) ≤ 1048576 := by omega
      go_enter Try.func12, Try.ntmps12
      go_wp2_with fail
      go_ret
      exact ⟨rfl, Below.refl _ _⟩
  · go_enter Try.func12, Try.ntmps12
    go_wp2_with fail
    go_ret
    exact ⟨rfl, Below.refl _ _⟩
end Go.Proofs.Ytnajhlgdncdhbaa
