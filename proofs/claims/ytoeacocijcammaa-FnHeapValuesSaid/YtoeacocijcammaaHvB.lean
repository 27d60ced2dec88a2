/- The values of heaps, by the reference: the walk of l17Values. -/
import Derived.Test.YtoeacocijcammaaHvA
namespace Go.Proofs.Ytoeacocijcammaa
open Go.RowKit

theorem Inn.make {w wr : World} {g cap n : Nat} {v : List Nat} (ho : wr.ownsRow w.heap.size 3 1 (.slice (some ⟨g, 0, none⟩) v.length cap) v.length (natC v)) (hb : Below w.heap.size w wr) :
    Inn w (wr.alloc (.cells (madeCells #[.bool false] n) 4)) g cap wr.heap.size 4 n v [] :=
  ⟨ho.alloc _, (World.rowIs_made wr (.bool false) n 4).congr (fun j _ => by simp), fun e => by
    have := (ho.lt g rfl).2
    omega, hb.size, hb.alloc hb.size _⟩
set_option maxHeartbeats 800000 in
theorem c_l17Bit1 (d : Nat) (w : World) (hd : d < 8) : Calls Try.prog 61 #[.int .i64 d, .int .i64 1] w fun e w' => e = .returned (.bool (decide (d % 2 = 1))) ∧ w = w' := by
  have h : d = 0 ∨ d = 1 ∨ d = 2 ∨ d = 3 ∨ d = 4 ∨ d = 5 ∨ d = 6 ∨ d = 7 := by omega
  clear hd
  rcases h with rfl | rfl | rfl | rfl | rfl | rfl | rfl | rfl
  all_goals
    go_enter Try.func61, Try.ntmps61
    go_wp2_with fail
    go_ret
    exact ⟨rfl, rfl⟩
set_option maxHeartbeats 800000 in
theorem c_l17Bit2 (d : Nat) (w : World) (hd : d < 8) : Calls Try.prog 61 #[.int .i64 d, .int .i64 2] w fun e w' => e = .returned (.bool (decide (d / 2 % 2 = 1))) ∧ w = w' := by
  have h : d = 0 ∨ d = 1 ∨ d = 2 ∨ d = 3 ∨ d = 4 ∨ d = 5 ∨ d = 6 ∨ d = 7 := by omega
  clear hd
  rcases h with rfl | rfl | rfl | rfl | rfl | rfl | rfl | rfl
  all_goals
    go_enter Try.func61, Try.ntmps61
    go_wp2_with fail
    go_ret
    exact ⟨rfl, rfl⟩
set_option maxHeartbeats 800000 in
theorem c_l17Bit4 (d : Nat) (w : World) (hd : d < 8) : Calls Try.prog 61 #[.int .i64 d, .int .i64 4] w fun e w' => e = .returned (.bool (decide (d / 4 % 2 = 1))) ∧ w = w' := by
  have h : d = 0 ∨ d = 1 ∨ d = 2 ∨ d = 3 ∨ d = 4 ∨ d = 5 ∨ d = 6 ∨ d = 7 := by omega
  clear hd
  rcases h with rfl | rfl | rfl | rfl | rfl | rfl | rfl | rfl
  all_goals
    go_enter Try.func61, Try.ntmps61
    go_wp2_with fail
    go_ret
    exact ⟨rfl, rfl⟩

theorem c_bit1 (d : Nat) (q : Bool) (w : World) (hd : d < 8) (h : decide (d % 2 = 1) = q) : Calls Try.prog 61 #[.int .i64 d, .int .i64 1] w fun e w' => e = .returned (.bool q) ∧ w = w' := by rw [← h]; exact c_l17Bit1 d w hd
theorem c_bit2 (d : Nat) (q : Bool) (w : World) (hd : d < 8) (h : decide (d / 2 % 2 = 1) = q) : Calls Try.prog 61 #[.int .i64 d, .int .i64 2] w fun e w' => e = .returned (.bool q) ∧ w = w' := by rw [← h]; exact c_l17Bit2 d w hd
theorem c_bit4 (d : Nat) (q : Bool) (w : World) (hd : d < 8) (h : decide (d / 4 % 2 = 1) = q) : Calls Try.prog 61 #[.int .i64 d, .int .i64 4] w fun e w' => e = .returned (.bool q) ∧ w = w' := by rw [← h]; exact c_l17Bit4 d w hd
/-- A new slice of these numbers. -/
def NatsP (w : World) (v : List Nat) (e : Ending) (w' : World) : Prop :=
  ∃ g cap, e = .returned (.slice (some ⟨g, 0, none⟩) v.length cap) ∧ w'.ownsRow w.heap.size 3 1 (.slice (some ⟨g, 0, none⟩) v.length cap) v.length (natC v) ∧ Below w.heap.size w w'
set_option maxRecDepth 100000 in
set_option maxHeartbeats 3200000 in
theorem s_l17Values (A : Option Addr) (c : Nat) (xs : List Int) (n : Nat) (w : World) (rd : RdI w A xs.length xs) (hg : goodC xs = true) (hn : n ≤ 300) :
    Calls Try.prog 48 #[.slice A xs.length c, .int .i64 n] w (NatsP w (vals xs (n + 1))) := by
  have hx6 : xs.length ≤ 6 := (goodC_iff.1 hg).2.1
  go_enter Try.func48, Try.ntmps48
  go_wp2_with fail
  go_loopg [5, 6] (n + 1) (fun m o i wr => ∃ (h g cap : Nat), h ≤ n + 1 ∧ m = n + 1 - h ∧ i = .int .i64 h ∧ o = .slice (some ⟨g, 0, none⟩) h cap ∧
      wr.ownsRow w.heap.size 3 1 (.slice (some ⟨g, 0, none⟩) h cap) h (natC (vals xs h)) ∧ w.heap.size ≤ g ∧ Below w.heap.size w wr)
  case atStart => exact ⟨0, w.heap.size, 0, by omega, rfl, rfl, rfl, own_lit0 w _ _ (Nat.le_refl _), Nat.le_refl _, by go_grown⟩
  case round =>
    obtain ⟨w0, hw0⟩ : ∃ w0, w0 = wr := ⟨_, rfl⟩
    subst hw0
    obtain ⟨h, g, cap, hh, rfl, rfl, rfl, hown, hgw, hb⟩ := hrel
    by_cases hlt : h < n + 1
    · have hmk := mk_bools (2 * h + 3) (by omega)
      obtain ⟨n2, hn2⟩ : ∃ n2, 2 * h + 3 = n2 := ⟨_, rfl⟩
      have hI : Inn w (w0.alloc (.cells (madeCells #[.bool false] n2) 4)) g cap w0.heap.size 4 n2 (vals xs h) [] := Inn.make (by rw [vals_len]; exact hown) hb
      have HI := Lib.hid hI
      have h300 : h ≤ 300 := by omega
      have en2 : 2 * (h : Int) + 3 = (n2 : Int) := by omega
      have hn2h : 2 * h + 3 ≤ n2 := by omega
      have hn2g : n2 ≤ 603 := by omega
      rw [hn2] at hmk
      clear hown hb hI hn2
      go_upto_block 2 with fail
      clear hmk en2
      rw [show decide (h ≤ n) = true from decide_eq_true (by omega)]
      have Hlt := Lib.hid hlt
      have Hh := Lib.hid hh
      clear hlt hh
      go_cut [8] (fun _v wx => Inn w wx g cap w0.heap.size 4 n2 (vals xs h) (opts xs (vals xs h) h))
      case first =>
        go_wp2_with fail
        go_loopg [8] xs.length (fun m i wx => ∃ k : Nat, k ≤ xs.length ∧ k ≤ h ∧ m = xs.length - k ∧ i = .int .i64 ((k : Int) + 1) ∧ Inn w wx g cap w0.heap.size 4 n2 (vals xs h) (optsTo xs (vals xs h) h k))
        case atStart => exact ⟨0, Nat.zero_le _, Nat.zero_le _, rfl, rfl, HI.out⟩
        case round =>
          obtain ⟨k, hk, hkh, rfl, rfl, hI⟩ := hrel
          by_cases hkl : k < xs.length
          · obtain ⟨b, off, rfl, _, hc⟩ := (rd.below hI.below).at_ hkl
            have hd := goodC_mem' hg hkl
            have hkl1 : (k : Int) + 1 ≤ (xs.length : Int) := by omega
            have hkl2 : decide ((k : Int) + 1 ≤ (xs.length : Int)) = true := decide_eq_true hkl1
            by_cases hk2 : k < h
            · have hk21 : (k : Int) + 1 ≤ (h : Int) := by omega
              obtain ⟨d, hdd⟩ := Int.eq_ofNat_of_zero_le hd.1
              rw [hdd] at hc
              have hd8 : d < 8 := by omega
              obtain ⟨r, hr⟩ : ∃ r, h - (k + 1) = r := ⟨_, rfl⟩
              have er : (h : Int) - ((k : Int) + 1) = (r : Int) := by omega
              have hrh : r < h := by omega
              have hvl : (vals xs h).length = h := vals_len xs h
              have hop : Hid (optsTo xs (vals xs h) h (k + 1) = optsTo xs (vals xs h) h k ++ opt1 d r ++ opt2 (vals xs h) d r ++ opt4 (vals xs h) d r) := Lib.hid (by
                rw [optsTo, hdd, hr]; simp [optK])
              have hv5 : ∀ j, (vals xs h).getD j 0 ≤ j := vals_low xs h
              obtain ⟨L, hL⟩ : ∃ L, Hid (optsTo xs (vals xs h) h k = L) := ⟨_, Lib.hid rfl⟩
              obtain ⟨v, hv⟩ : ∃ v, Hid (vals xs h = v) := ⟨_, Lib.hid rfl⟩
              rw [hL.out, hv.out] at hI
              rw [hL.out, hv.out] at hop
              rw [hv.out] at hv5 hvl
              clear hdd hd hr
              obtain ⟨q1, hq1⟩ : ∃ q, Hid (decide (d % 2 = 1 ∧ r = 0) = q) := ⟨_, Lib.hid rfl⟩
              obtain ⟨q2, hq2⟩ : ∃ q, Hid (decide (d / 2 % 2 = 1 ∧ 0 < r) = q) := ⟨_, Lib.hid rfl⟩
              have HI2 := Lib.hid hI
              have Hv5 := Lib.hid hv5
              clear hI hv5
              go_upto_region 11 with fail
              go_cut [9, 10, 48] (fun v10 v11 v40 wx => v10 = .int .i64 d ∧ v11 = .int .i64 r ∧ v40 = .bool q1 ∧ Inn w wx g cap w0.heap.size 4 n2 v L)
              case first =>
                rcases Nat.mod_two_eq_zero_or_one d with h1 | h1
                · have hA := Lib.hid (decide_eq_false (p := d % 2 = 1) (by omega))
                  have hq : Hid (false = q1) := Lib.hid (by rw [← hq1.out, h1]; simp)
                  clear h1
                  go_wp2_with (go_at_call 61; refine (c_bit1 d false _ hd8 hA.out).mono ?_; rintro e w' ⟨rfl, rfl⟩)
                  go_meet
                  case rel => exact ⟨rfl, rfl, by rw [← hq.out], HI2.out⟩
                · have hA := Lib.hid (decide_eq_true (p := d % 2 = 1) (by omega))
                  by_cases h0 : r = 0
                  · have hq : Hid (true = q1) := Lib.hid (by rw [← hq1.out, h1, h0]; simp)
                    have h0' : ((r : Int) == 0) = true := by simp [h0]
                    clear h1 h0
                    go_wp2_with (go_at_call 61; refine (c_bit1 d true _ hd8 hA.out).mono ?_; rintro e w' ⟨rfl, rfl⟩)
                    go_meet
                    case rel => exact ⟨rfl, rfl, by rw [← hq.out], HI2.out⟩
                  · have hq : Hid (false = q1) := Lib.hid (by rw [← hq1.out]; simp [h0])
                    have h0' : ((r : Int) == 0) = false := by simp; omega
                    clear h1 h0
                    go_wp2_with (go_at_call 61; refine (c_bit1 d true _ hd8 hA.out).mono ?_; rintro e w' ⟨rfl, rfl⟩)
                    go_meet
                    case rel => exact ⟨rfl, rfl, by rw [← hq.out], HI2.out⟩
              case rest =>
                obtain ⟨rfl, rfl, rfl, hI⟩ := hcut
                have c0 := hI.sign (j := 0) (by omega)
                have f0 := hI.fro 0
                have HI3 := Lib.hid hI
                clear hI
                go_upto_if 48 with fail
                go_cut [48] (fun _v wx => Inn w wx g cap w0.heap.size 4 n2 v (L ++ opt1 d r))
                case first =>
                  cases q1
                  · have ho : Hid (L ++ opt1 d r = L) := Lib.hid (by rw [opt1, if_neg (of_decide_eq_false hq1.out), List.append_nil])
                    go_wp2_with fail
                    go_meet
                    case rel => rw [ho.out]; exact HI3.out
                  · have ho : Hid (L ++ opt1 d r = L ++ [0]) := Lib.hid (by rw [opt1, if_pos (of_decide_eq_true hq1.out)])
                    have hn20 : (0 : Int) < (n2 : Int) := by omega
                    go_wp2_with fail
                    go_meet
                    case rel => rw [ho.out]; exact HI3.out.put 0
                case rest =>
                  obtain ⟨y, hy⟩ : ∃ y, Hid (v.getD r 0 = y) := ⟨_, Lib.hid rfl⟩
                  have hy5 : y ≤ r := by rw [← hy.out]; exact Hv5.out r
                  have c0 := hcut.cell (j := r) (by omega)
                  rw [hy.out] at c0
                  have c1 := hcut.sign (j := y) (by omega)
                  have f1 := hcut.fro y
                  have hyn : (y : Int) < (n2 : Int) := by omega
                  have HI4 := Lib.hid hcut
                  clear hcut
                  go_upto_region 13 with fail
                  go_cut [65] (fun v48 wx => v48 = .bool q2 ∧ Inn w wx g cap w0.heap.size 4 n2 v (L ++ opt1 d r))
                  case first =>
                    rcases Nat.mod_two_eq_zero_or_one (d / 2) with h1 | h1
                    · have hA := Lib.hid (decide_eq_false (p := d / 2 % 2 = 1) (by omega))
                      have hq : Hid (false = q2) := Lib.hid (by rw [← hq2.out, h1]; simp)
                      clear h1
                      go_wp2_with (go_at_call 61; refine (c_bit2 d false _ hd8 hA.out).mono ?_; rintro e w' ⟨rfl, rfl⟩)
                      go_meet
                      case rel => exact ⟨by rw [← hq.out], HI4.out⟩
                    · have hA := Lib.hid (decide_eq_true (p := d / 2 % 2 = 1) (by omega))
                      by_cases h0 : 0 < r
                      · have hq : Hid (true = q2) := Lib.hid (by rw [← hq2.out, h1]; simp [h0])
                        have h0' : (0 : Int) < (r : Int) := by omega
                        clear h1
                        go_wp2_with (go_at_call 61; refine (c_bit2 d true _ hd8 hA.out).mono ?_; rintro e w' ⟨rfl, rfl⟩)
                        go_meet
                        case rel => exact ⟨by rw [← hq.out], HI4.out⟩
                      · have hq : Hid (false = q2) := Lib.hid (by rw [← hq2.out]; simp [h0])
                        have h0' : decide ((0 : Int) < (r : Int)) = false := by rw [decide_eq_false_iff_not]; omega
                        clear h1
                        go_wp2_with (go_at_call 61; refine (c_bit2 d true _ hd8 hA.out).mono ?_; rintro e w' ⟨rfl, rfl⟩)
                        go_meet
                        case rel => exact ⟨by rw [← hq.out], HI4.out⟩
                  case rest =>
                    obtain ⟨rfl, hI⟩ := hcut
                    have HI5 := Lib.hid hI
                    clear hI
                    go_upto_if 65 with fail
                    go_cut [48] (fun _v wx => Inn w wx g cap w0.heap.size 4 n2 v (L ++ opt1 d r ++ opt2 v d r))
                    case first =>
                      cases q2
                      · have ho : Hid (L ++ opt1 d r ++ opt2 v d r = L ++ opt1 d r) := Lib.hid (by rw [opt2, if_neg (of_decide_eq_false hq2.out), List.append_nil])
                        go_wp2_with fail
                        go_meet
                        case rel => rw [ho.out]; exact HI5.out
                      · have ho : Hid (L ++ opt1 d r ++ opt2 v d r = L ++ opt1 d r ++ [y]) := Lib.hid (by rw [opt2, if_pos (of_decide_eq_true hq2.out), hy.out])
                        have c0 := HI5.out.cell (j := r) (by omega)
                        rw [hy.out] at c0
                        have c1 := HI5.out.sign (j := y) (by omega)
                        have f1 := HI5.out.fro y
                        go_wp2_with fail
                        go_meet
                        case rel => rw [ho.out]; exact HI5.out.put y
                    case rest =>
                      have HI6 := Lib.hid hcut
                      clear hcut c0 c1 f1
                      obtain ⟨M, hM⟩ : ∃ M, Hid (L ++ opt1 d r ++ opt2 v d r = M) := ⟨_, Lib.hid rfl⟩
                      rw [hM.out] at HI6 hop
                      rcases Nat.mod_two_eq_zero_or_one (d / 4) with h1 | h1
                      · have hA := Lib.hid (decide_eq_false (p := d / 4 % 2 = 1) (by omega))
                        have ho : Hid (optsTo xs v h (k + 1) = M) := Lib.hid (by rw [hop.out, opt4, if_neg (by omega), List.append_nil])
                        clear h1
                        go_wp2_with fail
                        go_loopg [11] 0 (fun m a wx => a = .int .i64 1 ∧ Inn w wx g cap w0.heap.size 4 n2 v M)
                        case atStart => exact ⟨rfl, HI6.out⟩
                        case round =>
                          obtain ⟨rfl, hI⟩ := hrel
                          have HI7 := Lib.hid hI
                          clear hI
                          go_wp2_with (go_at_call 61; refine (c_bit4 d false _ hd8 hA.out).mono ?_; rintro e w' ⟨rfl, rfl⟩)
                          go_roundg (xs.length - (k + 1))
                          case measure => omega
                          case rel => exact ⟨k + 1, by omega, by omega, rfl, by go_num, by rw [hv.out, ho.out]; exact HI7.out⟩
                      · have hA := Lib.hid (decide_eq_true (p := d / 4 % 2 = 1) (by omega))
                        have ho : Hid (optsTo xs v h (k + 1) = M ++ splits v r (r / 2)) := Lib.hid (by rw [hop.out, opt4, if_pos h1])
                        clear h1
                        go_wp2_with fail
                        go_loopg [11] (r / 2) (fun m a wx => ∃ j : Nat, j ≤ r / 2 ∧ m = r / 2 - j ∧ a = .int .i64 ((j : Int) + 1) ∧ Inn w wx g cap w0.heap.size 4 n2 v (M ++ splits v r j))
                        case atStart => exact ⟨0, Nat.zero_le _, rfl, rfl, by simpa [splits] using HI6.out⟩
                        case round =>
                          obtain ⟨j, hj, rfl, rfl, hI⟩ := hrel
                          by_cases hj2 : j < r / 2
                          · obtain ⟨x, hx⟩ : ∃ x, Hid (v.getD (j + 1) 0 = x) := ⟨_, Lib.hid rfl⟩
                            obtain ⟨z, hz⟩ : ∃ z, Hid (v.getD (r - (j + 1)) 0 = z) := ⟨_, Lib.hid rfl⟩
                            have hx5 : x ≤ j + 1 := by rw [← hx.out]; exact Hv5.out _
                            have hz5 : z ≤ r - (j + 1) := by rw [← hz.out]; exact Hv5.out _
                            have hxz : x ^^^ z ≤ r := Nat.le_trans (xor_le_add x z) (by omega)
                            have hX : bits .xor .i64 (x : Int) (z : Int) = ((x ^^^ z : Nat) : Int) := i64_xor_nat x z (by omega) (by omega)
                            have hsp : Hid (M ++ splits v r (j + 1) = M ++ splits v r j ++ [x ^^^ z]) := Lib.hid (by rw [splits_succ, hx.out, hz.out, List.append_assoc])
                            have d0 := hI.cell (j := j + 1) (by omega)
                            have d1 := hI.cell (j := r - (j + 1)) (by omega)
                            rw [hx.out] at d0
                            rw [hz.out] at d1
                            have d2 := hI.sign (j := x ^^^ z) (by omega)
                            have d3 := hI.fro (x ^^^ z)
                            have hw : IntKind.i64.wrap ((r : Int) - ((j : Int) + 1)) = (r : Int) - ((j : Int) + 1) := IntWalk.i64_in _ (by omega)
                            have ht : ((r : Int) - ((j : Int) + 1)).toNat = r - (j + 1) := by omega
                            have ht0 : ((j : Int) + 1).toNat = j + 1 := by omega
                            have hb0 : (0 : Int) ≤ (r : Int) - ((j : Int) + 1) := by omega
                            have hb1 : (r : Int) - ((j : Int) + 1) < (h : Int) := by omega
                            have hb2 : (j : Int) + 1 < (h : Int) := by omega
                            have hb3 : (0 : Int) ≤ (j : Int) + 1 := by omega
                            have hb4 : 2 * ((j : Int) + 1) ≤ (r : Int) := by omega
                            have HI7 := Lib.hid hI
                            clear hI
                            generalize x ^^^ z = y2 at *
                            have hb5 : (0 : Int) ≤ (y2 : Int) := by omega
                            have hb6 : (y2 : Int) < (n2 : Int) := by omega
                            go_wp2_with (go_at_call 61; refine (c_bit4 d true _ hd8 hA.out).mono ?_; rintro e w' ⟨rfl, rfl⟩)
                            go_quiet (fail)
                            clear hw ht
                            go_wp2_with fail
                            go_roundg (r / 2 - (j + 1))
                            case measure => omega
                            case rel => exact ⟨j + 1, by omega, rfl, by go_num, by rw [hsp.out]; exact (HI7.out.drew _).put y2⟩
                          · obtain rfl : j = r / 2 := by omega
                            have HI7 := Lib.hid hI
                            clear hI
                            have hb4 : decide (2 * (((r / 2 : Nat) : Int) + 1) ≤ (r : Int)) = false := by rw [decide_eq_false_iff_not]; omega
                            go_wp2_with (go_at_call 61; refine (c_bit4 d true _ hd8 hA.out).mono ?_; rintro e w' ⟨rfl, rfl⟩)
                            go_roundg (xs.length - (k + 1))
                            case measure => omega
                            case rel => exact ⟨k + 1, by omega, by omega, rfl, by go_num, by rw [hv.out, ho.out]; exact HI7.out⟩
            · obtain rfl : k = h := by omega
              have fin : Hid (opts xs (vals xs k) k = optsTo xs (vals xs k) k k) := Lib.hid (by rw [opts, Nat.min_eq_right hk])
              have hk21 : decide ((k : Int) + 1 ≤ (k : Int)) = false := by rw [decide_eq_false_iff_not]; omega
              have HI2 := Lib.hid hI
              clear hI
              go_wp2_with fail
              go_meet
              case rel => rw [fin.out]; exact HI2.out
          · obtain rfl : k = xs.length := by omega
            have fin : Hid (opts xs (vals xs h) h = optsTo xs (vals xs h) h xs.length) := Lib.hid (by rw [opts, Nat.min_eq_left hkh])
            have hk21 : decide ((xs.length : Int) + 1 ≤ (xs.length : Int)) = false := by rw [decide_eq_false_iff_not]; omega
            have HI2 := Lib.hid hI
            clear hI
            go_wp2_with fail
            go_meet
            case rel => rw [fin.out]; exact HI2.out
      case rest =>
        have hml : mexN (opts xs (vals xs h) h) ≤ h := mexN_le (opts_low (vals_low xs h))
        have hnext : Hid (vals xs (h + 1) = vals xs h ++ [mexN (opts xs (vals xs h) h)]) := Lib.hid rfl
        have hall := Lib.hid (mexN_all (opts xs (vals xs h) h))
        have hnot := Lib.hid (mexN_not (opts xs (vals xs h) h))
        obtain ⟨M, hM⟩ : ∃ M, Hid (mexN (opts xs (vals xs h) h) = M) := ⟨_, Lib.hid rfl⟩
        rw [hM.out] at hml hnext hall hnot
        have HI8 := Lib.hid hcut
        clear hcut
        go_wp2_with fail
        go_loopg [13] M (fun m a wx => ∃ j : Nat, j ≤ M ∧ m = M - j ∧ a = .int .i64 j ∧ wx = wc)
        case atStart => exact ⟨0, Nat.zero_le _, rfl, rfl, rfl⟩
        case round =>
          obtain ⟨j, hj, rfl, rfl, rfl⟩ := hrel
          have hs := HI8.out.sign (j := j) (by omega)
          have hjn : (j : Int) < (n2 : Int) := by omega
          by_cases hjM : j < M
          · rw [decide_eq_true (hall.out j hjM)] at hs
            go_wp2_with fail
            go_roundg (M - (j + 1))
            case measure => omega
            case rel => exact ⟨j + 1, by omega, rfl, by go_num, rfl⟩
          · obtain rfl : j = M := by omega
            rw [decide_eq_false hnot.out] at hs
            have hne : ((j : Int) == (n2 : Int)) = false := by simp; omega
            have hown2 := HI8.out.own
            rw [vals_len] at hown2
            have hBw : w.heap.size ≤ wr.heap.size := HI8.out.below.size
            go_wp2_with (at_builtin; refine app1 _ 22 3 (.int .i64 0) 8 Try.underlying22 hI_int rfl rfl (.tmp 120) (.tmp 122) rfl w.heap.size _ _ _ rfl hown2 (.int .i64 (j : Int)) rfl rfl (by omega) (by omega) hBw ?_; intro g' cap' w' h1 h2 h3)
            go_roundg (n + 1 - (h + 1))
            case measure => have := Hlt.out; omega
            case rel =>
              refine ⟨h + 1, g', cap', Hlt.out, rfl, by go_num, rfl, ?_, ?_, HI8.out.below.grown h2 hBw (by intro q hq; have := Option.some.inj (show some g = some q from hq); omega)⟩
              · rw [hnext.out, natC, List.map_append]; exact h1
              · rcases h3 with h3 | h3
                · have := Option.some.inj (show some g = some g' from h3); omega
                · omega
    · obtain rfl : h = n + 1 := by omega
      have Hown := Lib.hid hown
      have Hb := Lib.hid hb
      clear hown hb
      go_wp2_with fail
      go_ret
      exact ⟨g, cap, by rw [vals_len]; rfl, by rw [vals_len]; exact Hown.out, Hb.out⟩
end Go.Proofs.Ytoeacocijcammaa
