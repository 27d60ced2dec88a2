/- The values of heaps, by the program: the walk of values. -/
import Derived.Test.YtoeacocijcammaaHvPlain
import Derived.Test.YtoeacocijcammaaHpA
import Derived.Test.YtoeacocijcammaaMarks
import Derived.Deep.DeepCutAuto
import Derived.Deep.WholeRow
import Derived.Deep.CutBlock
import Derived.Deep.LoopGhost
import Derived.OneCell
import Derived.StillTailTactics
namespace Go.Proofs.Ytoeacocijcammaa
open Go.RowKit

/-- Values as cells. -/
abbrev natC (v : List Nat) : List Value := v.map fun (x : Nat) => Value.int .i64 (x : Int)
theorem natC_get {v : List Nat} {j : Nat} (h : j < v.length) : (natC v)[j]? = some (.int .i64 (v.getD j 0 : Int)) := by simp [h]
/-- Within a round: the values so far lie in an own row, the signs in a row of b. -/
structure Inn (w wr : World) (g cap b T n : Nat) (v l : List Nat) : Prop where
  own : wr.ownsRow w.heap.size 3 1 (.slice (some ⟨g, 0, none⟩) v.length cap) v.length (natC v)
  seen : wr.rowIs b T n (fun j => .bool (decide (j ∈ l)))
  ne : g ≠ b
  low : w.heap.size ≤ b
  below : Below w.heap.size w wr
namespace Inn
variable {w wr : World} {g cap b T n : Nat} {v l : List Nat}
theorem put (h : Inn w wr g cap b T n v l) (x : Nat) : Inn w (wr.setCell ⟨b, x, none⟩ (.bool true)) g cap b T n v (l ++ [x]) :=
  ⟨ownsRow_setCell_other (a := ⟨b, x, none⟩) h.own (fun e => h.ne (Option.some.inj e)) _, (h.seen.set x (.bool true)).congr (fun j _ => by
    by_cases e : j = x
    · subst e; simp
    · simp [e]), h.ne, h.low, h.below.setCell h.low _⟩
theorem drew (h : Inn w wr g cap b T n v l) (k : Nat) : Inn w (wr.drewN k) g cap b T n v l :=
  ⟨h.own, h.seen, h.ne, h.low, Below.next h.below ((Q.refl wr).drew k).below⟩
theorem cell (h : Inn w wr g cap b T n v l) {j : Nat} (hj : j < v.length) : wr.cell? ⟨g, j, none⟩ = some (.int .i64 (v.getD j 0 : Int)) := by
  rw [h.own.cellAt j (by omega), natC_get hj]
theorem sign (h : Inn w wr g cap b T n v l) {j : Nat} (hj : j < n) : wr.cell? ⟨b, j, none⟩ = some (.bool (decide (j ∈ l))) := h.seen.cell hj
theorem fro (h : Inn w wr g cap b T n v l) (j : Nat) : wr.frozen? ⟨b, j, none⟩ = false := h.seen.frozen j
end Inn

theorem goodC_mem' {xs : List Int} (h : goodC xs = true) {k : Nat} (hk : k < xs.length) : 0 ≤ xs.getD k 0 ∧ xs.getD k 0 ≤ 7 :=
  (goodC_iff.1 h).2.2.1 (xs.getD k 0) (by simp [hk])
theorem zero512 : Try.zeroCells69 = Array.replicate 512 (.bool false) := by kernel_rfl
theorem run_zero512 (wr : World) : (storeCells ⟨wr.heap.size, 0, none⟩ Try.zeroCells69.toList).run Try.prog (wr.alloc (.cells Try.zeroCells69 69)) = .ok () (wr.alloc (.cells Try.zeroCells69 69)) :=
  run_storeCells_new (P := Try.prog) wr 69 Try.zeroCells69 Try.zeroCells69 (by kernel_rfl) rfl (by kernel_rfl)
theorem Inn.begin {w wr : World} {g cap : Nat} {v : List Nat} (ho : wr.ownsRow w.heap.size 3 1 (.slice (some ⟨g, 0, none⟩) v.length cap) v.length (natC v)) (hb : Below w.heap.size w wr) :
    Inn w (wr.alloc (.cells Try.zeroCells69 69)) g cap wr.heap.size 69 512 v [] :=
  ⟨ho.alloc _, by
    have := World.rowIs_alloc wr Try.zeroCells69 69 (fun _ => .bool false) (fun i hi => by
      rw [zero512] at hi ⊢
      simp at hi
      simp [hi])
    rw [show Try.zeroCells69.size = 512 by rw [zero512]; simp] at this
    exact this.congr (fun j _ => by simp), fun e => by
    have := (ho.lt g rfl).2
    omega, hb.size, hb.alloc hb.size _⟩
theorem nims_get {v : List Nat} (h : nims v = true) (j : Nat) : v.getD j 0 ≤ 255 := by
  rcases Nat.lt_or_ge j v.length with h1 | h1
  · have := (List.all_eq_true.1 h) (v.getD j 0) (by simp [h1])
    simpa using this
  · simp [List.getD, List.getElem?_eq_none h1]
theorem nims_false {v : List Nat} {j : Nat} (h : 255 < v.getD j 0) : nims v = false := by
  rw [← Bool.not_eq_true]
  intro k
  have := nims_get k j
  omega
theorem nims_more {v : List Nat} {m : Nat} (h : nims v = true) (hm : m ≤ 255) : nims (v ++ [m]) = true := by
  simp [nims] at h ⊢
  exact ⟨h, hm⟩
theorem bit_and (d : Nat) (hd : d < 8) : bits .and .i64 (d : Int) 1 = ((d % 2 : Nat) : Int) ∧ bits .and .i64 (d : Int) 2 = ((2 * (d / 2 % 2) : Nat) : Int) ∧ bits .and .i64 (d : Int) 4 = ((4 * (d / 4 % 2) : Nat) : Int) := by
  have h : d = 0 ∨ d = 1 ∨ d = 2 ∨ d = 3 ∨ d = 4 ∨ d = 5 ∨ d = 6 ∨ d = 7 := by omega
  rcases h with rfl | rfl | rfl | rfl | rfl | rfl | rfl | rfl <;> decide

set_option maxRecDepth 100000 in
set_option maxHeartbeats 3200000 in
theorem c_values (A : Option Addr) (c : Nat) (xs : List Int) (n : Nat) (w : World) (rd : RdI w A xs.length xs) (hg : goodC xs = true) (hn : n ≤ 300) :
    Calls Try.prog 47 #[.slice A xs.length c, .int .i64 n] w (ListP w (valsC xs n)) := by
  have hx6 : xs.length ≤ 6 := (goodC_iff.1 hg).2.1
  go_enter Try.func47, Try.ntmps47
  go_wp2_with fail
  go_loopg [6, 17] (n + 1) (fun m o i wr => ∃ (h g cap : Nat), h ≤ n + 1 ∧ m = n + 1 - h ∧ i = .int .i64 h ∧ o = .slice (some ⟨g, 0, none⟩) h cap ∧
      wr.ownsRow w.heap.size 3 1 (.slice (some ⟨g, 0, none⟩) h cap) h (natC (vals xs h)) ∧ w.heap.size ≤ g ∧ Below w.heap.size w wr ∧ Hid (nims (vals xs h) = true))
  case atStart => exact ⟨0, w.heap.size, 0, by omega, rfl, rfl, rfl, own_lit0 w _ _ (Nat.le_refl _), Nat.le_refl _, by go_grown, Lib.hid rfl⟩
  case round =>
    obtain ⟨w0, hw0⟩ : ∃ w0, w0 = wr := ⟨_, rfl⟩
    subst hw0
    obtain ⟨h, g, cap, hh, rfl, rfl, rfl, hown, hgw, hb, hnim⟩ := hrel
    by_cases hlt : h < n + 1
    · have hst := run_zero512 w0
      have hI : Inn w (w0.alloc (.cells Try.zeroCells69 69)) g cap w0.heap.size 69 512 (vals xs h) [] := Inn.begin (by rw [vals_len]; exact hown) hb
      have HI := Lib.hid hI
      clear hown hb hI
      go_upto_block 2 with fail
      have h300 : h ≤ 300 := by omega
      rw [show decide ((h : Int) < (n : Int) + 1) = true by rw [decide_eq_true_iff]; omega]
      have Hlt := Lib.hid hlt
      have Hh := Lib.hid hh
      clear hlt hh
      go_cut [23] (fun _v wx => Inn w wx g cap w0.heap.size 69 512 (vals xs h) (opts xs (vals xs h) h))
      case first =>
        clear hst
        go_wp2_with fail
        go_loopg [23] xs.length (fun m i wx => ∃ k : Nat, k ≤ xs.length ∧ k ≤ h ∧ m = xs.length - k ∧ i = .int .i64 k ∧ Inn w wx g cap w0.heap.size 69 512 (vals xs h) (optsTo xs (vals xs h) h k))
        case atStart => exact ⟨0, Nat.zero_le _, Nat.zero_le _, rfl, rfl, HI.out⟩
        case round =>
          obtain ⟨k, hk, hkh, rfl, rfl, hI⟩ := hrel
          by_cases hkl : k < xs.length
          · obtain ⟨b, off, rfl, _, hc⟩ := (rd.below hI.below).at_ hkl
            have hd := goodC_mem' hg hkl
            by_cases hk2 : k < h
            · obtain ⟨d, hdd⟩ := Int.eq_ofNat_of_zero_le hd.1
              rw [hdd] at hc
              have hd8 : d < 8 := by omega
              obtain ⟨r, hr⟩ : ∃ r, h - (k + 1) = r := ⟨_, rfl⟩
              have er : (h : Int) - (k : Int) - 1 = (r : Int) := by omega
              have hrh : r < h := by omega
              have hvl : (vals xs h).length = h := vals_len xs h
              have hop : Hid (optsTo xs (vals xs h) h (k + 1) = optsTo xs (vals xs h) h k ++ opt1 d r ++ opt2 (vals xs h) d r ++ opt4 (vals xs h) d r) := Lib.hid (by
                rw [optsTo, hdd, hr]; simp [optK])
              have hv5 : ∀ j, (vals xs h).getD j 0 ≤ 255 := nims_get hnim.out
              obtain ⟨L, hL⟩ : ∃ L, Hid (optsTo xs (vals xs h) h k = L) := ⟨_, Lib.hid rfl⟩
              obtain ⟨v, hv⟩ : ∃ v, Hid (vals xs h = v) := ⟨_, Lib.hid rfl⟩
              rw [hL.out, hv.out] at hI
              rw [hL.out, hv.out] at hop
              rw [hv.out] at hv5 hvl
              clear hdd hd hnim hr
              obtain ⟨q1, hq1⟩ : ∃ q, Hid (decide (d % 2 = 1 ∧ r = 0) = q) := ⟨_, Lib.hid rfl⟩
              obtain ⟨q2, hq2⟩ : ∃ q, Hid (decide (d / 2 % 2 = 1 ∧ 0 < r) = q) := ⟨_, Lib.hid rfl⟩
              have HI2 := Lib.hid hI
              clear hI
              go_upto_region 11 with fail
              go_cut [10, 11, 40] (fun v10 v11 v40 wx => v10 = .int .i64 d ∧ v11 = .int .i64 r ∧ v40 = .bool q1 ∧ Inn w wx g cap w0.heap.size 69 512 v L)
              case first =>
                rcases Nat.mod_two_eq_zero_or_one d with h1 | h1
                · have hA : bits .and .i64 (d : Int) 1 = 0 := by rw [(bit_and d hd8).1, h1]; rfl
                  have hq : Hid (false = q1) := Lib.hid (by rw [← hq1.out, h1]; simp)
                  go_wp2_with fail
                  go_meet
                  case rel => exact ⟨rfl, rfl, by rw [← hq.out], HI2.out⟩
                · have hA : bits .and .i64 (d : Int) 1 = 1 := by rw [(bit_and d hd8).1, h1]; rfl
                  by_cases h0 : r = 0
                  · have hq : Hid (true = q1) := Lib.hid (by rw [← hq1.out, h1, h0]; simp)
                    go_wp2_with fail
                    go_meet
                    case rel => exact ⟨rfl, by rw [h0], by rw [← hq.out], HI2.out⟩
                  · have hq : Hid (false = q1) := Lib.hid (by rw [← hq1.out]; simp [h0])
                    have h0' : ¬ (r : Int) = 0 := by omega
                    go_wp2_with fail
                    go_meet
                    case rel => exact ⟨rfl, rfl, by rw [← hq.out]; simp [h0], HI2.out⟩
              case rest =>
                obtain ⟨rfl, rfl, rfl, hI⟩ := hcut
                have c0 := hI.sign (j := 0) (by omega)
                have f0 := hI.fro 0
                have HI3 := Lib.hid hI
                clear hI
                go_upto_if 40 with fail
                go_cut [9] (fun _v wx => Inn w wx g cap w0.heap.size 69 512 v (L ++ opt1 d r))
                case first =>
                  cases q1
                  · have ho : Hid (L ++ opt1 d r = L) := Lib.hid (by rw [opt1, if_neg (of_decide_eq_false hq1.out), List.append_nil])
                    go_wp2_with fail
                    go_meet
                    case rel => rw [ho.out]; exact HI3.out
                  · have ho : Hid (L ++ opt1 d r = L ++ [0]) := Lib.hid (by rw [opt1, if_pos (of_decide_eq_true hq1.out)])
                    go_wp2_with fail
                    go_meet
                    case rel => rw [ho.out]; exact HI3.out.put 0
                case rest =>
                  have HI4 := Lib.hid hcut
                  clear hcut
                  go_upto_region 13 with fail
                  go_cut [48] (fun v48 wx => v48 = .bool q2 ∧ Inn w wx g cap w0.heap.size 69 512 v (L ++ opt1 d r))
                  case first =>
                    rcases Nat.mod_two_eq_zero_or_one (d / 2) with h1 | h1
                    · have hA : bits .and .i64 (d : Int) 2 = 0 := by rw [(bit_and d hd8).2.1, h1]; rfl
                      have hq : Hid (false = q2) := Lib.hid (by rw [← hq2.out, h1]; simp)
                      go_wp2_with fail
                      go_meet
                      case rel => exact ⟨by rw [← hq.out], HI4.out⟩
                    · have hA : bits .and .i64 (d : Int) 2 = 2 := by rw [(bit_and d hd8).2.1, h1]; rfl
                      have hq : Hid (decide (0 < r) = q2) := Lib.hid (by rw [← hq2.out, h1]; simp)
                      go_wp2_with fail
                      go_meet
                      case rel => exact ⟨by rw [← hq.out], HI4.out⟩
                  case rest =>
                    obtain ⟨rfl, hI⟩ := hcut
                    obtain ⟨y, hy⟩ : ∃ y, Hid (v.getD r 0 = y) := ⟨_, Lib.hid rfl⟩
                    have hy5 : y ≤ 255 := by rw [← hy.out]; exact hv5 r
                    have c0 := hI.cell (j := r) (by omega)
                    rw [hy.out] at c0
                    have c1 := hI.sign (j := y) (by omega)
                    have f1 := hI.fro y
                    have HI5 := Lib.hid hI
                    clear hI
                    go_upto_if 48 with fail
                    go_cut [9] (fun _v wx => Inn w wx g cap w0.heap.size 69 512 v (L ++ opt1 d r ++ opt2 v d r))
                    case first =>
                      cases q2
                      · have ho : Hid (L ++ opt1 d r ++ opt2 v d r = L ++ opt1 d r) := Lib.hid (by rw [opt2, if_neg (of_decide_eq_false hq2.out), List.append_nil])
                        go_wp2_with fail
                        go_meet
                        case rel => rw [ho.out]; exact HI5.out
                      · have ho : Hid (L ++ opt1 d r ++ opt2 v d r = L ++ opt1 d r ++ [y]) := Lib.hid (by rw [opt2, if_pos (of_decide_eq_true hq2.out), hy.out])
                        go_wp2_with fail
                        go_meet
                        case rel => rw [ho.out]; exact HI5.out.put y
                    case rest =>
                      have HI6 := Lib.hid hcut
                      clear hcut c0 c1 f1
                      obtain ⟨M, hM⟩ : ∃ M, Hid (L ++ opt1 d r ++ opt2 v d r = M) := ⟨_, Lib.hid rfl⟩
                      rw [hM.out] at HI6 hop
                      rcases Nat.mod_two_eq_zero_or_one (d / 4) with h1 | h1
                      · have hA : bits .and .i64 (d : Int) 4 = 0 := by rw [(bit_and d hd8).2.2, h1]; rfl
                        have ho : Hid (optsTo xs v h (k + 1) = M) := Lib.hid (by rw [hop.out, opt4, if_neg (by omega), List.append_nil])
                        go_wp2_with fail
                        go_loopg [12] 0 (fun m a wx => a = .int .i64 1 ∧ Inn w wx g cap w0.heap.size 69 512 v M)
                        case atStart => exact ⟨rfl, HI6.out⟩
                        case round =>
                          obtain ⟨rfl, hI⟩ := hrel
                          have HI7 := Lib.hid hI
                          clear hI
                          go_wp2_with fail
                          go_roundg (xs.length - (k + 1))
                          case measure => omega
                          case rel => exact ⟨k + 1, by omega, by omega, rfl, by go_num, by rw [hv.out, ho.out]; exact HI7.out⟩
                      · have hA : bits .and .i64 (d : Int) 4 = 4 := by rw [(bit_and d hd8).2.2, h1]; rfl
                        have ho : Hid (optsTo xs v h (k + 1) = M ++ splits v r (r / 2)) := Lib.hid (by rw [hop.out, opt4, if_pos h1])
                        go_wp2_with fail
                        go_loopg [12] (r / 2) (fun m a wx => ∃ j : Nat, j ≤ r / 2 ∧ m = r / 2 - j ∧ a = .int .i64 ((j : Int) + 1) ∧ Inn w wx g cap w0.heap.size 69 512 v (M ++ splits v r j))
                        case atStart => exact ⟨0, Nat.zero_le _, rfl, rfl, by simpa [splits] using HI6.out⟩
                        case round =>
                          obtain ⟨j, hj, rfl, rfl, hI⟩ := hrel
                          by_cases hj2 : j < r / 2
                          · obtain ⟨x, hx⟩ : ∃ x, Hid (v.getD (j + 1) 0 = x) := ⟨_, Lib.hid rfl⟩
                            obtain ⟨z, hz⟩ : ∃ z, Hid (v.getD (r - (j + 1)) 0 = z) := ⟨_, Lib.hid rfl⟩
                            have hx5 : x ≤ 255 := by rw [← hx.out]; exact hv5 _
                            have hz5 : z ≤ 255 := by rw [← hz.out]; exact hv5 _
                            have hxz : x ^^^ z < 512 := Nat.lt_of_lt_of_le (Nat.xor_lt_two_pow (n := 8) (by omega) (by omega)) (by decide)
                            have hX : bits .xor .i64 (x : Int) (z : Int) = ((x ^^^ z : Nat) : Int) := i64_xor_nat x z (by omega) (by omega)
                            have hsp : Hid (M ++ splits v r (j + 1) = M ++ splits v r j ++ [x ^^^ z]) := Lib.hid (by rw [splits_succ, hx.out, hz.out, List.append_assoc])
                            have d0 := hI.cell (j := j + 1) (by omega)
                            have d1 := hI.cell (j := r - (j + 1)) (by omega)
                            rw [hx.out] at d0
                            rw [hz.out] at d1
                            have d2 := hI.sign (j := x ^^^ z) hxz
                            have d3 := hI.fro (x ^^^ z)
                            have hw : IntKind.i64.wrap ((r : Int) - ((j : Int) + 1)) = (r : Int) - ((j : Int) + 1) := IntWalk.i64_in _ (by omega)
                            have ht : ((r : Int) - ((j : Int) + 1)).toNat = r - (j + 1) := by omega
                            have ht0 : ((j : Int) + 1).toNat = j + 1 := by omega
                            have hb0 : (0 : Int) ≤ (r : Int) - ((j : Int) + 1) := by omega
                            have hb1 : (r : Int) - ((j : Int) + 1) < (h : Int) := by omega
                            have hb2 : (j : Int) + 1 < (h : Int) := by omega
                            have hb3 : (0 : Int) ≤ (j : Int) + 1 := by omega
                            have hb4 : (j : Int) + 1 ≤ (r : Int) := by omega
                            have HI7 := Lib.hid hI
                            clear hI
                            generalize x ^^^ z = y2 at *
                            have hb5 : (0 : Int) ≤ (y2 : Int) := by omega
                            have hb6 : (y2 : Int) < 512 := by omega
                            go_upto_region 18 with fail
                            go_still_tail 12, (by kernel_rfl)
                            clear hw ht
                            go_wp2_with fail
                            go_roundg (r / 2 - (j + 1))
                            case measure => omega
                            case rel => exact ⟨j + 1, by omega, rfl, by go_num, by rw [hsp.out]; exact (HI7.out.drew 1).put y2⟩
                          · obtain rfl : j = r / 2 := by omega
                            have HI7 := Lib.hid hI
                            clear hI
                            go_wp2_with fail
                            go_roundg (xs.length - (k + 1))
                            case measure => omega
                            case rel => exact ⟨k + 1, by omega, by omega, rfl, by go_num, by rw [hv.out, ho.out]; exact HI7.out⟩
            · obtain rfl : k = h := by omega
              have fin : Hid (opts xs (vals xs k) k = optsTo xs (vals xs k) k k) := Lib.hid (by rw [opts, Nat.min_eq_right hk])
              have HI2 := Lib.hid hI
              clear hI
              go_wp2_with fail
              go_meet
              case rel => rw [fin.out]; exact HI2.out
          · obtain rfl : k = xs.length := by omega
            have fin : Hid (opts xs (vals xs h) h = optsTo xs (vals xs h) h xs.length) := Lib.hid (by rw [opts, Nat.min_eq_left hkh])
            have HI2 := Lib.hid hI
            clear hI
            go_wp2_with fail
            go_meet
            case rel => rw [fin.out]; exact HI2.out
      case rest =>
        clear hst
        have hml : mexN (opts xs (vals xs h) h) ≤ h := mexN_le (opts_low (vals_low xs h))
        have hnext : Hid (vals xs (h + 1) = vals xs h ++ [mexN (opts xs (vals xs h) h)]) := Lib.hid rfl
        have hall := Lib.hid (mexN_all (opts xs (vals xs h) h))
        have hnot := Lib.hid (mexN_not (opts xs (vals xs h) h))
        obtain ⟨M, hM⟩ : ∃ M, Hid (mexN (opts xs (vals xs h) h) = M) := ⟨_, Lib.hid rfl⟩
        rw [hM.out] at hml hnext hall hnot
        have HI8 := Lib.hid hcut
        clear hcut
        go_wp2_with fail
        go_loopg [13] M (fun m a wx => ∃ j : Nat, j ≤ M ∧ m = M - j ∧ a = .int .i64 j ∧ wx = wc)
        case atStart => exact ⟨0, Nat.zero_le _, rfl, rfl, rfl⟩
        case round =>
          obtain ⟨j, hj, rfl, rfl, rfl⟩ := hrel
          have hs := HI8.out.sign (j := j) (by omega)
          by_cases hjM : j < M
          · rw [decide_eq_true (hall.out j hjM)] at hs
            go_wp2_with fail
            go_roundg (M - (j + 1))
            case measure => omega
            case rel => exact ⟨j + 1, by omega, rfl, by go_num, rfl⟩
          · obtain rfl : j = M := by omega
            rw [decide_eq_false hnot.out] at hs
            by_cases h255 : 255 < j
            · have fin : Hid (valsC xs n = ([], false)) := Lib.hid (by
                have : nims (vals xs (n + 1)) = false := nims_false (j := h) (by rw [vals_get xs (by have := Hlt.out; omega), hM.out]; exact h255)
                simp [valsC, this])
              have Hb := Lib.hid HI8.out.below
              go_wp2_with fail
              exact bodyPost_ret (results_tmp2 rfl _ _ _) rfl (ListP.none fin.out rfl Hb.out)
            · have hnm := Lib.hid (nims_more hnim.out (m := j) (by omega))
              rw [← hnext.out] at hnm
              have hown2 := HI8.out.own
              rw [vals_len] at hown2
              have hBw : w.heap.size ≤ wr.heap.size := HI8.out.below.size
              go_wp2_with (at_builtin; refine app1 _ 22 3 (.int .i64 0) 8 Try.underlying22 hI_int rfl rfl (.tmp 85) (.tmp 87) rfl w.heap.size _ _ _ rfl hown2 (.int .i64 (j : Int)) rfl rfl (by omega) (by omega) hBw ?_; intro g' cap' w' h1 h2 h3)
              go_roundg (n + 1 - (h + 1))
              case measure => have := Hlt.out; omega
              case rel =>
                refine ⟨h + 1, g', cap', Hlt.out, rfl, by go_num, rfl, ?_, ?_, HI8.out.below.grown h2 hBw (by intro q hq; have := Option.some.inj (show some g = some q from hq); omega), hnm⟩
                · rw [hnext.out, natC, List.map_append]; exact h1
                · rcases h3 with h3 | h3
                  · have := Option.some.inj (show some g = some g' from h3); omega
                  · omega
    · obtain rfl : h = n + 1 := by omega
      have fin : Hid (valsC xs n = ((vals xs (n + 1)).map fun (x : Nat) => (x : Int), true)) := Lib.hid (by rw [valsC, if_pos hnim.out])
      have Hown := Lib.hid hown
      have Hb := Lib.hid hb
      clear hown hb
      go_wp2_with fail
      refine bodyPost_ret (results_tmp2 rfl _ _ _) rfl ⟨some ⟨g, 0, none⟩, cap, ?_, ?_, Hb.out⟩
      · rw [fin.out]; simp [vals_len]
      · rw [fin.out]
        simp only [OwnI, List.length_map, vals_len, List.map_map]
        exact Hown.out
end Go.Proofs.Ytoeacocijcammaa
